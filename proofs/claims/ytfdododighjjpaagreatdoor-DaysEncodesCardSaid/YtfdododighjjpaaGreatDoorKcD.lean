/- Package keccak: a block is taken in. -/
import Derived.Test.YtfdododighjjpaaGreatDoorKcC
namespace Go.Proofs.YtfdododighjjpaaGreatDoor.Kc
open Go.RowKit Go.PlainAid Go.Proofs.YtfdododighjjpaaGreatDoor.Wi
set_option linter.unusedVariables false
set_option linter.unusedSimpArgs false
set_option maxHeartbeats 4000000
set_option maxRecDepth 20000

/-- The word of eight bytes from place o on: after k bytes. -/
def wS (f : Nat → Int) (o : Nat) : Nat → Int
  | 0 => 0
  | k + 1 => bits .or .u64 (IntKind.u64.wrap (wS f o k * 256)) (f (o + (7 - k)))
def aS (f : Nat → Int) (i : Nat) (A : Nat → Int) : Nat → Int := upd A i (bits .xor .u64 (A i) (wS f (8 * i) 8))
def absF (f A : Nat → Int) : Nat → Int := permF (it (aS f) 17 A)
/-- The bytes of a block. -/
def By (W : World) (b n : Nat) (f : Nat → Int) : Prop := ∀ j, j < n → W.cell? ⟨b, j, none⟩ = some (.int .u8 (f j))
theorem absorb_any (p b : Nat) (A f : Nat → Int) (w : World) (h : Wd .u64 w p 0 25 A) (hf : By w b 136 f) (hf2 : ∀ j, 0 ≤ f j ∧ f j < 256) (hK : Kt w) (hpb : p ≠ b) (hp1 : p ≠ 4) (hp2 : p ≠ 5) :
    Calls Tryz.prog 92 #[.pointer (some ⟨p, 0, none⟩), .slice (some ⟨b, 0, none⟩) 136 136] w fun e w' => (∃ v, e = .returned v) ∧ Wd .u64 w' p 0 25 (absF f A) ∧ Kg p w w' := by
  have HK := Lib.hid hK
  have HA := Lib.hid h
  have HF := Lib.hid hf
  have HF2 := Lib.hid hf2
  have hpl := h.lt (by omega)
  have hbl : b < w.heap.size := World.block_lt_of_cell? w _ (hf 0 (by omega))
  clear hK h hf hf2
  go_enter Tryz.func92, Tryz.ntmps92
  go_wp2_with fail
  go_loopw [7] (fun v wr => ∃ t : Nat, t ≤ 17 ∧ v = .int .i64 t ∧ Hid (Wd .u64 wr p 0 25 (it (aS f) t A)) ∧ Hid (Kg p w wr)) (fun v _ => 17 - (intOf v).toNat)
  case atStart => exact ⟨0, by omega, rfl, HA.out, Kg.of (Below.refl _ _)⟩
  case round =>
    obtain ⟨t, ht, rfl, hA, hG⟩ := hrel
    obtain ⟨As, hAs⟩ : ∃ As, it (aS f) t A = As := ⟨_, rfl⟩
    rw [hAs] at hA
    have HAS := Lib.hid hAs
    clear hAs
    by_cases hlt : t < 17
    · have ht0 : (0 : Int) ≤ (t : Int) := Int.natCast_nonneg _
      have ht1 : (t : Int) < 17 := by omega
      have ht2 : (t : Int) < 25 := by omega
      go_upto_block 2 with fail
      go_cut [5] (fun v wx => v = .int .u64 (wS f (8 * t) 8) ∧ wx = wr)
      case first =>
        go_wp2_with fail
        go_loopw [5, 6] (fun v5 v6 wx => ∃ k : Nat, k ≤ 8 ∧ v5 = .int .u64 (wS f (8 * t) k) ∧ v6 = .int .i64 (7 - (k : Int)) ∧ wx = wr) (fun _ v _ => (intOf v + 1).toNat)
        case atStart => exact ⟨0, by omega, rfl, rfl, rfl⟩
        case round =>
          obtain ⟨k, hk, rfl, rfl, rfl⟩ := hrel
          by_cases hk8 : k < 8
          · obtain ⟨q, hq⟩ : ∃ q, 7 - k = q := ⟨_, rfl⟩
            have eq1 : 7 - (k : Int) = (q : Int) := by omega
            have hq0 : (0 : Int) ≤ (q : Int) := Int.natCast_nonneg _
            have hq7 : q ≤ 7 := by omega
            have hw1 : IntKind.i64.wrap (8 * (t : Int)) = 8 * (t : Int) := IntWalk.i64_in _ (by omega)
            have hw2 : IntKind.i64.wrap (8 * (t : Int) + (q : Int)) = 8 * (t : Int) + (q : Int) := IntWalk.i64_in _ (by omega)
            have hw3 : IntKind.i64.wrap ((q : Int) - 1) = (q : Int) - 1 := IntWalk.i64_in _ (by omega)
            have hi1 : 8 * (t : Int) + (q : Int) < 136 := by omega
            have hi2 : (0 : Int) ≤ 8 * (t : Int) + (q : Int) := by omega
            have hi3 : (8 * (t : Int) + (q : Int)).toNat = 8 * t + q := by omega
            have c0 := (hG.out.cell (j := 8 * t + q) hbl (Ne.symm hpb) (Ne.symm hpb)).trans (HF.out (8 * t + q) (by omega))
            have hb := HF2.out (8 * t + q)
            have HW : Hid (wS f (8 * t) (k + 1) = bits .or .u64 (IntKind.u64.wrap (wS f (8 * t) k * 256)) (f (8 * t + q))) := by show _ = _; rw [← hq]; rfl
            have hcv : f (8 * t + q) % 18446744073709551616 = f (8 * t + q) := by omega
            rw [eq1]
            generalize f (8 * t + q) = fv at c0 HW hcv hb
            generalize wS f (8 * t) k = wv at HW ⊢
            go_wp2_with fail
            go_roundw
            case rel => exact ⟨k + 1, by omega, by rw [HW.out], by congr 1; omega, trivial⟩
            case measure => simp [intOf]
          · obtain rfl : k = 8 := by omega
            go_wp2_with fail
            go_meet
            exact ⟨rfl, rfl⟩
      case rest =>
        obtain ⟨rfl, rfl⟩ := hcut
        obtain ⟨a0, f0⟩ := hA.out t (by omega)
        have HAN := Lib.hid (hA.out.set (j := t) (by omega) (bits .xor .u64 (As t) (wS f (8 * t) 8)))
        have HGN := Lib.hid (kg_own hG.out (0 + t) (.int .u64 (bits .xor .u64 (As t) (wS f (8 * t) 8))))
        have HST : Hid (it (aS f) (t + 1) A = upd As t (bits .xor .u64 (As t) (wS f (8 * t) 8))) := by show _ = _; rw [it_succ, HAS.out]; rfl
        rw [Nat.zero_add] at a0 f0 HAN HGN
        generalize wS f (8 * t) 8 = wv at HAN HGN HST ⊢
        generalize As t = av at a0 HAN HGN HST
        go_wp2_with fail
        go_region
        clear a0 f0
        go_wp2_with fail
        go_roundw
        case rel => exact ⟨t + 1, by omega, by go_num, by rw [HST.out]; exact HAN.out.drew, kg_drew HGN.out⟩
        case measure => simp [intOf]; omega
    · obtain rfl : t = 17 := by omega
      have HP := Lib.hid (permute_any p As wr hA.out (HK.out.kg hG.out hp1 hp2) hp1 hp2)
      go_wp2_with (go_at_call 119; refine HP.out.mono ?_; rintro e w1 ⟨⟨v, rfl⟩, hw, hg⟩; have HW := Lib.hid hw; have HG1 := Lib.hid hg; clear hw hg)
      go_end0
      exact ⟨⟨_, rfl⟩, by unfold absF; rw [HAS.out]; exact HW.out, hG.out.tr HG1.out⟩
end Go.Proofs.YtfdododighjjpaaGreatDoor.Kc
