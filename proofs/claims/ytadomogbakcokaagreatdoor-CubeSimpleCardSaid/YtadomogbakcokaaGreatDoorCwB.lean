/- Contracts: the reader's number and take. -/
import Derived.Test.YtadomogbakcokaaGreatDoorCwA
namespace Go.Proofs.YtadomogbakcokaaGreatDoor
open Go.RowKit Go.PlainAid
set_option linter.unusedVariables false
set_option linter.unusedSimpArgs false
set_option maxHeartbeats 4000000
set_option maxRecDepth 20000

/-- What number answers: one byte below 128 is taken; else there is none, or a number from 128 on. -/
def NumR (ps : List Nat) (n v k : Nat) : Prop := (k = 1 ∧ ps[0]? = some v ∧ v < 128) ∨ ((∀ b, ps[0]? = some b → ¬ b < 128) ∧ (k = 0 ∨ (128 ≤ v ∧ v < 18446744073709551616 ∧ k ≤ n)))
theorem u8_and127 (b : Nat) (hb : b < 256) : bits BinOp.and IntKind.u8 (b : Int) 127 = ((b % 128 : Nat) : Int) := by
  have e : ∀ b : Nat, b < 256 → bits BinOp.and IntKind.u8 (b : Int) 127 = ((b % 128 : Nat) : Int) := by decide +kernel
  exact e b hb
theorem seven_or (v r : Nat) (hv : v < 144115188075855872) (hr : r < 128) : bits BinOp.or IntKind.u64 ((v : Int) * 128) (r : Int) = ((v * 128 + r : Nat) : Int) := by
  have h1 := u64_or_nat (v * 128) r (by omega) (by omega)
  have h2 : v * 128 ||| r = v * 128 + r := by
    have := (Nat.two_pow_add_eq_or_of_lt (i := 7) (b := r) hr v).symm
    rw [show v * 128 = 2 ^ 7 * v by rw [Nat.mul_comm]]
    exact this
  rw [h2] at h1
  rw [← h1, Int.natCast_mul]
  rfl
theorem or_zero (r : Nat) (hr : r < 128) : bits BinOp.or IntKind.u64 0 (r : Int) = (r : Int) := by
  have h := seven_or 0 r (by omega) hr
  simpa using h
theorem Bw.at0 {W : World} {a : Option Addr} {n c k : Nat} {ps : List Nat} (h : Bw W a n c ps) (hk : k < n) : ∃ b o, a = some ⟨b, o, none⟩ ∧ b < W.heap.size ∧ W.cell? ⟨b, o + k, none⟩ = some (.int .u8 (wd ps k : Nat)) ∧ wd ps k < 256 ∧ ps[k]? = some (wd ps k) := by
  obtain ⟨h1, h2, h3, h4, h5⟩ := h
  have hkl : k < ps.length := by omega
  rcases h5 with h5 | ⟨b, o, rfl, h6, h7⟩
  · omega
  · refine ⟨b, o, rfl, h6, h7 k hk, ?_, ?_⟩
    · rw [wd_get hkl]; exact h4 _ (List.getElem_mem _)
    · rw [wd_get hkl]; exact List.getElem?_eq_getElem hkl
theorem number_any (g : Nat) (a : Option Addr) (n c : Nat) (ps : List Nat) (e : Int) (W : World) (h : Rd W g a n c ps e) (hn : n ≤ 1000) :
    Calls Tryz.prog 137 #[.pointer (some ⟨g, 0, none⟩)] W fun r W' => ∃ v k : Nat, r = .returned (.tuple #[.int .u64 (v : Nat), .int .i64 (k : Nat)]) ∧ NumR ps n v k ∧ Below W.heap.size W W' := by
  have q0 := h.1.at.1
  have q1 := h.1.at.2.1
  have HP := Lib.hid h.2.1
  have hcap := h.2.1.2.1
  have hcap2 := h.2.1.2.2.1
  have HL := Lib.hid h.2.1.1
  clear h
  go_enter Tryz.func137, Tryz.ntmps137
  go_wp2_with fail
  go_loopw [4, 12] (fun u i wr => ∃ k v : Nat, k ≤ n ∧ i = .int .i64 k ∧ u = .int .u64 (v : Nat) ∧ v < 18446744073709551616 ∧ (k = 0 → v = 0) ∧ (0 < k → 1 ≤ v ∧ ∀ b, ps[0]? = some b → ¬ b < 128) ∧ Below W.heap.size W wr) (fun _ v _ => n - (intOf v).toNat)
  case atStart => exact ⟨0, 0, Nat.zero_le _, rfl, rfl, by omega, fun _ => rfl, fun h => by omega, Below.refl _ _⟩
  case round =>
    obtain ⟨k, v, hk, rfl, rfl, hv, hv0, hv1, hB⟩ := hrel
    have HV0 := Lib.hid hv0
    have HV1 := Lib.hid hv1
    clear hv0 hv1
    by_cases hkn : k < n
    · obtain ⟨bb, oo, rfl, hbl, hc, hb256, hat⟩ := (HP.out.below hB).at0 hkn
      obtain ⟨b, eb⟩ : ∃ b, wd ps k = b := ⟨_, rfl⟩
      rw [eb] at hc hb256 hat
      have HAT := Lib.hid hat
      have hj0 : (0 : Int) ≤ (k : Int) := Int.natCast_nonneg _
      have hj1 : (k : Int) < (n : Int) := by omega
      clear eb hat
      by_cases hk0 : k = 0
      · subst hk0
        obtain rfl := HV0.out rfl
        rw [Nat.add_zero] at hc
        by_cases hb1 : b = 128
        · subst hb1
          go_wp2_with fail
          go_ret2
          exact ⟨0, 0, rfl, .inr ⟨fun b hb => by rw [HAT.out] at hb; cases hb; omega, .inl rfl⟩, hB⟩
        · by_cases hb2 : b < 128
          · have hand := u8_and127 b hb256
            rw [Nat.mod_eq_of_lt hb2] at hand
            have hor := or_zero b hb2
            go_wp2_with fail
            go_ret2
            exact ⟨b, 1, rfl, .inl ⟨rfl, HAT.out, hb2⟩, hB⟩
          · have hand := u8_and127 b hb256
            obtain ⟨r, er⟩ : ∃ r, b % 128 = r := ⟨_, rfl⟩
            rw [er] at hand
            have hr0 : Hid (1 ≤ r ∧ r < 128) := ⟨by omega, by omega⟩
            have hr1 : r < 128 := hr0.out.2
            have hor := or_zero r hr1
            have HB2 := Lib.hid hb2
            clear er
            go_wp2_with fail
            go_roundw
            case rel => exact ⟨1, r, by omega, by go_num, by go_num, by omega, fun h => by omega, fun _ => ⟨hr0.out.1, fun b' hb' => by rw [HAT.out] at hb'; cases hb'; exact HB2.out⟩, hB⟩
            case measure => simp [intOf]; omega
      · have hk1 : (0 : Int) < (k : Int) := by omega
        obtain ⟨hv1, hfst⟩ := HV1.out (by omega)
        have HF := Lib.hid hfst
        clear hfst
        by_cases hbig : 144115188075855871 < v
        · have hbig2 : (144115188075855871 : Int) < (v : Int) := by omega
          go_wp2_with fail
          go_ret2
          exact ⟨0, 0, rfl, .inr ⟨HF.out, .inl rfl⟩, hB⟩
        · have hbig2 : ¬ (144115188075855871 : Int) < (v : Int) := by omega
          have hand := u8_and127 b hb256
          obtain ⟨r, er⟩ : ∃ r, b % 128 = r := ⟨_, rfl⟩
          rw [er] at hand
          have hr1 : r < 128 := by omega
          have hor := seven_or v r (by omega) hr1
          obtain ⟨u, eu⟩ : ∃ u : Nat, v * 128 + r = u := ⟨_, rfl⟩
          rw [eu] at hor
          have hu : Hid (128 ≤ u ∧ u < 18446744073709551616) := ⟨by omega, by omega⟩
          clear eu er
          by_cases hb2 : b < 128
          · go_wp2_with fail
            go_ret2
            exact ⟨u, k + 1, rfl, .inr ⟨HF.out, .inr ⟨hu.out.1, hu.out.2, by omega⟩⟩, hB⟩
          · go_wp2_with fail
            go_roundw
            case rel => exact ⟨k + 1, u, by omega, by go_num, by go_num, hu.out.2, fun h => by omega, fun _ => ⟨by have := hu.out.1; omega, HF.out⟩, hB⟩
            case measure => simp [intOf]; omega
    · have hkn' : k = n := by omega
      subst hkn'
      have HX : Hid (∀ b, ps[0]? = some b → ¬ b < 128) := by
        intro b hb
        by_cases hk0 : k = 0
        · subst hk0
          have := (List.getElem?_eq_some_iff.1 hb).1
          have := HL.out
          omega
        · exact (HV1.out (by omega)).2 b hb
      go_wp2_with fail
      go_ret2
      exact ⟨0, 0, rfl, .inr ⟨HX.out, .inl rfl⟩, hB⟩
end Go.Proofs.YtadomogbakcokaaGreatDoor
