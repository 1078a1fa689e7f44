/- Contracts: the reference's Spans; the law's Fit, Make. -/
import Derived.Test.YtfdododighjjpaaGreatDoorDaL
import Derived.Test.YtfdododighjjpaaGreatDoorDaJ
import Derived.Test.YtfdododighjjpaaGreatDoorReg
namespace Go.Proofs.YtfdododighjjpaaGreatDoor.Dy
open Go.RowKit Go.PlainAid
set_option linter.unusedVariables false
set_option linter.unusedSimpArgs false
set_option maxHeartbeats 2000000

/-- The spans of flags. -/
def SpanP (T : TypeId) (w : World) (S : Int → Bool) (e : Ending) (w' : World) : Prop :=
  ∃ v r, e = .returned v ∧ RowKit.Below w.heap.size w w' ∧ Os T w' w.heap.size v r ∧ Can r ∧ ∀ d, Dm r d = (inD d && S d)
set_option maxRecDepth 100000 in
theorem rspans_n (N : Nat) (hN : N = 30001) (a : Option Addr) (cap : Nat) (S : Int → Bool) (w : World) (h : Fl w a cap S) :
    Calls Tryz.prog 37 #[.slice a N cap] w (SpanP 61 w S) := by
  obtain ⟨i0, hi, hz0, hz1, hz2⟩ := info_parts infoPair
  obtain ⟨h1, h2, b, o, rfl, hb, hc⟩ := h
  rw [← hN] at h1
  have HC := Lib.hid hc
  have HN := Lib.hid hN
  clear hc hN
  unfold maxLen at h2
  go_enter Tryz.func37, Tryz.ntmps37
  go_wp2_with fail
  go_loopw [3, 8] (fun v3 v8 wr => ∃ (k : Nat) (acc : List (Int × Int)), k ≤ N ∧ v8 = .int .i64 k ∧ Os 61 wr w.heap.size v3 acc ∧ acc.length ≤ k ∧ Hid (SpI S acc k) ∧ RowKit.Below w.heap.size w wr) (fun _ v _ => N - (intOf v).toNat)
  case atStart => exact ⟨0, [], by omega, rfl, Os.nil _ _ _, by simp, SpI.start S, RowKit.Below.refl _ _⟩
  case round =>
    obtain ⟨k, acc, hk, rfl, hown, hacc, hpre, hbel⟩ := hrel
    have hz := hbel.size
    have hk0 : (0 : Int) ≤ (k : Int) := Int.natCast_nonneg _
    by_cases hlt : k < N
    · have hck := (hbel.cell (p := ⟨b, o + k, none⟩) hb).trans (HC.out k (by have := HN.out; omega))
      have hk1 : (k : Int) < (N : Int) := by omega
      cases hS : S k with
      | false =>
        rw [hS] at hck
        have HST := Lib.hid (hpre.out.skip hS)
        clear hS hpre
        go_wp2_with fail
        go_roundw
        case rel => exact ⟨k + 1, acc, by omega, by go_num, hown, by omega, HST.out, hbel⟩
        case measure => simp [intOf]; omega
      | true =>
        rw [hS] at hck
        by_cases h0 : k = 0
        · have HST := Lib.hid (hpre.out.new hS (.inl h0) (by have := HN.out; omega))
          have hkz : (k : Int) ≤ 0 := by omega
          have hkn : ¬ (0 : Int) < (k : Int) := by omega
          have hown1 := hown.alloc (.cells #[.int .i64 k, .int .i64 k] 61)
          have hb3 := hbel.alloc hz (.cells #[.int .i64 k, .int .i64 k] 61)
          clear hS hpre h0
          go_wp2_with (at_builtin; refine wpList_append_ds rfl (.tmp 31) (.tmp 35) 62 61 rfl Tryz.underlying62 w.heap.size i0 hi hz0 hz1 hz2 _ _ rfl hown1 _ 1 1 [((k : Int), (k : Int))] rfl (Ds.one _ _ _ _ _ (by simp)) (by have := HN.out; omega) (by simp; omega) ?_)
          all_goals first | (exfalso; omega) | skip
          intro v4 w4 hown4 hgr4
          have hb4 := hb3.grown hgr4 (by simp; omega) (fun b hb => (hown.lt b hb).1)
          clear hgr4 hown1 hown hbel hb3
          go_wp2_with fail
          go_roundw
          case rel => exact ⟨k + 1, acc ++ [((k : Int), (k : Int))], by omega, by go_num, hown4, by simp at hacc ⊢; omega, HST.out, hb4⟩
          case measure => simp [intOf]; omega
        · have hkp : (0 : Int) < (k : Int) := by omega
          have hcp := (hbel.cell (p := ⟨b, o + (k - 1), none⟩) hb).trans (HC.out (k - 1) (by have := HN.out; omega))
          rw [show ((k - 1 : Nat) : Int) = (k : Int) - 1 by omega] at hcp
          cases hP : S ((k : Int) - 1) with
          | false =>
            rw [hP] at hcp
            have HST := Lib.hid (hpre.out.new hS (.inr hP) (by have := HN.out; omega))
            have hown1 := hown.alloc (.cells #[.int .i64 k, .int .i64 k] 61)
            have hb3 := hbel.alloc hz (.cells #[.int .i64 k, .int .i64 k] 61)
            clear hS hpre hP
            go_wp2_with (at_builtin; refine wpList_append_ds rfl (.tmp 31) (.tmp 35) 62 61 rfl Tryz.underlying62 w.heap.size i0 hi hz0 hz1 hz2 _ _ rfl hown1 _ 1 1 [((k : Int), (k : Int))] rfl (Ds.one _ _ _ _ _ (by simp)) (by have := HN.out; omega) (by simp; omega) ?_)
            all_goals first | (exfalso; omega) | skip
            intro v4 w4 hown4 hgr4
            have hb4 := hb3.grown hgr4 (by simp; omega) (fun b hb => (hown.lt b hb).1)
            clear hgr4 hown1 hown hbel hb3 hcp hck
            go_wp2_with fail
            go_roundw
            case rel => exact ⟨k + 1, acc ++ [((k : Int), (k : Int))], by omega, by go_num, hown4, by simp at hacc ⊢; omega, HST.out, hb4⟩
            case measure => simp [intOf]; omega
          | true =>
            rw [hP] at hcp
            obtain ⟨acc', x, rfl, hst⟩ := hpre.out.more hS (by omega) hP (by have := HN.out; omega)
            have HST := Lib.hid hst
            obtain ⟨m, hm⟩ : ∃ m, acc'.length = m := ⟨_, rfl⟩
            obtain ⟨g, c3, rfl, hgb, hgl, hgc, hgm, y1, y2, hfz⟩ := hown.last hm
            have HM := Lib.hid hm
            have hmj : m + 1 ≤ k := by rw [List.length_append, hm] at hacc; exact hacc
            unfold maxLen at hgm
            dsimp only at y1 y2
            have hm0 : (0 : Int) ≤ (m : Int) := Int.natCast_nonneg _
            have hf1 := hfz (m * 2 + 1)
            have hown5 := hown.stored' HM.out k
            dsimp only at hown5
            have hb5 := hbel.setCell (p := ⟨g, m * 2 + 1, none⟩) hgb (.int .i64 k)
            clear hS hpre hP hst hm
            go_wp2_with fail
            all_goals first | (exfalso; omega) | skip
            go_roundw
            case rel => exact ⟨k + 1, acc' ++ [(x, (k : Int))], by omega, by go_num, hown5, by simp at hacc ⊢; omega, HST.out, hb5⟩
            case measure => simp [intOf]; omega
    · have hkN : k = N := by omega
      have HE : Hid (Can acc ∧ ∀ d, Dm acc d = (inD d && S d)) := by
        have h := hpre.out
        rw [hkN, HN.out] at h
        exact h.stop
      obtain rfl : k = N := hkN
      clear hpre
      go_wp2_with fail
      go_ret
      exact ⟨_, acc, rfl, hbel, hown, HE.out.1, HE.out.2⟩
theorem rspans_any (a : Option Addr) (cap : Nat) (S : Int → Bool) (w : World) (h : Fl w a cap S) :
    Calls Tryz.prog 37 #[.slice a 30001 cap] w (SpanP 61 w S) := rspans_n _ rfl a cap S w h
end Go.Proofs.YtfdododighjjpaaGreatDoor.Dy
