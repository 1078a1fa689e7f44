/- The walk of DaysMakes. -/
import Derived.Test.YtgbonpmakahibaaDoorDaP
namespace Go.Proofs.YtgbonpmakahibaaDoor.Dy
open Go.RowKit Go.PlainAid
set_option linter.unusedVariables false
set_option linter.unusedSimpArgs false
set_option maxHeartbeats 4000000

theorem ds_few {w : World} {a : Option Addr} {n cap : Nat} {l : List (Int × Int)} (h : Ds w a n cap l) : Ds w a (min n 6) cap (l.take 6) := h.take 6
set_option maxRecDepth 100000 in
theorem daysMakes_walk (a : Option Addr) (n cap : Nat) (l : List (Int × Int)) (d : Int) (w : World) (hP : Pow10 w) (h : Ds w a n cap l) (hA : AtB a n cap) :
    Calls Tryd.prog 4 #[.slice a n cap, .int .i64 d] w fun e w' => e = .returned (.bool true) ∧ RowKit.Below w.heap.size w w' := by
  have hcap : cap ≤ 9223372036854775807 := by have := h.2.2.1; unfold maxLen at this; omega
  have HP := Lib.hid hP
  have HF := Lib.hid (fun W => few_any a n cap W hA h.2.1 hcap)
  have hds := ds_few h
  obtain ⟨m, hm⟩ : ∃ m, min n 6 = m := ⟨_, rfl⟩
  have hm6 : m ≤ 6 := by omega
  obtain ⟨F, hFL⟩ : ∃ F, l.take 6 = F := ⟨_, rfl⟩
  rw [hm, hFL] at hds
  rw [hm] at HF
  have HDS := Lib.hid (fun W (hb : RowKit.Below w.heap.size w W) => hds.below hb (Nat.le_refl _))
  have HL := Lib.hid hds.1
  clear hP h hA hcap hds hm hFL
  obtain ⟨x, hx⟩ : ∃ x, errL F = x := ⟨_, rfl⟩
  have HX := Lib.hid hx
  clear hx
  by_cases h0 : x = 0
  · subst h0
    have HOK := Lib.hid (errL_ok HX.out)
    have HX0 : Hid (decide (errL F = 0) = true) := decide_eq_true HX.out
    have tk0 : Hid True := trivial
    have hcase : (∃ d0 : Nat, d = d0 ∧ d0 < 30001) ∨ (d < 0 ∧ Hid (Dm F d = false)) ∨ (30000 < d ∧ Hid (Dm F d = false)) := by
      rcases Int.lt_or_le d 0 with g | g
      · refine .inr (.inl ⟨g, ?_⟩)
        show _ = _
        rw [← Bool.not_eq_true]
        exact dm_not fun p hp => by have := HOK.out p hp; unfold Okp at this; omega
      · rcases Int.lt_or_le 30000 d with g2 | g2
        · refine .inr (.inr ⟨g2, ?_⟩)
          show _ = _
          rw [← Bool.not_eq_true]
          intro e
          obtain ⟨p, hp, h1, h2⟩ := dm_iff.1 e
          have := HOK.out p hp
          unfold Okp at this
          omega
        · exact .inl ⟨d.toNat, by omega, by omega⟩
    rcases hcase with ⟨d0, rfl, hdl⟩ | ⟨g1, HDF⟩ | ⟨g1, HDF⟩
    all_goals
      go_enter Tryd.func4, Tryd.ntmps4
      go_wp2_with (first
        | (go_at_call 9; (with_reducible refine (awake_any _ HP.out).mono ?_); rintro e w1 ⟨rfl, hB1⟩)
        | (go_at_call 13; (with_reducible refine (HF.out _).mono ?_); rintro e w2 ⟨rfl, rfl⟩)
        | (go_at_call 15; (with_reducible refine (lspans_any _ _ _ _ _ (HDS.out _ hB1) (by omega)).mono ?_); rintro e w3 ⟨v3, rfl, hb3, hown3⟩; obtain ⟨a3, n3, c3, rfl, hn3, hd3⟩ := hown3.dn; have HD3 := Lib.hid hd3; have HN3 := Lib.hid hn3; have hB3 := hB1.trans (hb3.mono hB1.size); clear hd3 hn3 hown3 hb3)
        | (go_at_call 14; (with_reducible refine (of_any _ _ _ _ _ HD3.out (by rw [HN3.out, HL.out]; omega)).mono ?_); rintro e w4 ⟨a4, n4, c4, r, rfl, hd4, hc4, hm4, hb4⟩; rw [HX.out]; have HD4 := Lib.hid hd4; have HC4 := Lib.hid hc4; have HM4 : Hid (∀ d, Dm r d = Dm F d) := (fun d => by have := hm4 d; rw [HX0.out] at this; exact this); have hB4 := hB3.trans (hb4.mono hB3.size); have hF := (RowKit.Below.refl w4.heap.size w4).alloc (Nat.le_refl _) (.cells #[.slice a4 n4 c4] 26); have hE4 := RowKit.Below.refl (w4.heap.size + 1) (w4.alloc (.cells #[.slice a4 n4 c4] 26)); obtain ⟨q4, hD4⟩ := box1 hE4; have hBB4 := hB4.trans (hD4.mono hB4.size); clear hd4 hc4 hm4 hb4)
        | (go_at_call 16; (with_reducible refine (rcheck_any _ _ _ _ _ (HDS.out _ hBB4)).mono ?_); rw [HX.out]; rintro e w5 ⟨rfl, hb5⟩; have hE5 := hE4.trans (hb5.mono (by simp)); obtain ⟨q5, hD5⟩ := box1 hE5; have hBB5 := hB4.trans (hD5.mono hB4.size); have hz5 := hE5.size; simp only [World.size_alloc] at hz5)
        | (go_at_call 19; (with_reducible refine (rof_any _ _ _ _ _ (HDS.out _ hBB5) HOK.out).mono ?_); rintro e w6 ⟨g, rfl, hfo, hb6⟩; have hE6 := hE5.trans (hb6.mono hz5); obtain ⟨q6, hD6⟩ := box1 hE6; have hBB6 := hB4.trans (hD6.mono hB4.size); have hz6 := hE6.size; simp only [World.size_alloc] at hz6; have HFO := Lib.hid hfo; clear hfo)
        | (go_at_call 20; (with_reducible refine (is_any _ _ _ _ _ r (Dm F) _ (HD4.out.below hD6 (Nat.le_refl _)) HC4.out HFO.out.fl (fun d _ _ => (HM4.out d).symm)).mono ?_); rintro e w7 ⟨rfl, hb7⟩; have hE7 := hE6.trans (hb7.mono hz6); obtain ⟨q7, hD7⟩ := box1 hE7; have hBB7 := hB4.trans (hD7.mono hB4.size); have hz7 := hE7.size; simp only [World.size_alloc] at hz7; have HFO7 := Lib.hid (HFO.out.below hb7 HFO.out.1))
        | (go_at_call 21; (with_reducible refine (has_any _ _ _ r _ _ (HD4.out.below hD7 (Nat.le_refl _)) HC4.out).mono ?_); (first | rw [HM4.out d, HDF.out] | rw [HM4.out]); rintro e w8 ⟨rfl, hb8⟩; have hBB8 := hBB7.trans (hb8.mono hBB7.size); have hfo8 := HFO7.out.below hb8 HFO7.out.1; first | (have hcd := hfo8.2.1 d0 hdl) | skip))
      all_goals first | (exfalso; omega) | skip
      go_ret
      exact ⟨rfl, hBB8⟩
  · have HX0 : Hid (decide (errL F = 0) = false) := decide_eq_false (by rw [HX.out]; exact h0)
    have hx2 : x = 1 ∨ x = 2 := by
      rw [← HX.out]
      have : ∀ l : List (Int × Int), errL l = 0 ∨ errL l = 1 ∨ errL l = 2 := by
        intro l
        induction l with
        | nil => exact .inl rfl
        | cons p l ih =>
          unfold errL
          split
          · exact ih
          · unfold errP; split <;> (try split) <;> simp
      have h1 := this F
      have h2 := HX.out
      omega
    rcases hx2 with rfl | rfl
    all_goals
      go_enter Tryd.func4, Tryd.ntmps4
      go_wp2_with (first
        | (go_at_call 9; (with_reducible refine (awake_any _ HP.out).mono ?_); rintro e w1 ⟨rfl, hB1⟩)
        | (go_at_call 13; (with_reducible refine (HF.out _).mono ?_); rintro e w2 ⟨rfl, rfl⟩)
        | (go_at_call 15; (with_reducible refine (lspans_any _ _ _ _ _ (HDS.out _ hB1) (by omega)).mono ?_); rintro e w3 ⟨v3, rfl, hb3, hown3⟩; obtain ⟨a3, n3, c3, rfl, hn3, hd3⟩ := hown3.dn; have HD3 := Lib.hid hd3; have HN3 := Lib.hid hn3; have hB3 := hB1.trans (hb3.mono hB1.size); clear hd3 hn3 hown3 hb3)
        | (go_at_call 14; (with_reducible refine (of_any _ _ _ _ _ HD3.out (by rw [HN3.out, HL.out]; omega)).mono ?_); rintro e w4 ⟨a4, n4, c4, r, rfl, hd4, hc4, hm4, hb4⟩; rw [HX.out]; obtain rfl : r = [] := ((can_eq_nil hc4).2 fun d => by have := hm4 d; rw [HX0.out] at this; exact this); obtain rfl : n4 = 0 := hd4.1.symm; have HD4 := Lib.hid hd4; have hB4 := hB3.trans (hb4.mono hB3.size); have hE4 := RowKit.Below.refl (w4.heap.size + 1) (w4.alloc (.cells #[.slice a4 0 c4] 26)); obtain ⟨q4, hD4⟩ := box1 hE4; have hBB4 := hB4.trans (hD4.mono hB4.size); clear hd4 hc4 hm4 hb4)
        | (go_at_call 16; (with_reducible refine (rcheck_any _ _ _ _ _ (HDS.out _ hBB4)).mono ?_); rw [HX.out]; rintro e w5 ⟨rfl, hb5⟩; have hE5 := hE4.trans (hb5.mono (by simp)); obtain ⟨q5, hD5⟩ := box1 hE5; have hBB5 := hB4.trans (hD5.mono hB4.size); have hz5 := hE5.size; simp only [World.size_alloc] at hz5)
        | (go_at_call 17; (with_reducible refine (empty_any _ _ _ _).mono ?_); rintro e w6 ⟨rfl, hb6⟩; rw [show decide ((0 : Nat) = 0) = true from rfl]; have hE6 := hE5.trans (hb6.mono hz5); obtain ⟨q6, hD6⟩ := box1 hE6; have hBB6 := hB4.trans (hD6.mono hB4.size))
        | (go_at_call 18; (with_reducible refine (setEqual_any _ _ _ _ _ _ [] [] _ (HD4.out.below hD6 (Nat.le_refl _)) (Ds.nil _ _ _ (by unfold maxLen; omega))).mono ?_); rintro e w7 ⟨rfl, hb7⟩; rw [show decide (([] : List (Int × Int)) = []) = true from rfl]; have hBB7 := hBB6.trans (hb7.mono hBB6.size)))
      go_ret
      exact ⟨rfl, hBB7⟩
end Go.Proofs.YtgbonpmakahibaaDoor.Dy
