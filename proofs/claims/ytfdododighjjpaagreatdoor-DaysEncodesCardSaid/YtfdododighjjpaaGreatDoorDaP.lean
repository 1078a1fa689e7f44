/- Contract: awake. -/
import Derived.Test.YtfdododighjjpaaGreatDoorDaO
import Derived.Test.YtfdododighjjpaaGreatDoorDaK
namespace Go.Proofs.YtfdododighjjpaaGreatDoor.Dy
open Go.RowKit Go.PlainAid
set_option linter.unusedVariables false
set_option linter.unusedSimpArgs false
set_option maxHeartbeats 4000000

def l4 : List (Int × Int) := [(10, 10), (3, 7), (8, 8), (20, 30000)]
def LA : List (Int × Int) := [(3, 8), (10, 10), (20, 30000)]
def LB : List (Int × Int) := [(0, 2), (9, 9), (11, 19)]
def LC : List (Int × Int) := [(30000, 30000)]
theorem Ds.lit (w : World) (T : TypeId) (cs : Array Value) (l : List (Int × Int)) (n : Nat) (hc : cs.toList = flatS l) (hn : l.length = n) (hm : n ≤ 1000) : Ds (w.alloc (.cells cs T)) (some ⟨w.heap.size, 0, none⟩) n n l := by
  refine ⟨hn, Nat.le_refl _, by unfold maxLen; omega, .inr ⟨_, _, rfl, by simp, fun j p hp => ?_⟩⟩
  have h0 := flat_get2 l j 0 p hp (by omega)
  have h1 := flat_get2 l j 1 p hp (by omega)
  rw [← hc, Array.getElem?_toList] at h0 h1
  constructor
  · rw [World.cell?_alloc_new, Nat.zero_add]; simpa [spV] using h0
  · rw [World.cell?_alloc_new, Nat.zero_add]; simpa [spV] using h1
theorem err4 : errL l4 = 0 := by decide
theorem errC : errL LC = 0 := by decide
theorem set_a {r : List (Int × Int)} (h : Can r) (hm : ∀ d, Dm r d = match decide (errL l4 = 0) with | true => Dm l4 d | false => false) : r = LA := by
  refine can_ext h can_a fun d => ?_
  rw [hm, err4]
  apply bool_ext
  show Dm l4 d = true ↔ _
  simp only [l4, LA, dm_cons_iff, dm_nil, Bool.false_eq_true, or_false]
  omega
theorem set_c {r : List (Int × Int)} (h : Can r) (hm : ∀ d, Dm r d = match decide (errL LC = 0) with | true => Dm LC d | false => false) : r = LC := by
  refine can_ext h can_c fun d => ?_
  rw [hm, errC]; rfl
theorem set_b {r : List (Int × Int)} (h : Can r) (hm : ∀ d, Dm r d = (inD d && !Dm LA d)) : r = LB := by
  refine can_ext h can_b fun d => ?_
  rw [hm]
  apply bool_ext
  rw [Bool.and_eq_true, inD_iff, Bool.not_eq_true', ← Bool.not_eq_true]
  simp only [LA, LB, dm_cons_iff, dm_nil, Bool.false_eq_true, or_false]
  omega
theorem nx : nextP LA 9 = (10, true) := by decide
theorem next_a (a : Option Addr) (cap : Nat) (w : World) (h : Ds w a 3 cap LA) :
    Calls Tryz.prog 28 #[.agg #[.slice a 3 cap], .int .i64 9] w fun e w' => e = .returned (.tuple #[.int .i64 10, .bool true]) ∧ RowKit.Below w.heap.size w w' := by
  have := next_any a 3 cap LA 9 w h
  rw [nx] at this
  exact this
theorem textA (a : Option Addr) (n cap : Nat) (w : World) (h : Ds w a n cap LA) (hP : Pow10 w) :
    Calls Tryz.prog 11 #[.agg #[.slice a n cap]] w fun e w' => e = .returned (.string ⟨#[51, 45, 56, 44, 49, 48, 44, 50, 48, 45]⟩) ∧ RowKit.Below w.heap.size w w' := by
  have := text_any a n cap LA w h can_a hP
  rw [show textL LA = _ from text_a] at this
  exact this
theorem textB (a : Option Addr) (n cap : Nat) (w : World) (h : Ds w a n cap LB) (hP : Pow10 w) :
    Calls Tryz.prog 11 #[.agg #[.slice a n cap]] w fun e w' => e = .returned (.string ⟨#[48, 45, 50, 44, 57, 44, 49, 49, 45, 49, 57]⟩) ∧ RowKit.Below w.heap.size w w' := by
  have := text_any a n cap LB w h can_b hP
  rw [show textL LB = _ from text_b] at this
  exact this
theorem textC (a : Option Addr) (n cap : Nat) (w : World) (h : Ds w a n cap LC) (hP : Pow10 w) :
    Calls Tryz.prog 11 #[.agg #[.slice a n cap]] w fun e w' => e = .returned (.string ⟨#[51, 48, 48, 48, 48]⟩) ∧ RowKit.Below w.heap.size w w' := by
  have := text_any a n cap LC w h can_c hP
  rw [show textL LC = _ from text_c] at this
  exact this
theorem of_a (a : Option Addr) (n cap : Nat) (w : World) (h : Ds w a n cap l4) :
    Calls Tryz.prog 24 #[.slice a n cap] w fun e w' => ∃ b c, e = .returned (.tuple #[.agg #[.slice b 3 c], .int .i64 0]) ∧ Ds w' b 3 c LA ∧ RowKit.Below w.heap.size w w' := by
  refine (of_any a n cap l4 w h (by rw [← h.1]; decide)).mono ?_
  rintro e w' ⟨b, m, c, r, rfl, hd, hc, hm, hb⟩
  rw [err4]
  obtain rfl := set_a hc hm
  obtain rfl : m = 3 := hd.1.symm
  exact ⟨b, c, rfl, hd, hb⟩
theorem of_c (w : World) :
    Calls Tryz.prog 24 #[.slice (some ⟨w.heap.size, 0, none⟩) 1 1] (w.alloc (.cells #[.int .i64 30000, .int .i64 30000] 48)) fun e w' => ∃ b c, e = .returned (.tuple #[.agg #[.slice b 1 c], .int .i64 0]) ∧ Ds w' b 1 c LC ∧ RowKit.Below w.heap.size w w' := by
  refine (of_any _ 1 1 LC _ (Ds.one w 30000 30000 _ _ rfl) (by omega)).mono ?_
  rintro e w' ⟨b, m, c, r, rfl, hd, hc, hm, hb⟩
  rw [errC]
  obtain rfl := set_c hc hm
  obtain rfl : m = 1 := hd.1.symm
  exact ⟨b, c, rfl, hd, bel1 hb⟩
theorem lspans_a (w : World) :
    Calls Tryz.prog 27 #[.slice (some ⟨w.heap.size, 0, none⟩) 4 4] (w.alloc (.cells #[.int .i64 10, .int .i64 10, .int .i64 3, .int .i64 7, .int .i64 8, .int .i64 8, .int .i64 20, .int .i64 30000] 61)) fun e w' => ∃ a n c, e = .returned (.slice a n c) ∧ Ds w' a n c l4 ∧ RowKit.Below w.heap.size w w' := by
  refine (lspans_any _ 4 4 l4 _ (Ds.lit w _ _ l4 4 rfl rfl (by omega)) (by omega)).mono ?_
  rintro e w' ⟨v, rfl, hb, hown⟩
  obtain ⟨a, n, c, rfl, hn, hd⟩ := hown.dn
  exact ⟨a, n, c, rfl, hd, bel1 hb⟩
theorem spans_a (a : Option Addr) (cap : Nat) (w : World) (h : Ds w a 3 cap LA) :
    Calls Tryz.prog 18 #[.agg #[.slice a 3 cap]] w fun e w' => ∃ b o c, e = .returned (.slice (some ⟨b, o, none⟩) 3 c) ∧ 3 ≤ c ∧ c ≤ 9223372036854775807 ∧ b < w'.heap.size ∧ (w'.cell? ⟨b, o, none⟩ = some (.int .i64 3) ∧ w'.cell? ⟨b, o + 1, none⟩ = some (.int .i64 8) ∧ w'.cell? ⟨b, o + 4, none⟩ = some (.int .i64 20) ∧ w'.cell? ⟨b, o + 5, none⟩ = some (.int .i64 30000)) ∧ RowKit.Below w.heap.size w w' := by
  refine (spans_any a 3 cap LA w h (by omega)).mono ?_
  rintro e w' ⟨v, rfl, hb, hown⟩
  obtain ⟨b, n, c, rfl, hn, hd⟩ := hown.dn
  obtain rfl : n = 3 := hn
  obtain ⟨h1, h2, h3, h4 | ⟨g, o, rfl, hg, hc⟩⟩ := hd
  · omega
  unfold maxLen at h3
  have e0 := hc 0 (3, 8) rfl
  have e2 := hc 2 (20, 30000) rfl
  exact ⟨g, o, c, rfl, h2, by omega, hg, ⟨by simpa using e0.1, by simpa using e0.2, by simpa using e2.1, by simpa using e2.2⟩, hb⟩
theorem not_a (a : Option Addr) (cap : Nat) (w : World) (h : Ds w a 3 cap LA) :
    Calls Tryz.prog 29 #[.agg #[.slice a 3 cap]] w fun e w' => ∃ b n c, e = .returned (.agg #[.slice b n c]) ∧ Ds w' b n c LB ∧ RowKit.Below w.heap.size w w' := by
  refine (not_any a 3 cap LA w h can_a).mono ?_
  rintro e w' ⟨b, n, c, r, rfl, hd, hc, hm, hb⟩
  obtain rfl := set_b hc hm
  exact ⟨b, n, c, rfl, hd, hb⟩

set_option maxRecDepth 100000 in
theorem awake_any (w : World) (hP : Pow10 w) :
    Calls Tryz.prog 6 #[] w fun e w' => e = .returned (.bool true) ∧ RowKit.Below w.heap.size w w' := by
  have HP := Lib.hid (fun W (hb : RowKit.Below w.heap.size w W) => hP.below hb)
  clear hP
  have tk0 : Hid True := trivial
  go_enter Tryz.func6, Tryz.ntmps6
  go_wp2_with (first
    | (go_at_call 27; (with_reducible refine (lspans_a _).mono ?_); rintro e w1 ⟨a1, n1, c1, rfl, hd1, hB1⟩; have HD1 := Lib.hid hd1; clear hd1)
    | (go_at_call 24; clear tk0; (with_reducible refine (of_a _ _ _ _ HD1.out).mono ?_); rintro e w2 ⟨a2, c2, rfl, hd2, hb2⟩; have HD2 := Lib.hid hd2; have hB2 := hB1.trans (hb2.mono hB1.size); have tk1 : Hid True := trivial; clear hd2 hb2 hB1)
    | (go_at_call 18; (with_reducible refine (spans_a _ _ _ (HD2.out.below ((RowKit.Below.refl w2.heap.size w2).alloc (Nat.le_refl _) _) (Nat.le_refl _))).mono ?_); rintro e w3 ⟨b3, o3, c3, rfl, hc3, hk3, hg3, ⟨y0, y1, y4, y5⟩, hb3⟩; obtain ⟨q3, hD3⟩ := box1s hb3; have hz3 := hD3.size; have hlt3 : w2.heap.size < w3.heap.size := (by have := hb3.size; simp at this; omega))
    | (go_at_call 28; (with_reducible refine (next_a _ _ _ (HD2.out.below hD3 (Nat.le_refl _))).mono ?_); rintro e w4 ⟨rfl, hb4⟩; have hD4 := hD3.trans (hb4.mono hz3); have q4 := (hb4.cell (p := ⟨w2.heap.size, 0, none⟩) hlt3).trans q3; have hlt4 : w2.heap.size < w4.heap.size := Nat.lt_of_lt_of_le hlt3 hb4.size; have k0 := (hb4.cell (p := ⟨b3, _, none⟩) hg3).trans y0; have k1 := (hb4.cell (p := ⟨b3, _, none⟩) hg3).trans y1; have k4 := (hb4.cell (p := ⟨b3, _, none⟩) hg3).trans y4; have k5 := (hb4.cell (p := ⟨b3, _, none⟩) hg3).trans y5; have hg4 : b3 < w4.heap.size := Nat.lt_of_lt_of_le hg3 hb4.size; clear y0 y1 y4 y5 q3)
    | (go_at_call 24; clear tk1; (with_reducible refine (of_c _).mono ?_); rintro e w5 ⟨a5, c5, rfl, hd5, hb5⟩; have HD5 := Lib.hid hd5; have hD5 := hD4.trans (hb5.mono hD4.size); have q5 := (hb5.cell (p := ⟨w2.heap.size, 0, none⟩) hlt4).trans q4; have m0 := (hb5.cell (p := ⟨b3, _, none⟩) hg4).trans k0; have m1 := (hb5.cell (p := ⟨b3, _, none⟩) hg4).trans k1; have m4 := (hb5.cell (p := ⟨b3, _, none⟩) hg4).trans k4; have m5 := (hb5.cell (p := ⟨b3, _, none⟩) hg4).trans k5; have hlt5 : w2.heap.size < w5.heap.size := Nat.lt_of_lt_of_le hlt4 hb5.size; have hg5 : b3 < w5.heap.size := Nat.lt_of_lt_of_le hg4 hb5.size; have hF := (RowKit.Below.refl w5.heap.size w5).alloc (Nat.le_refl _) (.cells #[.slice a5 1 c5] 25); have r0 := (hF.cell (p := ⟨b3, _, none⟩) hg5).trans m0; have r1 := (hF.cell (p := ⟨b3, _, none⟩) hg5).trans m1; have r4 := (hF.cell (p := ⟨b3, _, none⟩) hg5).trans m4; have r5 := (hF.cell (p := ⟨b3, _, none⟩) hg5).trans m5; have r6 := (hF.cell (p := ⟨w2.heap.size, 0, none⟩) hlt5).trans q5; have hDF := hD5.trans (hF.mono hD5.size); have hBF := hB2.trans (hDF.mono hB2.size); have tk2 : Hid True := trivial; clear hd5 hb5 k0 k1 k4 k5 q4 m0 m1 m4 m5)
    | (go_at_call 11; clear tk2; (with_reducible refine (textA _ _ _ _ (HD2.out.below hDF (Nat.le_refl _)) (HP.out _ hBF)).mono ?_); rintro e w6 ⟨rfl, hb6⟩; obtain ⟨q6, hE6⟩ := box1s hb6; have hD6 := hD5.trans (hE6.mono hD5.size); have s6 := (hE6.cell (p := ⟨w2.heap.size, 0, none⟩) hlt5).trans q5; have hB6 := hB2.trans (hD6.mono hB2.size); have hz6 := hE6.size; have tk3 : Hid True := trivial; clear hb6)
    | (go_at_call 29; (with_reducible refine (not_a _ _ _ (HD2.out.below hD6 (Nat.le_refl _))).mono ?_); rintro e w7 ⟨a7, n7, c7, rfl, hd7, hb7⟩; have HD7 := Lib.hid hd7; have hE7 := hE6.trans (hb7.mono hz6); have hD7 := hD6.trans (hb7.mono hD6.size); have hB7 := hB6.trans (hb7.mono hB6.size); have q7 := (hb7.cell (p := ⟨w5.heap.size, 0, none⟩) (World.block_lt_of_cell? _ _ q6)).trans q6; clear hd7)
    | (go_at_call 11; clear tk3; (with_reducible refine (textB _ _ _ _ HD7.out (HP.out _ hB7)).mono ?_); rintro e w8 ⟨rfl, hb8⟩; have hE8 := hE7.trans (hb8.mono hE7.size); have hB8 := hB7.trans (hb8.mono hB7.size); have q8 := (hb8.cell (p := ⟨w5.heap.size, 0, none⟩) (World.block_lt_of_cell? _ _ q7)).trans q7; have tk4 : Hid True := trivial)
    | (go_at_call 11; clear tk4; (with_reducible refine (textC _ _ _ _ (HD5.out.below hE8 (Nat.le_refl _)) (HP.out _ hB8)).mono ?_); rintro e w9 ⟨rfl, hb9⟩; have hB9 := hB8.trans (hb9.mono hB8.size)))
  go_ret
  exact ⟨rfl, hB9⟩
end Go.Proofs.YtfdododighjjpaaGreatDoor.Dy
