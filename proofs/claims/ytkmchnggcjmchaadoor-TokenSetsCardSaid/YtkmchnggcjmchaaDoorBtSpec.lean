/- Sets of small numbers as lists of words, and as ascending lists; no program in sight. -/
import Derived.Handy
import Derived.PlainAid
import Derived.Lib.Hide
namespace Go.Proofs.YtkmchnggcjmchaaDoor.Bz
open Go.RowKit Go.PlainAid
set_option linter.unusedVariables false

theorem ret_bool {a b : Bool} (h : a = b) : Ending.returned (.bool a) = .returned (.bool b) := by rw [h]
theorem ret_int {k : IntKind} {a b : Int} (h : a = b) : Ending.returned (.int k a) = .returned (.int k b) := by rw [h]

/-- Word k of a list of words. -/
def wd (ws : List Nat) (k : Nat) : Nat := ws.getD k 0
def mem (ws : List Nat) (i : Nat) : Bool := (wd ws (i / 64)).testBit (i % 64)
def U64 (ws : List Nat) : Prop := ∀ x ∈ ws, x < 18446744073709551616
def Norm (ws : List Nat) : Prop := ∀ k, k + 1 = ws.length → wd ws k ≠ 0
def mlist (m : Nat → Bool) : List Nat := (List.range 4096).filter m
/-- A set: an ascending list of numbers below 4096. -/
def Asc (l : List Nat) : Prop := l.Pairwise (· < ·) ∧ ∀ x ∈ l, x < 4096
/-- The words ws are the set l. -/
def Rp (ws l : List Nat) : Prop := U64 ws ∧ Norm ws ∧ ws.length ≤ 64 ∧ l = mlist (mem ws)

theorem mem_mlist {m : Nat → Bool} {x : Nat} : x ∈ mlist m ↔ x < 4096 ∧ m x = true := by
  unfold mlist; simp
theorem pw_range : ∀ (n : Nat), (List.range n).Pairwise (· < ·) := fun n => List.pairwise_lt_range
theorem asc_mlist (m : Nat → Bool) : Asc (mlist m) :=
  ⟨(pw_range 4096).filter m, fun x hx => (mem_mlist.1 hx).1⟩
theorem pw_ext : ∀ {a b : List Nat}, a.Pairwise (· < ·) → b.Pairwise (· < ·) → (∀ x, x ∈ a ↔ x ∈ b) → a = b
  | [], [], _, _, _ => rfl
  | [], y :: b, _, _, h => by have := (h y).2 (by simp); simp at this
  | x :: a, [], _, _, h => by have := (h x).1 (by simp); simp at this
  | x :: a, y :: b, ha, hb, h => by
    obtain ⟨ha1, ha2⟩ := List.pairwise_cons.1 ha
    obtain ⟨hb1, hb2⟩ := List.pairwise_cons.1 hb
    have hxy : x = y := by
      have h1 := (h x).1 (by simp)
      have h2 := (h y).2 (by simp)
      simp only [List.mem_cons] at h1 h2
      rcases h1 with h1 | h1
      · exact h1
      · rcases h2 with h2 | h2
        · exact h2.symm
        · have := ha1 _ h2; have := hb1 _ h1; omega
    subst hxy
    congr 1
    refine pw_ext ha2 hb2 fun z => ⟨fun hz => ?_, fun hz => ?_⟩
    · have := (h z).1 (List.mem_cons_of_mem _ hz)
      simp only [List.mem_cons] at this
      rcases this with rfl | h'
      · have := ha1 _ hz; omega
      · exact h'
    · have := (h z).2 (List.mem_cons_of_mem _ hz)
      simp only [List.mem_cons] at this
      rcases this with rfl | h'
      · have := hb1 _ hz; omega
      · exact h'
theorem asc_ext {a b : List Nat} (ha : Asc a) (hb : Asc b) (h : ∀ x, x ∈ a ↔ x ∈ b) : a = b := pw_ext ha.1 hb.1 h

theorem wd_lt {ws : List Nat} (h : U64 ws) (k : Nat) : wd ws k < 18446744073709551616 := by
  unfold wd
  rw [List.getD_eq_getElem?_getD]
  cases hk : ws[k]? with
  | none => simp
  | some x => exact h x (List.mem_of_getElem? hk)
theorem wd_out {ws : List Nat} {k : Nat} (h : ws.length ≤ k) : wd ws k = 0 := by
  unfold wd; rw [List.getD_eq_getElem?_getD, List.getElem?_eq_none h]; rfl
theorem wd_get {ws : List Nat} {k : Nat} (h : k < ws.length) : wd ws k = ws[k] := by
  unfold wd; rw [List.getD_eq_getElem?_getD, List.getElem?_eq_getElem h]; rfl
theorem mem_out {ws : List Nat} {i : Nat} (h : ws.length * 64 ≤ i) : mem ws i = false := by
  unfold mem; rw [wd_out (by omega)]; simp
theorem Rp.asc {ws l : List Nat} (h : Rp ws l) : Asc l := by rw [h.2.2.2]; exact asc_mlist _
theorem Rp.mem_iff {ws l : List Nat} (h : Rp ws l) (i : Nat) : i ∈ l ↔ mem ws i = true := by
  rw [h.2.2.2, mem_mlist]
  refine ⟨fun h => h.2, fun hm => ⟨?_, hm⟩⟩
  by_cases hi : i < 4096
  · exact hi
  · rw [mem_out (by have := h.2.2.1; omega)] at hm; cases hm
theorem Rp.mem_dec {ws l : List Nat} (h : Rp ws l) (i : Nat) : mem ws i = decide (i ∈ l) := by
  rw [Bool.eq_iff_iff, decide_eq_true_iff]; exact (h.mem_iff i).symm
theorem wd_ext {ws vs : List Nat} (hu : U64 ws) (hv : U64 vs) (h : ∀ i, mem ws i = mem vs i) (k : Nat) : wd ws k = wd vs k := by
  apply Nat.eq_of_testBit_eq
  intro j
  by_cases hj : j < 64
  · have := h (64 * k + j)
    unfold mem at this
    rw [show (64 * k + j) / 64 = k from by omega, show (64 * k + j) % 64 = j from by omega] at this
    exact this
  · rw [Nat.testBit_lt_two_pow (Nat.lt_of_lt_of_le (wd_lt hu k) (by show 2 ^ 64 ≤ 2 ^ j; exact Nat.pow_le_pow_right (by omega) (by omega))),
      Nat.testBit_lt_two_pow (Nat.lt_of_lt_of_le (wd_lt hv k) (by show 2 ^ 64 ≤ 2 ^ j; exact Nat.pow_le_pow_right (by omega) (by omega)))]
theorem len_of_wd {ws vs : List Nat} (hn : Norm ws) (h : ∀ k, wd ws k = wd vs k) : ws.length ≤ vs.length := by
  by_cases h0 : ws.length = 0
  · omega
  · have h1 := hn (ws.length - 1) (by omega)
    rw [h] at h1
    by_cases hl : ws.length ≤ vs.length
    · exact hl
    · exact absurd (wd_out (by omega)) h1
theorem ext_of_wd {ws vs : List Nat} (hl : ws.length = vs.length) (h : ∀ k, wd ws k = wd vs k) : ws = vs := by
  apply List.ext_getElem hl
  intro k h1 h2
  have := h k
  rw [wd_get h1, wd_get h2] at this
  exact this
theorem Rp.uniq {ws vs l : List Nat} (h : Rp ws l) (k : Rp vs l) : ws = vs := by
  have hm : ∀ i, mem ws i = mem vs i := fun i => by rw [h.mem_dec, k.mem_dec]
  have hw := wd_ext h.1 k.1 hm
  exact ext_of_wd (Nat.le_antisymm (len_of_wd h.2.1 hw) (len_of_wd k.2.1 fun k => (hw k).symm)) hw
theorem Rp.of {ws l : List Nat} (hu : U64 ws) (hn : Norm ws) (hl : ws.length ≤ 64) (ha : Asc l) (h : ∀ i, i < 4096 → (i ∈ l ↔ mem ws i = true)) : Rp ws l := by
  refine ⟨hu, hn, hl, asc_ext ha (asc_mlist _) fun x => ?_⟩
  rw [mem_mlist]
  exact ⟨fun hx => ⟨ha.2 x hx, (h x (ha.2 x hx)).1 hx⟩, fun ⟨h1, h2⟩ => (h x h1).2 h2⟩
theorem Rp.nil : Rp [] [] := by
  refine Rp.of (by intro x hx; simp at hx) (by intro k hk; simp at hk) (by simp) ⟨List.Pairwise.nil, by simp⟩ ?_
  intro i hi; simp [mem, wd]

/-- The word k with a bit more. -/
theorem bit_lt {k : Nat} (h : k < 64) : 2 ^ k < 18446744073709551616 := by
  show 2 ^ k < 2 ^ 64; exact Nat.pow_lt_pow_right (by omega) h
theorem lor_lt {a b : Nat} (ha : a < 18446744073709551616) (hb : b < 18446744073709551616) : a ||| b < 18446744073709551616 := by
  show a ||| b < 2 ^ 64; exact Nat.or_lt_two_pow ha hb
theorem land_lt {a b : Nat} (ha : a < 18446744073709551616) : a &&& b < 18446744073709551616 :=
  Nat.lt_of_le_of_lt Nat.and_le_left ha
/-- a without the bits of b. -/
def ldf (a b : Nat) : Nat := a &&& (18446744073709551615 - b)
theorem ldf_lt {a b : Nat} (ha : a < 18446744073709551616) : ldf a b < 18446744073709551616 := land_lt ha
theorem tb_ldf {a b j : Nat} (hb : b < 18446744073709551616) (hj : j < 64) : (ldf a b).testBit j = (a.testBit j && !b.testBit j) := by
  unfold ldf
  rw [Nat.testBit_and]
  have : 18446744073709551615 - b = 2 ^ 64 - (b + 1) := by show _ = 18446744073709551616 - (b + 1); omega
  rw [this, Nat.testBit_two_pow_sub_succ hb]
  simp [hj]
theorem U64.set {ws : List Nat} (h : U64 ws) {k x : Nat} (hx : x < 18446744073709551616) : U64 (ws.set k x) := by
  intro y hy
  rcases List.mem_or_eq_of_mem_set hy with hy | rfl
  · exact h y hy
  · exact hx
theorem wd_set {ws : List Nat} {k x : Nat} (hk : k < ws.length) (j : Nat) : wd (ws.set k x) j = if j = k then x else wd ws j := by
  unfold wd
  rw [List.getD_eq_getElem?_getD, List.getD_eq_getElem?_getD]
  by_cases hj : j = k
  · subst hj; rw [if_pos rfl, List.getElem?_set_self hk]; rfl
  · rw [if_neg hj, List.getElem?_set_ne (fun e => hj e.symm)]
/-- Setting bit i. -/
theorem mem_setbit {ws : List Nat} {i : Nat} (hi : i / 64 < ws.length) (j : Nat) : mem (ws.set (i / 64) (wd ws (i / 64) ||| 2 ^ (i % 64))) j = (mem ws j || decide (j = i)) := by
  unfold mem
  rw [wd_set hi]
  by_cases hj : j / 64 = i / 64
  · rw [if_pos hj, Nat.testBit_or, Nat.testBit_two_pow, hj]
    congr 1
    rw [decide_eq_decide]; omega
  · rw [if_neg hj]
    have : decide (j = i) = false := decide_eq_false (fun e => hj (by rw [e]))
    rw [this, Bool.or_false]
theorem mem_clrbit {ws : List Nat} {i : Nat} (hi : i / 64 < ws.length) (j : Nat) : mem (ws.set (i / 64) (ldf (wd ws (i / 64)) (2 ^ (i % 64)))) j = (mem ws j && !decide (j = i)) := by
  unfold mem
  rw [wd_set hi]
  by_cases hj : j / 64 = i / 64
  · rw [if_pos hj, tb_ldf (bit_lt (by omega)) (by omega), Nat.testBit_two_pow, hj]
    congr 2
    rw [decide_eq_decide]; omega
  · rw [if_neg hj]
    have : decide (j = i) = false := decide_eq_false (fun e => hj (by rw [e]))
    rw [this]; simp
/-- A list of words without the zero words at its end. -/
theorem trim_rp {ws l : List Nat} {n : Nat} (hn : n ≤ ws.length) (hu : U64 ws) (hl : ws.length ≤ 64) (hz : ∀ k, n ≤ k → wd ws k = 0) (he : ∀ k, k + 1 = n → wd ws k ≠ 0) (ha : Asc l) (h : ∀ i, i < 4096 → (i ∈ l ↔ mem ws i = true)) : Rp (ws.take n) l := by
  have hw : ∀ k, wd (ws.take n) k = wd ws k := by
    intro k
    by_cases hk : k < n
    · unfold wd; rw [List.getD_eq_getElem?_getD, List.getD_eq_getElem?_getD, List.getElem?_take_of_lt hk]
    · rw [hz k (by omega), wd_out (by rw [List.length_take]; omega)]
  refine Rp.of (fun x hx => hu x (List.mem_of_mem_take hx)) ?_ (by rw [List.length_take]; omega) ha ?_
  · intro k hk
    rw [List.length_take] at hk
    rw [hw]
    exact he k (by omega)
  · intro i hi
    rw [h i hi]
    unfold mem
    rw [hw]
end Go.Proofs.YtkmchnggcjmchaaDoor.Bz
