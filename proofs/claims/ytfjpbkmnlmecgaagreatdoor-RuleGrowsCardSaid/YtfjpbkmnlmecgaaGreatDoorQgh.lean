/- Several of the texts below, joined: BtSpec BtA BtOc BtM. -/
import Derived.Handy
import Derived.PlainAid
import Derived.Lib.Hide
import Derived.Test.YtfjpbkmnlmecgaaGreatDoorProg
import Derived.Test.YtfjpbkmnlmecgaaGreatDoorQga
import Derived.Deep.QuietTactic
import Derived.BigQuiet
import Derived.RegionTactic
import Derived.BigRegion
import Derived.BigGuardPart
import Derived.Deep.RegionHeld3
import Derived.Laws.BitsAllLaws
import Derived.Outline
import Derived.Lib.TrailingZeros
import Derived.Laws.MathBits
section
/- Sets of small numbers as lists of words, and as ascending lists; no program in sight. -/
namespace Go.Proofs.YtfjpbkmnlmecgaaGreatDoor.Bz
open Go.RowKit Go.PlainAid
set_option linter.unusedVariables false

theorem ret_bool {a b : Bool} (h : a = b) : Ending.returned (.bool a) = .returned (.bool b) := by rw [h]
theorem ret_int {k : IntKind} {a b : Int} (h : a = b) : Ending.returned (.int k a) = .returned (.int k b) := by rw [h]

/-- Word k of a list of words. -/
def wd (ws : List Nat) (k : Nat) : Nat := ws.getD k 0
def mem (ws : List Nat) (i : Nat) : Bool := (wd ws (i / 64)).testBit (i % 64)
def U64 (ws : List Nat) : Prop := ∀ x ∈ ws, x < 18446744073709551616
def Norm (ws : List Nat) : Prop := ∀ k, k + 1 = ws.length → wd ws k ≠ 0
def mlist (m : Nat → Bool) : List Nat := (List.range 4096).filter m
/-- A set: an ascending list of numbers below 4096. -/
def Asc (l : List Nat) : Prop := l.Pairwise (· < ·) ∧ ∀ x ∈ l, x < 4096
/-- The words ws are the set l. -/
def Rp (ws l : List Nat) : Prop := U64 ws ∧ Norm ws ∧ ws.length ≤ 64 ∧ l = mlist (mem ws)

theorem mem_mlist {m : Nat → Bool} {x : Nat} : x ∈ mlist m ↔ x < 4096 ∧ m x = true := by
  unfold mlist; simp
theorem pw_range : ∀ (n : Nat), (List.range n).Pairwise (· < ·) := fun n => List.pairwise_lt_range
theorem asc_mlist (m : Nat → Bool) : Asc (mlist m) :=
  ⟨(pw_range 4096).filter m, fun x hx => (mem_mlist.1 hx).1⟩
theorem pw_ext : ∀ {a b : List Nat}, a.Pairwise (· < ·) → b.Pairwise (· < ·) → (∀ x, x ∈ a ↔ x ∈ b) → a = b
  | [], [], _, _, _ => rfl
  | [], y :: b, _, _, h => by have := (h y).2 (by simp); simp at this
  | x :: a, [], _, _, h => by have := (h x).1 (by simp); simp at this
  | x :: a, y :: b, ha, hb, h => by
    obtain ⟨ha1, ha2⟩ := List.pairwise_cons.1 ha
    obtain ⟨hb1, hb2⟩ := List.pairwise_cons.1 hb
    have hxy : x = y := by
      have h1 := (h x).1 (by simp)
      have h2 := (h y).2 (by simp)
      simp only [List.mem_cons] at h1 h2
      rcases h1 with h1 | h1
      · exact h1
      · rcases h2 with h2 | h2
        · exact h2.symm
        · have := ha1 _ h2; have := hb1 _ h1; omega
    subst hxy
    congr 1
    refine pw_ext ha2 hb2 fun z => ⟨fun hz => ?_, fun hz => ?_⟩
    · have := (h z).1 (List.mem_cons_of_mem _ hz)
      simp only [List.mem_cons] at this
      rcases this with rfl | h'
      · have := ha1 _ hz; omega
      · exact h'
    · have := (h z).2 (List.mem_cons_of_mem _ hz)
      simp only [List.mem_cons] at this
      rcases this with rfl | h'
      · have := hb1 _ hz; omega
      · exact h'
theorem asc_ext {a b : List Nat} (ha : Asc a) (hb : Asc b) (h : ∀ x, x ∈ a ↔ x ∈ b) : a = b := pw_ext ha.1 hb.1 h

theorem wd_lt {ws : List Nat} (h : U64 ws) (k : Nat) : wd ws k < 18446744073709551616 := by
  unfold wd
  rw [List.getD_eq_getElem?_getD]
  cases hk : ws[k]? with
  | none => simp
  | some x => exact h x (List.mem_of_getElem? hk)
theorem wd_out {ws : List Nat} {k : Nat} (h : ws.length ≤ k) : wd ws k = 0 := by
  unfold wd; rw [List.getD_eq_getElem?_getD, List.getElem?_eq_none h]; rfl
theorem wd_get {ws : List Nat} {k : Nat} (h : k < ws.length) : wd ws k = ws[k] := by
  unfold wd; rw [List.getD_eq_getElem?_getD, List.getElem?_eq_getElem h]; rfl
theorem mem_out {ws : List Nat} {i : Nat} (h : ws.length * 64 ≤ i) : mem ws i = false := by
  unfold mem; rw [wd_out (by omega)]; simp
theorem Rp.asc {ws l : List Nat} (h : Rp ws l) : Asc l := by rw [h.2.2.2]; exact asc_mlist _
theorem Rp.mem_iff {ws l : List Nat} (h : Rp ws l) (i : Nat) : i ∈ l ↔ mem ws i = true := by
  rw [h.2.2.2, mem_mlist]
  refine ⟨fun h => h.2, fun hm => ⟨?_, hm⟩⟩
  by_cases hi : i < 4096
  · exact hi
  · rw [mem_out (by have := h.2.2.1; omega)] at hm; cases hm
theorem Rp.mem_dec {ws l : List Nat} (h : Rp ws l) (i : Nat) : mem ws i = decide (i ∈ l) := by
  rw [Bool.eq_iff_iff, decide_eq_true_iff]; exact (h.mem_iff i).symm
theorem wd_ext {ws vs : List Nat} (hu : U64 ws) (hv : U64 vs) (h : ∀ i, mem ws i = mem vs i) (k : Nat) : wd ws k = wd vs k := by
  apply Nat.eq_of_testBit_eq
  intro j
  by_cases hj : j < 64
  · have := h (64 * k + j)
    unfold mem at this
    rw [show (64 * k + j) / 64 = k from by omega, show (64 * k + j) % 64 = j from by omega] at this
    exact this
  · rw [Nat.testBit_lt_two_pow (Nat.lt_of_lt_of_le (wd_lt hu k) (by show 2 ^ 64 ≤ 2 ^ j; exact Nat.pow_le_pow_right (by omega) (by omega))),
      Nat.testBit_lt_two_pow (Nat.lt_of_lt_of_le (wd_lt hv k) (by show 2 ^ 64 ≤ 2 ^ j; exact Nat.pow_le_pow_right (by omega) (by omega)))]
theorem len_of_wd {ws vs : List Nat} (hn : Norm ws) (h : ∀ k, wd ws k = wd vs k) : ws.length ≤ vs.length := by
  by_cases h0 : ws.length = 0
  · omega
  · have h1 := hn (ws.length - 1) (by omega)
    rw [h] at h1
    by_cases hl : ws.length ≤ vs.length
    · exact hl
    · exact absurd (wd_out (by omega)) h1
theorem ext_of_wd {ws vs : List Nat} (hl : ws.length = vs.length) (h : ∀ k, wd ws k = wd vs k) : ws = vs := by
  apply List.ext_getElem hl
  intro k h1 h2
  have := h k
  rw [wd_get h1, wd_get h2] at this
  exact this
theorem Rp.uniq {ws vs l : List Nat} (h : Rp ws l) (k : Rp vs l) : ws = vs := by
  have hm : ∀ i, mem ws i = mem vs i := fun i => by rw [h.mem_dec, k.mem_dec]
  have hw := wd_ext h.1 k.1 hm
  exact ext_of_wd (Nat.le_antisymm (len_of_wd h.2.1 hw) (len_of_wd k.2.1 fun k => (hw k).symm)) hw
theorem Rp.of {ws l : List Nat} (hu : U64 ws) (hn : Norm ws) (hl : ws.length ≤ 64) (ha : Asc l) (h : ∀ i, i < 4096 → (i ∈ l ↔ mem ws i = true)) : Rp ws l := by
  refine ⟨hu, hn, hl, asc_ext ha (asc_mlist _) fun x => ?_⟩
  rw [mem_mlist]
  exact ⟨fun hx => ⟨ha.2 x hx, (h x (ha.2 x hx)).1 hx⟩, fun ⟨h1, h2⟩ => (h x h1).2 h2⟩
theorem Rp.nil : Rp [] [] := by
  refine Rp.of (by intro x hx; simp at hx) (by intro k hk; simp at hk) (by simp) ⟨List.Pairwise.nil, by simp⟩ ?_
  intro i hi; simp [mem, wd]

/-- The word k with a bit more. -/
theorem bit_lt {k : Nat} (h : k < 64) : 2 ^ k < 18446744073709551616 := by
  show 2 ^ k < 2 ^ 64; exact Nat.pow_lt_pow_right (by omega) h
theorem lor_lt {a b : Nat} (ha : a < 18446744073709551616) (hb : b < 18446744073709551616) : a ||| b < 18446744073709551616 := by
  show a ||| b < 2 ^ 64; exact Nat.or_lt_two_pow ha hb
theorem land_lt {a b : Nat} (ha : a < 18446744073709551616) : a &&& b < 18446744073709551616 :=
  Nat.lt_of_le_of_lt Nat.and_le_left ha
/-- a without the bits of b. -/
def ldf (a b : Nat) : Nat := a &&& (18446744073709551615 - b)
theorem ldf_lt {a b : Nat} (ha : a < 18446744073709551616) : ldf a b < 18446744073709551616 := land_lt ha
theorem tb_ldf {a b j : Nat} (hb : b < 18446744073709551616) (hj : j < 64) : (ldf a b).testBit j = (a.testBit j && !b.testBit j) := by
  unfold ldf
  rw [Nat.testBit_and]
  have : 18446744073709551615 - b = 2 ^ 64 - (b + 1) := by show _ = 18446744073709551616 - (b + 1); omega
  rw [this, Nat.testBit_two_pow_sub_succ hb]
  simp [hj]
theorem U64.set {ws : List Nat} (h : U64 ws) {k x : Nat} (hx : x < 18446744073709551616) : U64 (ws.set k x) := by
  intro y hy
  rcases List.mem_or_eq_of_mem_set hy with hy | rfl
  · exact h y hy
  · exact hx
theorem wd_set {ws : List Nat} {k x : Nat} (hk : k < ws.length) (j : Nat) : wd (ws.set k x) j = if j = k then x else wd ws j := by
  unfold wd
  rw [List.getD_eq_getElem?_getD, List.getD_eq_getElem?_getD]
  by_cases hj : j = k
  · subst hj; rw [if_pos rfl, List.getElem?_set_self hk]; rfl
  · rw [if_neg hj, List.getElem?_set_ne (fun e => hj e.symm)]
/-- Setting bit i. -/
theorem mem_setbit {ws : List Nat} {i : Nat} (hi : i / 64 < ws.length) (j : Nat) : mem (ws.set (i / 64) (wd ws (i / 64) ||| 2 ^ (i % 64))) j = (mem ws j || decide (j = i)) := by
  unfold mem
  rw [wd_set hi]
  by_cases hj : j / 64 = i / 64
  · rw [if_pos hj, Nat.testBit_or, Nat.testBit_two_pow, hj]
    congr 1
    rw [decide_eq_decide]; omega
  · rw [if_neg hj]
    have : decide (j = i) = false := decide_eq_false (fun e => hj (by rw [e]))
    rw [this, Bool.or_false]
theorem mem_clrbit {ws : List Nat} {i : Nat} (hi : i / 64 < ws.length) (j : Nat) : mem (ws.set (i / 64) (ldf (wd ws (i / 64)) (2 ^ (i % 64)))) j = (mem ws j && !decide (j = i)) := by
  unfold mem
  rw [wd_set hi]
  by_cases hj : j / 64 = i / 64
  · rw [if_pos hj, tb_ldf (bit_lt (by omega)) (by omega), Nat.testBit_two_pow, hj]
    congr 2
    rw [decide_eq_decide]; omega
  · rw [if_neg hj]
    have : decide (j = i) = false := decide_eq_false (fun e => hj (by rw [e]))
    rw [this]; simp
/-- A list of words without the zero words at its end. -/
theorem trim_rp {ws l : List Nat} {n : Nat} (hn : n ≤ ws.length) (hu : U64 ws) (hl : ws.length ≤ 64) (hz : ∀ k, n ≤ k → wd ws k = 0) (he : ∀ k, k + 1 = n → wd ws k ≠ 0) (ha : Asc l) (h : ∀ i, i < 4096 → (i ∈ l ↔ mem ws i = true)) : Rp (ws.take n) l := by
  have hw : ∀ k, wd (ws.take n) k = wd ws k := by
    intro k
    by_cases hk : k < n
    · unfold wd; rw [List.getD_eq_getElem?_getD, List.getD_eq_getElem?_getD, List.getElem?_take_of_lt hk]
    · rw [hz k (by omega), wd_out (by rw [List.length_take]; omega)]
  refine Rp.of (fun x hx => hu x (List.mem_of_mem_take hx)) ?_ (by rw [List.length_take]; omega) ha ?_
  · intro k hk
    rw [List.length_take] at hk
    rw [hw]
    exact he k (by omega)
  · intro i hi
    rw [h i hi]
    unfold mem
    rw [hw]
end Go.Proofs.YtfjpbkmnlmecgaaGreatDoor.Bz
end

section
/- Contracts: word, trim, Has, Empty. -/
namespace Go.Proofs.YtfjpbkmnlmecgaaGreatDoor.Bz
open Go.RowKit Go.PlainAid
set_option linter.unusedVariables false
set_option linter.unusedSimpArgs false
set_option maxHeartbeats 1000000

/-- Block b holds words. -/
def WB (w : World) (b : Nat) : Prop := b < w.heap.size ∧ ∃ cs fz, w.heap[b]? = some (.cells cs 29 fz)
theorem WB.below {w w' : World} {b : Nat} (h : WB w b) (hb : Below w.heap.size w w') : WB w' b := by
  obtain ⟨h1, cs, fz, h2⟩ := h
  exact ⟨Nat.lt_of_lt_of_le h1 hb.size, cs, fz, (hb.block b h1).trans h2⟩
theorem WB.set {w : World} {b : Nat} (h : WB w b) (p : Addr) (u : Value) : WB (w.setCell p u) b := by
  obtain ⟨h1, cs, fz, h2⟩ := h
  refine ⟨by simpa using h1, ?_⟩
  show ∃ cs' fz', (w.heap.modify p.block _)[b]? = some (.cells cs' 29 fz')
  rw [Array.getElem?_modify]
  split
  · rw [h2]; exact ⟨_, _, rfl⟩
  · exact ⟨cs, fz, h2⟩
/-- The slice (a, n, cap) holds the words ws. -/
def Wd (w : World) (a : Option Addr) (n cap : Nat) (ws : List Nat) : Prop :=
  ws.length = n ∧ n ≤ cap ∧ cap ≤ 9223372036854775807 ∧ (a = none ∧ n = 0 ∧ cap = 0 ∨ ∃ b o, a = some ⟨b, o, none⟩ ∧ WB w b ∧ ∀ j, j < n → w.cell? ⟨b, o + j, none⟩ = some (.int .u64 (wd ws j : Nat)))
/-- The value (a, n, cap) is the set l. -/
def Bs (w : World) (a : Option Addr) (n cap : Nat) (l : List Nat) : Prop := ∃ ws, Wd w a n cap ws ∧ Rp ws l
theorem Wd.below {w w' : World} {a : Option Addr} {n cap : Nat} {ws : List Nat} (h : Wd w a n cap ws) (hb : Below w.heap.size w w') : Wd w' a n cap ws := by
  obtain ⟨h1, h2, h3, h4⟩ := h
  refine ⟨h1, h2, h3, ?_⟩
  rcases h4 with h4 | ⟨b, o, h4, h5, h6⟩
  · exact .inl h4
  · exact .inr ⟨b, o, h4, h5.below hb, fun j hj => (hb.cell (p := ⟨b, o + j, none⟩) h5.1).trans (h6 j hj)⟩
theorem Bs.below {w w' : World} {a : Option Addr} {n cap : Nat} {l : List Nat} (h : Bs w a n cap l) (hb : Below w.heap.size w w') : Bs w' a n cap l := by
  obtain ⟨ws, h1, h2⟩ := h
  exact ⟨ws, h1.below hb, h2⟩
theorem Bs.nil (w : World) : Bs w none 0 0 [] := ⟨[], ⟨rfl, Nat.le_refl _, by omega, .inl ⟨rfl, rfl, rfl⟩⟩, Rp.nil⟩
theorem Bs.le {w : World} {a : Option Addr} {n cap : Nat} {l : List Nat} (h : Bs w a n cap l) : n ≤ 64 := by
  obtain ⟨ws, h1, h2⟩ := h; rw [← h1.1]; exact h2.2.2.1

theorem bdr {B : Nat} {a w : World} (h : Below B a w) (n : Nat) : Below B a (w.drewN n) := h.trans ⟨rfl, rfl, rfl, Nat.le_refl _, fun _ _ => rfl⟩
theorem bel1 {w w2 : World} {o : Obj} (hb2 : Below (w.alloc o).heap.size (w.alloc o) w2) : Below w.heap.size w w2 :=
  ((Below.refl _ _).alloc (Nat.le_refl _) _).trans (hb2.mono (by simp))
theorem bel2 {w w2 : World} {o o2 : Obj} (hb2 : Below ((w.alloc o).alloc o2).heap.size ((w.alloc o).alloc o2) w2) : Below w.heap.size w w2 := bel1 (bel1 hb2)
theorem bel3 {w w2 : World} {o o2 o3 : Obj} (hb2 : Below (((w.alloc o).alloc o2).alloc o3).heap.size (((w.alloc o).alloc o2).alloc o3) w2) : Below w.heap.size w w2 := bel1 (bel2 hb2)
theorem word_any (a : Option Addr) (n cap k : Nat) (ws : List Nat) (w : World) (h : Wd w a n cap ws) (hk : k ≤ 4096) :
    Calls Tryz.prog 63 #[.agg #[.slice a n cap], .int .i64 k] w fun e w' => e = .returned (.int .u64 (wd ws k : Nat)) ∧ Below w.heap.size w w' := by
  obtain ⟨h1, h2, h3, h4⟩ := h
  by_cases hkn : k < n
  · rcases h4 with ⟨rfl, h4, _⟩ | ⟨b, o, rfl, ⟨hb, -⟩, hc⟩
    · omega
    · have hck := hc k hkn
      generalize wd ws k = x at *
      have hk2 : (k : Int) < (n : Int) := by omega
      clear hc h1
      go_enter Tryz.func63, Tryz.ntmps63
      go_wp2_with fail
      go_returns
      exact ⟨rfl, by go_grown⟩
  · rw [wd_out (by omega)]
    have hk2 : ¬ (k : Int) < (n : Int) := by omega
    clear h4 h1
    go_enter Tryz.func63, Tryz.ntmps63
    go_wp2_with fail
    go_returns
    exact ⟨rfl, by go_grown⟩

theorem word_at (a : Option Addr) (n cap k : Nat) (i : Int) (ws : List Nat) (w : World) (hi : i = k) (h : Wd w a n cap ws) (hk : k ≤ 4096) :
    Calls Tryz.prog 63 #[.agg #[.slice a n cap], .int .i64 i] w fun e w' => e = .returned (.int .u64 (wd ws k : Nat)) ∧ Below w.heap.size w w' := by
  subst hi; exact word_any a n cap k ws w h hk

theorem empty_any (a : Option Addr) (n cap : Nat) (l : List Nat) (w : World) (h : Bs w a n cap l) :
    Calls Tryz.prog 23 #[.agg #[.slice a n cap]] w fun e w' => e = .returned (.bool (decide (l = []))) ∧ Below w.heap.size w w' := by
  obtain ⟨ws, ⟨h1, h2, h3, h4⟩, hr⟩ := h
  have hl : decide (l = []) = ((n : Int) == 0) := by
    rw [Bool.eq_iff_iff, decide_eq_true_iff, beq_iff_eq]
    refine ⟨fun e => ?_, fun e => ?_⟩
    · subst e
      have := hr.uniq Rp.nil
      subst this; simp at h1; omega
    · have : ws = [] := List.eq_nil_of_length_eq_zero (by omega)
      subst this
      have h0 := Rp.nil.2.2.2
      rw [hr.2.2.2, ← h0]
  rw [hl]
  clear h4 hr h1 hl
  go_enter Tryz.func23, Tryz.ntmps23
  go_wp2_with fail
  go_returns
  exact ⟨rfl, by go_grown⟩

def hasB (l : List Nat) (i : Int) : Bool := decide (0 ≤ i) && decide (i.toNat ∈ l)
theorem has_bit (x j : Nat) (hx : x < 18446744073709551616) (hj : j < 64) : (bits .and .u64 ((x : Int) / 2 ^ j) 1 == 1) = x.testBit j := by
  have h1 : ((x : Int) / 2 ^ j) = ((x / 2 ^ j : Nat) : Int) := by rw [Int.natCast_ediv]; simp
  have h2 := u64_and_nat (x / 2 ^ j) 1 (Nat.lt_of_le_of_lt (Nat.div_le_self _ _) hx) (by omega)
  rw [h1]
  have h3 : bits .and .u64 ((x / 2 ^ j : Nat) : Int) 1 = ((x / 2 ^ j &&& 1 : Nat) : Int) := h2
  rw [h3, Nat.testBit_eq_decide_div_mod_eq, Nat.and_one_is_mod]
  rw [Bool.eq_iff_iff, beq_iff_eq, decide_eq_true_iff]
  omega

theorem has_any (a : Option Addr) (n cap : Nat) (l : List Nat) (i : Int) (w : World) (h : Bs w a n cap l) :
    Calls Tryz.prog 77 #[.agg #[.slice a n cap], .int .i64 i] w fun e w' => e = .returned (.bool (hasB l i)) ∧ Below w.heap.size w w' := by
  obtain ⟨ws, hw, hr⟩ := h
  by_cases h0 : 0 ≤ i
  · obtain ⟨k, rfl⟩ : ∃ k : Nat, i = k := ⟨i.toNat, by omega⟩
    by_cases h1 : k ≤ 4095
    · have hv : hasB l k = mem ws k := by unfold hasB; rw [hr.mem_dec]; simp
      rw [hv]
      have hb := has_bit (wd ws (k / 64)) (k % 64) (wd_lt hr.1 _) (by omega)
      have hW := Lib.hid (fun w' (hb : Below w.heap.size w w') => word_at a n cap (k / 64) ((k : Int) / 64) ws w' (by omega) (hw.below hb) (by omega))
      unfold mem
      rw [← hb]
      generalize wd ws (k / 64) = x at *
      clear hw hr hb hv
      have h2 : (k : Int) ≤ 4095 := by omega
      go_enter Tryz.func77, Tryz.ntmps77
      go_wp2_with (go_at_call 63; refine (hW.out _ (by go_grown)).mono ?_; rintro e w2 ⟨rfl, hb2⟩)
      go_returns
      exact ⟨rfl, bel1 hb2⟩
    · have h2 : ¬ (k : Int) ≤ 4095 := by omega
      have h3 : (decide ((k : Int) ≤ 4095)) = false := decide_eq_false h2
      have hv : hasB l k = false := by
        unfold hasB
        have : ¬ k ∈ l := fun hk => by have := hr.asc.2 k hk; omega
        simp [this]
      rw [hv]
      clear hw hr hv h1
      go_enter Tryz.func77, Tryz.ntmps77
      go_wp2_with fail
      go_returns
      exact ⟨rfl, by go_grown⟩
  · have hv : hasB l i = false := by unfold hasB; simp [h0]
    have h3 : (decide (0 ≤ i)) = false := decide_eq_false h0
    rw [hv]
    clear hw hr hv
    go_enter Tryz.func77, Tryz.ntmps77
    go_wp2_with fail
    go_returns
    exact ⟨rfl, by go_grown⟩

def SetPost (w : World) (l : List Nat) (e : Ending) (w' : World) : Prop := ∃ a n cap, e = .returned (.agg #[.slice a n cap]) ∧ Bs w' a n cap l ∧ Below w.heap.size w w'
def TrimRel (a : Option Addr) (n cap : Nat) (ws : List Nat) (v : Value) : Prop := ∃ m, m ≤ n ∧ v = .slice a m cap ∧ ∀ k, m ≤ k → wd ws k = 0
theorem Wd.pre {w : World} {a : Option Addr} {n cap m : Nat} {ws : List Nat} (h : Wd w a n cap ws) (hm : m ≤ n) : Wd w a m cap (ws.take m) := by
  obtain ⟨h1, h2, h3, h4⟩ := h
  refine ⟨by rw [List.length_take]; omega, by omega, h3, ?_⟩
  rcases h4 with ⟨h4, h5, h6⟩ | ⟨b, o, h4, h5, h6⟩
  · exact .inl ⟨h4, by omega, h6⟩
  · refine .inr ⟨b, o, h4, h5, fun j hj => ?_⟩
    rw [h6 j (by omega)]
    unfold wd
    rw [List.getD_eq_getElem?_getD, List.getD_eq_getElem?_getD, List.getElem?_take_of_lt hj]

theorem trim_any (a : Option Addr) (n cap : Nat) (ws l : List Nat) (w : World) (h : Wd w a n cap ws) (hu : U64 ws) (hl : ws.length ≤ 64) (ha : Asc l) (hm : ∀ i, i < 4096 → (i ∈ l ↔ mem ws i = true)) :
    Calls Tryz.prog 85 #[.slice a n cap] w (SetPost w l) := by
  have HW := Lib.hid h
  have HT := Lib.hid (fun m (hmn : m ≤ n) hz he => trim_rp (n := m) (by rw [h.1]; exact hmn) hu hl hz he ha hm)
  obtain ⟨h1, h2, h3, h4⟩ := h
  have hz0 := Lib.hid (fun k (hk : n ≤ k) => wd_out (ws := ws) (k := k) (by omega))
  have fin : Hid (∀ m, m ≤ n → (∀ k, m ≤ k → wd ws k = 0) → (∀ k, k + 1 = m → wd ws k ≠ 0) → ∀ w', Below w.heap.size w w' → Bs w' a m cap l) := 
    fun m hmn hz he w' hb => ⟨_, (HW.out.pre hmn).below hb, HT.out m hmn hz he⟩
  clear HW HT h1 ha hm hu hl
  rcases h4 with ⟨rfl, rfl, rfl⟩ | ⟨b, o, rfl, ⟨hb, -⟩, hc⟩
  · go_enter Tryz.func85, Tryz.ntmps85
    go_wp2_with fail
    go_loop [0] (fun v => v = .slice none 0 0) (fun _ => 0)
    case atStart => rfl
    case round =>
      obtain rfl := hrel
      go_wp2_with fail
      go_returns
      exact ⟨_, _, _, rfl, fin.out 0 (Nat.le_refl _) hz0.out (by omega) _ (by go_grown), by go_grown⟩
  · have HC := Lib.hid hc
    clear hc
    go_enter Tryz.func85, Tryz.ntmps85
    go_wp2_with fail
    go_loop [0] (TrimRel (some ⟨b, o, none⟩) n cap ws) (fun v => match v with | .slice _ m _ => m | _ => 0)
    case atStart => exact ⟨n, Nat.le_refl _, rfl, hz0.out⟩
    case round =>
      obtain ⟨m, hmn, rfl, hz⟩ := hrel
      have HZ := Lib.hid hz
      clear hz
      by_cases hm0 : m = 0
      · subst hm0
        go_wp2_with fail
        go_returns
        exact ⟨_, _, _, rfl, fin.out 0 hmn HZ.out (by omega) _ (by go_grown), by go_grown⟩
      · have hck := HC.out (m - 1) (by omega)
        have hm1 : (0 : Int) < (m : Int) := by omega
        have hm2 : 0 < m := by omega
        by_cases hx : wd ws (m - 1) = 0
        · rw [hx] at hck
          have HX := Lib.hid hx
          clear hx hm0
          go_wp2_with fail
          go_round
          case rel => exact ⟨m - 1, by omega, by go_num, fun k hk => by
            by_cases hkm : k = m - 1
            · rw [hkm]; exact HX.out
            · exact HZ.out k (by omega)⟩
          case measure => simp; omega
        · have HX := Lib.hid hx
          have hx1 : (((wd ws (m - 1) : Nat) : Int) == 0) = false := beq_eq_false_iff_ne.2 (by omega)
          clear hx hm0
          go_wp2_with fail
          go_returns
          exact ⟨_, _, _, rfl, fin.out m hmn HZ.out (fun k hk => by rw [show k = m - 1 by omega]; exact HX.out) _ (by go_grown), by go_grown⟩
end Go.Proofs.YtfjpbkmnlmecgaaGreatDoor.Bz
end

section
/- Contract: math/bits.OnesCount64. -/
namespace Go.Proofs.YtfjpbkmnlmecgaaGreatDoor.Bz
open Go.RowKit Go.PlainAid
set_option linter.unusedVariables false
set_option linter.unusedSimpArgs false
set_option maxHeartbeats 1000000

def popF : Nat → Nat → Nat
  | 0, _ => 0
  | f + 1, x => x % 2 + popF f (x / 2)
theorem pop_byte (f x : Nat) : popF (f + 8) x = popF 8 (x % 256) + popF f (x / 256) := by
  simp only [popF]
  rw [show x / 2 / 2 / 2 / 2 / 2 / 2 / 2 / 2 = x / 256 by omega]
  omega
theorem pop_filter : ∀ (f x : Nat), ((List.range f).filter x.testBit).length = popF f x
  | 0, x => rfl
  | f + 1, x => by
    rw [List.range_succ_eq_map, List.filter_cons, List.filter_map]
    have ih := pop_filter f (x / 2)
    have e : x.testBit ∘ Nat.succ = (x / 2).testBit := by funext i; simp [Nat.testBit_succ]
    rw [e]
    have h0 : x.testBit 0 = decide (x % 2 = 1) := by simp [Nat.testBit_zero]
    rw [h0]
    unfold popF
    rw [← ih]
    split
    · rename_i h; simp at h; simp; omega
    · rename_i h; simp at h; simp; omega
theorem popF_le : ∀ (f x : Nat), popF f x ≤ f
  | 0, x => Nat.le_refl _
  | f + 1, x => by unfold popF; have := popF_le f (x / 2); omega
theorem land_byte (x y r s : Nat) (hr : r < 256) (hs : s < 256) : (256 * x + r) &&& (256 * y + s) = 256 * (x &&& y) + (r &&& s) := by
  have h1 : r &&& s < 256 := Nat.lt_of_le_of_lt Nat.and_le_left hr
  apply Nat.eq_of_testBit_eq
  intro j
  rw [Nat.testBit_and]
  have e : ∀ a b, b < 256 → (256 * a + b).testBit j = if j < 8 then b.testBit j else a.testBit (j - 8) := fun a b hb => Nat.testBit_two_pow_mul_add (i := 8) a hb j
  rw [e x r hr, e y s hs, e _ _ h1]
  split <;> rw [Nat.testBit_and]

def mask : Nat → Nat → Nat
  | 0, _ => 0
  | n + 1, c => 256 * mask n c + c
theorem mask_succ (n c : Nat) : mask (n + 1) c = 256 * mask n c + c := rfl
def a1b (r : Nat) : Nat := (r / 2 &&& 85) + (r &&& 85)
def a2b (r : Nat) : Nat := (r / 4 &&& 51) + (r &&& 51)
def a3b (r : Nat) : Nat := (r / 16 + r) &&& 15
def a1 (n x : Nat) : Nat := (x / 2 &&& mask n 85) + (x &&& mask n 85)
def a2 (n x : Nat) : Nat := (x / 4 &&& mask n 51) + (x &&& mask n 51)
def a3 (n x : Nat) : Nat := (x / 16 + x) &&& mask n 15
theorem byte1 : ∀ c < 2, ∀ t < 128, (128 * c + t) &&& 85 = t &&& 85 := by decide +kernel
theorem byte2 : ∀ c < 4, ∀ t < 64, (64 * c + t) &&& 51 = t &&& 51 := by decide +kernel
theorem byte3 : ∀ c < 5, ∀ t < 80, (16 * c + t) &&& 15 = t &&& 15 := by decide +kernel
theorem byteG : ∀ r < 256, a3b (a2b (a1b r)) = popF 8 r ∧ a1b r < 256 ∧ a2b (a1b r) ≤ 68 ∧ a2b (a1b r) % 16 ≤ 4 := by decide +kernel
theorem a1_step (n y r : Nat) (hr : r < 256) : a1 (n + 1) (256 * y + r) = 256 * a1 n y + a1b r := by
  unfold a1 a1b
  rw [mask_succ]
  rw [show (256 * y + r) / 2 = 256 * (y / 2) + (128 * (y % 2) + r / 2) by omega, land_byte _ _ _ _ (by omega) (by omega), land_byte _ _ _ _ hr (by omega), byte1 _ (by omega) _ (by omega)]
  omega
theorem a2_step (n y r : Nat) (hr : r < 256) : a2 (n + 1) (256 * y + r) = 256 * a2 n y + a2b r := by
  unfold a2 a2b
  rw [mask_succ]
  rw [show (256 * y + r) / 4 = 256 * (y / 4) + (64 * (y % 4) + r / 4) by omega, land_byte _ _ _ _ (by omega) (by omega), land_byte _ _ _ _ hr (by omega), byte2 _ (by omega) _ (by omega)]
  omega
theorem a3_step (n y r : Nat) (hr : r ≤ 68) (hy : y % 16 ≤ 4) : a3 (n + 1) (256 * y + r) = 256 * a3 n y + a3b r := by
  unfold a3 a3b
  rw [mask_succ]
  rw [show (256 * y + r) / 16 + (256 * y + r) = 256 * (y / 16 + y) + (16 * (y % 16) + (r / 16 + r)) by omega, land_byte _ _ _ _ (by omega) (by omega), byte3 _ (by omega) _ (by omega)]
def bsum : Nat → Nat → Nat
  | 0, _ => 0
  | n + 1, x => 256 * bsum n (x / 256) + popF 8 (x % 256)
theorem a_all : ∀ (n x : Nat), x < 256 ^ n → a3 n (a2 n (a1 n x)) = bsum n x ∧ a2 n (a1 n x) % 16 ≤ 4
  | 0, x, h => by
    have : x = 0 := by simp at h; exact h
    subst this
    exact ⟨rfl, by decide⟩
  | n + 1, x, h => by
    have h1 : x / 256 < 256 ^ n := by rw [Nat.pow_succ] at h; omega
    obtain ⟨i1, i2⟩ := a_all n (x / 256) h1
    obtain ⟨g1, g2, g3, g4⟩ := byteG (x % 256) (Nat.mod_lt _ (by omega))
    have e : x = 256 * (x / 256) + x % 256 := by omega
    have e1 : a1 (n + 1) x = 256 * a1 n (x / 256) + a1b (x % 256) := by
      conv => lhs; rw [e]
      exact a1_step n _ _ (by omega)
    rw [e1, a2_step _ _ _ g2, a3_step _ _ _ g3 i2, i1, g1]
    exact ⟨rfl, by omega⟩
theorem m85 : mask 8 85 = 6148914691236517205 := by decide
theorem m51 : mask 8 51 = 3689348814741910323 := by decide
theorem m15 : mask 8 15 = 1085102592571150095 := by decide
theorem land_le {a b : Nat} : a &&& b ≤ b := Nat.and_le_right
theorem st1 (x : Nat) (hx : x < 18446744073709551616) : IntKind.u64.wrap (bits .and .u64 ((x : Int) / 2) 6148914691236517205 + bits .and .u64 (x : Int) 6148914691236517205) = ((a1 8 x : Nat) : Int) ∧ a1 8 x < 18446744073709551616 := by
  have e1 : ((x / 2 : Nat) : Int) = (x : Int) / 2 := by omega
  have h1 : bits .and .u64 ((x : Int) / 2) 6148914691236517205 = ((x / 2 &&& 6148914691236517205 : Nat) : Int) := by rw [← e1]; exact u64_and_nat (x / 2) 6148914691236517205 (by omega) (by omega)
  have h2 : bits .and .u64 (x : Int) 6148914691236517205 = ((x &&& 6148914691236517205 : Nat) : Int) := u64_and_nat x 6148914691236517205 hx (by omega)
  have l1 : x / 2 &&& 6148914691236517205 ≤ 6148914691236517205 := land_le
  have l2 : x &&& 6148914691236517205 ≤ 6148914691236517205 := land_le
  unfold a1
  rw [m85, h1, h2, IntKind.wrap_u64]
  omega
theorem st2 (x : Nat) (hx : x < 18446744073709551616) : IntKind.u64.wrap (bits .and .u64 ((x : Int) / 4) 3689348814741910323 + bits .and .u64 (x : Int) 3689348814741910323) = ((a2 8 x : Nat) : Int) ∧ a2 8 x ≤ 7378697629483820646 := by
  have e1 : ((x / 4 : Nat) : Int) = (x : Int) / 4 := by omega
  have h1 : bits .and .u64 ((x : Int) / 4) 3689348814741910323 = ((x / 4 &&& 3689348814741910323 : Nat) : Int) := by rw [← e1]; exact u64_and_nat (x / 4) 3689348814741910323 (by omega) (by omega)
  have h2 : bits .and .u64 (x : Int) 3689348814741910323 = ((x &&& 3689348814741910323 : Nat) : Int) := u64_and_nat x 3689348814741910323 hx (by omega)
  have l1 : x / 4 &&& 3689348814741910323 ≤ 3689348814741910323 := land_le
  have l2 : x &&& 3689348814741910323 ≤ 3689348814741910323 := land_le
  unfold a2
  rw [m51, h1, h2, IntKind.wrap_u64]
  omega
theorem st3 (x : Nat) (hx : x ≤ 7378697629483820646) : bits .and .u64 (IntKind.u64.wrap ((x : Int) / 16 + (x : Int))) 1085102592571150095 = ((a3 8 x : Nat) : Int) := by
  have e1 : ((x / 16 + x : Nat) : Int) = IntKind.u64.wrap ((x : Int) / 16 + (x : Int)) := by rw [IntKind.wrap_u64]; omega
  have h1 : bits .and .u64 (IntKind.u64.wrap ((x : Int) / 16 + (x : Int))) 1085102592571150095 = ((x / 16 + x &&& 1085102592571150095 : Nat) : Int) := by rw [← e1]; exact u64_and_nat (x / 16 + x) 1085102592571150095 (by omega) (by omega)
  unfold a3
  rw [m15, h1]
theorem wraps_i64 (n : Int) (h₀ : 0 ≤ n) (h₁ : n < 2 ^ 63) : IntKind.i64.wrap n = n := by rw [IntKind.wrap_i64]; omega
theorem last (p0 p1 p2 p3 p4 p5 p6 p7 : Nat) (h0 : p0 ≤ 8) (h1 : p1 ≤ 8) (h2 : p2 ≤ 8) (h3 : p3 ≤ 8) (h4 : p4 ≤ 8) (h5 : p5 ≤ 8) (h6 : p6 ≤ 8) (h7 : p7 ≤ 8) (z s1 s2 s3 : Nat)
    (hz : z = p0 + 256 * (p1 + 256 * (p2 + 256 * (p3 + 256 * (p4 + 256 * (p5 + 256 * (p6 + 256 * p7)))))))
    (e1 : s1 = z + z / 256) (e2 : s2 = s1 + s1 / 65536) (e3 : s3 = s2 + s2 / 4294967296) : s3 < 9223372036854775808 ∧ s3 % 128 = p0 + p1 + p2 + p3 + p4 + p5 + p6 + p7 := by
  have d1 : z / 256 = p1 + 256 * (p2 + 256 * (p3 + 256 * (p4 + 256 * (p5 + 256 * (p6 + 256 * p7))))) := by
    generalize p1 + 256 * (p2 + 256 * (p3 + 256 * (p4 + 256 * (p5 + 256 * (p6 + 256 * p7))))) = R at *
    omega
  have g1 : s1 = (p0 + p1) + 256 * ((p1 + p2) + 256 * ((p2 + p3) + 256 * ((p3 + p4) + 256 * ((p4 + p5) + 256 * ((p5 + p6) + 256 * ((p6 + p7) + 256 * p7)))))) := by rw [e1, d1, hz]; omega
  clear e1 d1 hz
  have d2 : s1 / 65536 = (p2 + p3) + 256 * ((p3 + p4) + 256 * ((p4 + p5) + 256 * ((p5 + p6) + 256 * ((p6 + p7) + 256 * p7)))) := by
    generalize (p2 + p3) + 256 * ((p3 + p4) + 256 * ((p4 + p5) + 256 * ((p5 + p6) + 256 * ((p6 + p7) + 256 * p7)))) = R at *
    omega
  have g2 : s2 = (p0 + p1 + p2 + p3) + 256 * ((p1 + p2 + p3 + p4) + 256 * ((p2 + p3 + p4 + p5) + 256 * ((p3 + p4 + p5 + p6) + 256 * ((p4 + p5 + p6 + p7) + 256 * ((p5 + p6 + p7) + 256 * ((p6 + p7) + 256 * p7)))))) := by rw [e2, d2, g1]; omega
  clear e2 d2 g1
  have d3 : s2 / 4294967296 = (p4 + p5 + p6 + p7) + 256 * ((p5 + p6 + p7) + 256 * ((p6 + p7) + 256 * p7)) := by
    generalize (p4 + p5 + p6 + p7) + 256 * ((p5 + p6 + p7) + 256 * ((p6 + p7) + 256 * p7)) = R at *
    omega
  have g3 : s3 = (p0 + p1 + p2 + p3 + p4 + p5 + p6 + p7) + 256 * ((p1 + p2 + p3 + p4 + p5 + p6 + p7) + 256 * ((p2 + p3 + p4 + p5 + p6 + p7) + 256 * ((p3 + p4 + p5 + p6 + p7) + 256 * ((p4 + p5 + p6 + p7) + 256 * ((p5 + p6 + p7) + 256 * ((p6 + p7) + 256 * p7)))))) := by rw [e3, d3, g2]; omega
  clear e3 d3 g2
  refine ⟨by omega, ?_⟩
  generalize (p1 + p2 + p3 + p4 + p5 + p6 + p7) + 256 * ((p2 + p3 + p4 + p5 + p6 + p7) + 256 * ((p3 + p4 + p5 + p6 + p7) + 256 * ((p4 + p5 + p6 + p7) + 256 * ((p5 + p6 + p7) + 256 * ((p6 + p7) + 256 * p7))))) = R at *
  omega
theorem popF_zero (x : Nat) : popF 0 x = 0 := rfl
theorem bsum_succ (n x : Nat) : bsum (n + 1) x = 256 * bsum n (x / 256) + popF 8 (x % 256) := rfl
theorem bsum_zero (x : Nat) : bsum 0 x = 0 := rfl
theorem pop64 (x : Nat) : ∃ p0 p1 p2 p3 p4 p5 p6 p7, p0 ≤ 8 ∧ p1 ≤ 8 ∧ p2 ≤ 8 ∧ p3 ≤ 8 ∧ p4 ≤ 8 ∧ p5 ≤ 8 ∧ p6 ≤ 8 ∧ p7 ≤ 8 ∧ popF 64 x = p0 + (p1 + (p2 + (p3 + (p4 + (p5 + (p6 + (p7 + 0))))))) ∧
    bsum 8 x = 256 * (256 * (256 * (256 * (256 * (256 * (256 * (256 * 0 + p7) + p6) + p5) + p4) + p3) + p2) + p1) + p0 := by
  obtain ⟨y1, h1⟩ : ∃ y, y = x / 256 := ⟨_, rfl⟩
  obtain ⟨y2, h2⟩ : ∃ y, y = y1 / 256 := ⟨_, rfl⟩
  obtain ⟨y3, h3⟩ : ∃ y, y = y2 / 256 := ⟨_, rfl⟩
  obtain ⟨y4, h4⟩ : ∃ y, y = y3 / 256 := ⟨_, rfl⟩
  obtain ⟨y5, h5⟩ : ∃ y, y = y4 / 256 := ⟨_, rfl⟩
  obtain ⟨y6, h6⟩ : ∃ y, y = y5 / 256 := ⟨_, rfl⟩
  obtain ⟨y7, h7⟩ : ∃ y, y = y6 / 256 := ⟨_, rfl⟩
  refine ⟨_, _, _, _, _, _, _, _, popF_le 8 (x % 256), popF_le 8 (y1 % 256), popF_le 8 (y2 % 256), popF_le 8 (y3 % 256), popF_le 8 (y4 % 256), popF_le 8 (y5 % 256), popF_le 8 (y6 % 256), popF_le 8 (y7 % 256), ?_, ?_⟩
  · have q0 : popF 64 x = popF 8 (x % 256) + popF 56 y1 := by rw [h1]; exact pop_byte 56 x
    have q1 : popF 56 y1 = popF 8 (y1 % 256) + popF 48 y2 := by rw [h2]; exact pop_byte 48 y1
    have q2 : popF 48 y2 = popF 8 (y2 % 256) + popF 40 y3 := by rw [h3]; exact pop_byte 40 y2
    have q3 : popF 40 y3 = popF 8 (y3 % 256) + popF 32 y4 := by rw [h4]; exact pop_byte 32 y3
    have q4 : popF 32 y4 = popF 8 (y4 % 256) + popF 24 y5 := by rw [h5]; exact pop_byte 24 y4
    have q5 : popF 24 y5 = popF 8 (y5 % 256) + popF 16 y6 := by rw [h6]; exact pop_byte 16 y5
    have q6 : popF 16 y6 = popF 8 (y6 % 256) + popF 8 y7 := by rw [h7]; exact pop_byte 8 y6
    have q7 : popF 8 y7 = popF 8 (y7 % 256) + 0 := pop_byte 0 y7
    rw [q0, q1, q2, q3, q4, q5, q6, q7]
  · rw [bsum_succ 7 x, ← h1, bsum_succ 6 y1, ← h2, bsum_succ 5 y2, ← h3, bsum_succ 4 y3, ← h4, bsum_succ 3 y4, ← h5, bsum_succ 2 y5, ← h6, bsum_succ 1 y6, ← h7, bsum_succ 0 y7, bsum_zero]
theorem sum_end (x : Nat) (s1 s2 s3 : Nat) (e1 : s1 = bsum 8 x + bsum 8 x / 256) (e2 : s2 = s1 + s1 / 65536) (e3 : s3 = s2 + s2 / 4294967296) : s3 < 9223372036854775808 ∧ s3 % 128 = popF 64 x ∧ bsum 8 x < 1000000000000000000 := by
  obtain ⟨p0, p1, p2, p3, p4, p5, p6, p7, h0, h1, h2, h3, h4, h5, h6, h7, hp, hb⟩ := pop64 x
  have hb2 : bsum 8 x = p0 + 256 * (p1 + 256 * (p2 + 256 * (p3 + 256 * (p4 + 256 * (p5 + 256 * (p6 + 256 * p7)))))) := by
    rw [hb]
    clear e1 e2 e3 hp hb
    simp only [Nat.mul_zero, Nat.zero_add, Nat.add_comm, Nat.add_zero]
  have := last p0 p1 p2 p3 p4 p5 p6 p7 h0 h1 h2 h3 h4 h5 h6 h7 (bsum 8 x) s1 s2 s3 hb2 e1 e2 e3
  refine ⟨this.1, ?_, ?_⟩
  · rw [this.2, hp]
    clear this e1 e2 e3 hb hb2 hp
    simp only [Nat.add_assoc, Nat.add_zero]
  · rw [hb2]
    clear this e1 e2 e3 hb hp hb2
    omega

end Go.Proofs.YtfjpbkmnlmecgaaGreatDoor.Bz
end

section
/- Plain laws of sets as words: equal, within, meeting, number, least and greatest members. -/
namespace Go.Proofs.YtfjpbkmnlmecgaaGreatDoor.Bz
open Go.RowKit Go.PlainAid
set_option linter.unusedVariables false

theorem eq_words {ws vs l m : List Nat} (h : Rp ws l) (k : Rp vs m) : (l = m) ↔ (ws.length = vs.length ∧ ∀ j, j < ws.length → wd ws j = wd vs j) := by
  refine ⟨fun e => ?_, fun ⟨e1, e2⟩ => ?_⟩
  · subst e
    have := h.uniq k
    subst this
    exact ⟨rfl, fun _ _ => rfl⟩
  · have : ws = vs := by
      apply List.ext_getElem e1
      intro j h1 h2
      have := e2 j h1
      rw [wd_get h1, wd_get h2] at this
      exact this
    subst this
    rw [h.2.2.2, k.2.2.2]
theorem tb_zero {x : Nat} (hx : x < 18446744073709551616) (h : ∀ j, j < 64 → x.testBit j = false) : x = 0 := by
  apply Nat.eq_of_testBit_eq
  intro j
  rw [Nat.zero_testBit]
  by_cases hj : j < 64
  · exact h j hj
  · exact Nat.testBit_lt_two_pow (Nat.lt_of_lt_of_le hx (by show 2 ^ 64 ≤ 2 ^ j; exact Nat.pow_le_pow_right (by omega) (by omega)))
theorem mem_at (ws : List Nat) (k j : Nat) (hj : j < 64) : mem ws (64 * k + j) = (wd ws k).testBit j := by
  unfold mem
  rw [show (64 * k + j) / 64 = k by omega, show (64 * k + j) % 64 = j by omega]
theorem sub_words {ws vs l m : List Nat} (h : Rp ws l) (k : Rp vs m) : (∀ x ∈ l, x ∈ m) ↔ (∀ j, j < ws.length → ldf (wd ws j) (wd vs j) = 0) := by
  refine ⟨fun e j hj => ?_, fun e x hx => ?_⟩
  · apply tb_zero (ldf_lt (wd_lt h.1 j))
    intro i hi
    rw [tb_ldf (wd_lt k.1 j) hi, ← mem_at ws j i hi, ← mem_at vs j i hi]
    by_cases hm : mem ws (64 * j + i) = true
    · rw [(k.mem_iff _).1 (e _ ((h.mem_iff _).2 hm)), hm]; rfl
    · rw [Bool.eq_false_iff.2 hm]; rfl
  · have hm := (h.mem_iff x).1 hx
    rw [k.mem_iff]
    have hx2 : x = 64 * (x / 64) + x % 64 := by omega
    rw [hx2, mem_at _ _ _ (by omega)] at hm ⊢
    by_cases hj : x / 64 < ws.length
    · have h0 := e _ hj
      have h1 := tb_ldf (a := wd ws (x / 64)) (wd_lt k.1 (x / 64)) (show x % 64 < 64 by omega)
      rw [h0, Nat.zero_testBit, hm] at h1
      simpa using h1.symm
    · rw [wd_out (by omega), Nat.zero_testBit] at hm; cases hm
theorem meet_words {ws vs l m : List Nat} (h : Rp ws l) (k : Rp vs m) : (∃ x ∈ l, x ∈ m) ↔ (∃ j, j < min ws.length vs.length ∧ wd ws j &&& wd vs j ≠ 0) := by
  refine ⟨fun ⟨x, hx, hy⟩ => ?_, fun ⟨j, hj, e⟩ => ?_⟩
  · have h1 := (h.mem_iff x).1 hx
    have h2 := (k.mem_iff x).1 hy
    have hx2 : x = 64 * (x / 64) + x % 64 := by omega
    rw [hx2, mem_at _ _ _ (by omega)] at h1 h2
    refine ⟨x / 64, ?_, fun e => ?_⟩
    · by_cases h3 : x / 64 < ws.length
      · by_cases h4 : x / 64 < vs.length
        · omega
        · rw [wd_out (by omega), Nat.zero_testBit] at h2; cases h2
      · rw [wd_out (by omega), Nat.zero_testBit] at h1; cases h1
    · have := Nat.testBit_and (wd ws (x / 64)) (wd vs (x / 64)) (x % 64)
      rw [e, Nat.zero_testBit, h1, h2] at this; cases this
  · by_cases hh : ∃ i, i < 64 ∧ (wd ws j).testBit i = true ∧ (wd vs j).testBit i = true
    · obtain ⟨i, hi, h1, h2⟩ := hh
      rw [← mem_at _ _ _ hi] at h1 h2
      exact ⟨64 * j + i, (h.mem_iff _).2 h1, (k.mem_iff _).2 h2⟩
    · exfalso
      apply e
      apply tb_zero (land_lt (wd_lt h.1 j))
      intro i hi
      rw [Nat.testBit_and]
      cases h1 : (wd ws j).testBit i
      · rfl
      · cases h2 : (wd vs j).testBit i
        · rfl
        · exact absurd ⟨i, hi, h1, h2⟩ hh
def sumPop (ws : List Nat) : Nat → Nat
  | 0 => 0
  | k + 1 => sumPop ws k + popF 64 (wd ws k)
theorem sumPop_succ (ws : List Nat) (k : Nat) : sumPop ws (k + 1) = sumPop ws k + popF 64 (wd ws k) := rfl
theorem count_words (ws : List Nat) : ∀ k, ((List.range (64 * k)).filter (mem ws)).length = sumPop ws k
  | 0 => rfl
  | k + 1 => by
    have hr : List.range (64 * (k + 1)) = List.range (64 * k) ++ (List.range 64).map (64 * k + ·) := by
      rw [Nat.mul_add, Nat.mul_one, List.range_add]
    have hf : (List.range 64).filter (mem ws ∘ (64 * k + ·)) = (List.range 64).filter (wd ws k).testBit := by
      apply List.filter_congr
      intro i hi
      exact mem_at ws k i (by simpa using hi)
    rw [hr, List.filter_append, List.length_append, count_words ws k, List.filter_map, List.length_map, hf, pop_filter, sumPop_succ]
theorem popF_z : popF 64 0 = 0 := by decide
theorem sumPop_out {ws : List Nat} {n : Nat} (h : ws.length ≤ n) : ∀ d, sumPop ws (n + d) = sumPop ws n
  | 0 => by rw [Nat.add_zero]
  | d + 1 => by
    rw [← Nat.add_assoc, sumPop_succ, sumPop_out h d, wd_out (by omega), popF_z, Nat.add_zero]
theorem len_words {ws l : List Nat} (h : Rp ws l) : l.length = sumPop ws ws.length := by
  have h1 := sumPop_out (Nat.le_refl ws.length) (64 - ws.length)
  rw [show ws.length + (64 - ws.length) = 64 by have := h.2.2.1; omega] at h1
  rw [← h1, ← count_words ws 64, h.2.2.2]
  rfl
theorem sumPop_le (ws : List Nat) : ∀ k, sumPop ws k ≤ 64 * k
  | 0 => Nat.le_refl _
  | k + 1 => by rw [sumPop_succ]; have := sumPop_le ws k; have := popF_le 64 (wd ws k); omega

theorem ctz_spec {x : Nat} (h0 : x ≠ 0) (hx : x < 18446744073709551616) : Lib.ctz 64 x < 64 ∧ x.testBit (Lib.ctz 64 x) = true ∧ ∀ j, j < Lib.ctz 64 x → x.testBit j = false := by
  unfold Lib.ctz
  rw [if_neg h0]
  obtain ⟨m, hm, hk⟩ := Lib.ctzFrom_spec 64 x (by omega) hx
  generalize Lib.ctzFrom 64 x = k at *
  subst hm
  refine ⟨hk, ?_, fun j hj => ?_⟩
  · rw [Nat.mul_comm, Nat.testBit_mul_two_pow]; simp
  · rw [Nat.mul_comm, Nat.testBit_mul_two_pow]; simp; omega
theorem head_of {l : List Nat} (ha : Asc l) {x : Nat} (hx : x ∈ l) (hm : ∀ y ∈ l, x ≤ y) : l.headD 0 = x := by
  cases l with
  | nil => simp at hx
  | cons y l =>
    simp only [List.mem_cons] at hx
    rcases hx with rfl | hx
    · rfl
    · have h1 := hm y (by simp)
      have h2 := (List.pairwise_cons.1 ha.1).1 x hx
      omega
theorem least_words {ws l : List Nat} (h : Rp ws l) {k : Nat} (hz : ∀ j, j < k → wd ws j = 0) (hk : wd ws k ≠ 0) : l ≠ [] ∧ l.headD 0 = 64 * k + Lib.ctz 64 (wd ws k) := by
  obtain ⟨h1, h2, h3⟩ := ctz_spec hk (wd_lt h.1 k)
  have hx : 64 * k + Lib.ctz 64 (wd ws k) ∈ l := by rw [h.mem_iff, mem_at _ _ _ h1]; exact h2
  refine ⟨fun e => by rw [e] at hx; simp at hx, head_of h.asc hx fun y hy => ?_⟩
  have hm := (h.mem_iff y).1 hy
  have hy2 : y = 64 * (y / 64) + y % 64 := by omega
  rw [hy2, mem_at _ _ _ (by omega)] at hm
  by_cases h4 : y / 64 < k
  · rw [hz _ h4, Nat.zero_testBit] at hm; cases hm
  · by_cases h5 : y / 64 = k
    · rw [h5] at hm
      by_cases h6 : y % 64 < Lib.ctz 64 (wd ws k)
      · rw [h3 _ h6] at hm; cases hm
      · omega
    · omega
theorem none_words {ws l : List Nat} (h : Rp ws l) (hz : ∀ j, j < ws.length → wd ws j = 0) : l = [] := by
  have h0 : ws = [] := by
    by_cases hl : ws.length = 0
    · exact List.eq_nil_of_length_eq_zero hl
    · exact absurd (hz (ws.length - 1) (by omega)) (h.2.1 (ws.length - 1) (by omega))
  subst h0
  rw [h.2.2.2, ← Rp.nil.2.2.2]
theorem last_of : ∀ {l : List Nat}, l.Pairwise (· < ·) → ∀ {x : Nat}, x ∈ l → (∀ y ∈ l, y ≤ x) → l.getLastD 0 = x
  | [], _, x, hx, _ => by simp at hx
  | [y], _, x, hx, _ => by simp at hx; subst hx; rfl
  | y :: z :: l, ha, x, hx, hm => by
    have h1 : (y :: z :: l).getLastD 0 = (z :: l).getLastD 0 := rfl
    rw [h1]
    obtain ⟨ha1, ha2⟩ := List.pairwise_cons.1 ha
    refine last_of ha2 ?_ (fun w hw => hm w (List.mem_cons_of_mem _ hw))
    simp only [List.mem_cons] at hx ⊢
    rcases hx with rfl | hx
    · have := ha1 z (by simp); have := hm z (by simp); omega
    · exact hx
theorem bitLen_tb {x : Nat} (h0 : x ≠ 0) : x.testBit (bitLen x - 1) = true ∧ ∀ j, bitLen x ≤ j → x.testBit j = false := by
  obtain ⟨h1, h2⟩ := bitLen_spec x
  have h2 := h2 h0
  have hp : 0 < bitLen x := by
    by_cases h : bitLen x = 0
    · rw [h] at h1; simp at h1; omega
    · omega
  refine ⟨?_, fun j hj => Nat.testBit_lt_two_pow (Nat.lt_of_lt_of_le h1 (Nat.pow_le_pow_right (by omega) hj))⟩
  rw [Nat.testBit_eq_decide_div_mod_eq, decide_eq_true_iff]
  have e : 2 ^ bitLen x = 2 * 2 ^ (bitLen x - 1) := by
    conv => lhs; rw [show bitLen x = (bitLen x - 1) + 1 by omega]
    rw [Nat.pow_succ]; omega
  have h3 : x / 2 ^ (bitLen x - 1) < 2 := by rw [Nat.div_lt_iff_lt_mul (Nat.two_pow_pos _)]; omega
  have h4 : 1 ≤ x / 2 ^ (bitLen x - 1) := by rw [Nat.le_div_iff_mul_le (Nat.two_pow_pos _)]; omega
  omega
theorem greatest_words {ws l : List Nat} (h : Rp ws l) (hn : ws.length ≠ 0) : 1 ≤ bitLen (wd ws (ws.length - 1)) ∧ l ≠ [] ∧ l.getLastD 0 = 64 * (ws.length - 1) + bitLen (wd ws (ws.length - 1)) - 1 ∧ bitLen (wd ws (ws.length - 1)) ≤ 64 := by
  have h0 := h.2.1 (ws.length - 1) (by omega)
  have hu := wd_lt h.1 (ws.length - 1)
  obtain ⟨t1, t2⟩ := bitLen_tb h0
  obtain ⟨s1, s2⟩ := bitLen_spec (wd ws (ws.length - 1))
  have s2 := s2 h0
  have hp : 1 ≤ bitLen (wd ws (ws.length - 1)) := by
    by_cases e : bitLen (wd ws (ws.length - 1)) = 0
    · rw [e] at s1; simp at s1; omega
    · omega
  have hb : bitLen (wd ws (ws.length - 1)) ≤ 64 := by
    have : 2 ^ (bitLen (wd ws (ws.length - 1)) - 1) < 2 ^ 64 := Nat.lt_of_le_of_lt s2 hu
    have := (Nat.pow_lt_pow_iff_right (a := 2) (by omega)).1 this
    omega
  have hx : 64 * (ws.length - 1) + (bitLen (wd ws (ws.length - 1)) - 1) ∈ l := by rw [h.mem_iff, mem_at _ _ _ (by omega)]; exact t1
  refine ⟨hp, fun e => by rw [e] at hx; simp at hx, ?_, hb⟩
  rw [last_of h.asc.1 hx fun y hy => ?_]
  · omega
  · have hm := (h.mem_iff y).1 hy
    have hy2 : y = 64 * (y / 64) + y % 64 := by omega
    rw [hy2, mem_at _ _ _ (by omega)] at hm
    by_cases h4 : y / 64 < ws.length
    · by_cases h5 : y / 64 = ws.length - 1
      · rw [h5] at hm
        by_cases h6 : bitLen (wd ws (ws.length - 1)) ≤ y % 64
        · rw [t2 _ h6] at hm; cases hm
        · omega
      · omega
    · rw [wd_out (by omega), Nat.zero_testBit] at hm; cases hm
end Go.Proofs.YtfjpbkmnlmecgaaGreatDoor.Bz
end
