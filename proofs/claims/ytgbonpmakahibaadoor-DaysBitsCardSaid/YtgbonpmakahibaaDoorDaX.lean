/- Sets of days and sets of numbers, in plain words. -/
import Derived.Test.YtgbonpmakahibaaDoorDaR
import Derived.Test.YtgbonpmakahibaaDoorBtH
namespace Go.Proofs.YtgbonpmakahibaaDoor.Dy
open Go.RowKit Go.PlainAid
set_option linter.unusedVariables false

/-- The days of l are the numbers b. -/
structure RelB (l : List (Int × Int)) (b : List Nat) : Prop where
  can : Can l
  asc : Asc b
  mem : ∀ x : Nat, x ∈ b ↔ Dm l x = true
  top : ∀ d, Dm l d = true → d < 4096
theorem RelB.nat {l : List (Int × Int)} {b : List Nat} (h : RelB l b) {d : Int} (hd : Dm l d = true) : d.toNat ∈ b ∧ ((d.toNat : Nat) : Int) = d := by
  have h0 := h.can.day hd
  have e : ((d.toNat : Nat) : Int) = d := by omega
  exact ⟨(h.mem _).2 (by rw [e]; exact hd), e⟩
theorem RelB.or {l r m : List (Int × Int)} {b c : List Nat} (h : RelB l b) (k : RelB r c) (hm : Can m) (e : ∀ d, Dm m d = (Dm l d || Dm r d)) : RelB m (orL b c) where
  can := hm
  asc := ⟨(pw_range 4096).filter _, fun x hx => by unfold orL at hx; simp at hx; exact hx.1⟩
  mem x := by
    rw [e, Bool.or_eq_true, ← h.mem, ← k.mem]
    unfold orL
    simp
    intro hh
    rcases hh with hh | hh
    · exact h.asc.2 x hh
    · exact k.asc.2 x hh
  top d hd := by
    rw [e, Bool.or_eq_true] at hd
    rcases hd with hd | hd
    · exact h.top d hd
    · exact k.top d hd
theorem RelB.and {l r m : List (Int × Int)} {b c : List Nat} (h : RelB l b) (k : RelB r c) (hm : Can m) (e : ∀ d, Dm m d = (Dm l d && Dm r d)) : RelB m (andL b c) where
  can := hm
  asc := asc_filter h.asc _
  mem x := by rw [e, Bool.and_eq_true, ← h.mem, ← k.mem]; unfold andL; simp
  top d hd := by rw [e, Bool.and_eq_true] at hd; exact h.top d hd.1
theorem RelB.minus {l r m : List (Int × Int)} {b c : List Nat} (h : RelB l b) (k : RelB r c) (hm : Can m) (e : ∀ d, Dm m d = (Dm l d && !Dm r d)) : RelB m (minL b c) where
  can := hm
  asc := asc_filter h.asc _
  mem x := by
    rw [e, Bool.and_eq_true, ← h.mem, Bool.not_eq_true', ← Bool.not_eq_true, ← k.mem]; unfold minL; simp
  top d hd := by rw [e, Bool.and_eq_true] at hd; exact h.top d hd.1
theorem RelB.sub {l r : List (Int × Int)} {b c : List Nat} (h : RelB l b) (k : RelB r c) : (∀ x ∈ b, x ∈ c) ↔ ∀ d, Dm l d = true → Dm r d = true := by
  constructor
  · intro h1 d hd
    obtain ⟨h2, e⟩ := h.nat hd
    have := (k.mem _).1 (h1 _ h2)
    rwa [e] at this
  · intro h1 x hx; exact (k.mem x).2 (h1 _ ((h.mem x).1 hx))
theorem RelB.eq {l r : List (Int × Int)} {b c : List Nat} (h : RelB l b) (k : RelB r c) : decide (b = c) = decide (l = r) := by
  refine decide_eq_decide.2 ⟨fun e => ?_, fun e => ?_⟩
  · subst e
    refine can_ext h.can k.can fun d => bool_ext ⟨fun hd => ?_, fun hd => ?_⟩
    · obtain ⟨h2, e⟩ := h.nat hd; have := (k.mem _).1 h2; rwa [e] at this
    · obtain ⟨h2, e⟩ := k.nat hd; have := (h.mem _).1 h2; rwa [e] at this
  · subst e
    exact asc_ext h.asc k.asc fun x => by rw [h.mem, k.mem]
theorem RelB.meets {l r m : List (Int × Int)} {b c : List Nat} (h : RelB l b) (k : RelB r c) (hm : Can m) (e : ∀ d, Dm m d = (Dm l d && Dm r d)) {n : Nat} (hn : m.length = n) : decide (n = 0) = !decide (∃ x ∈ b, x ∈ c) := by
  have hq : n = 0 ↔ ¬ ∃ x ∈ b, x ∈ c := by
    constructor
    · rintro h0 ⟨x, h1, h2⟩
      have hz : m = [] := List.eq_nil_of_length_eq_zero (by omega)
      have := e x
      rw [hz, (h.mem x).1 h1, (k.mem x).1 h2] at this
      cases this
    · intro h0
      have : m = [] := (can_eq_nil hm).2 fun d => by
        rw [e]
        cases h1 : Dm l d with
        | false => rfl
        | true =>
          cases h2 : Dm r d with
          | false => rfl
          | true =>
            obtain ⟨h3, e3⟩ := h.nat h1
            exact absurd ⟨_, h3, (k.mem _).2 (by rw [e3]; exact h2)⟩ h0
      rw [← hn, this]; rfl
  by_cases hx : ∃ x ∈ b, x ∈ c
  · rw [decide_eq_true hx, decide_eq_false (fun h0 => hq.1 h0 hx)]; rfl
  · rw [decide_eq_false hx, decide_eq_true (hq.2 hx)]; rfl
theorem cntN_filter (S : Int → Bool) : ∀ n, cntN S n = ((List.range n).filter (fun x : Nat => S x)).length
  | 0 => rfl
  | n + 1 => by
    unfold cntN
    rw [cntN_filter S n, List.range_succ, List.filter_append, List.length_append]
    cases h : S n <;> simp [h]
theorem cntN_cut (S : Int → Bool) (k : Nat) : ∀ n, k ≤ n → (∀ d : Nat, k ≤ d → S d = false) → cntN S n = cntN S k := by
  intro n
  induction n with
  | zero => intro h _; rw [show k = 0 by omega]
  | succ n ih =>
    intro h hS
    by_cases hk : k = n + 1
    · rw [hk]
    · rw [show cntN S (n + 1) = cntN S n + (match S n with | true => 1 | false => 0) from rfl, ih (by omega) hS, hS n (by omega)]; simp
theorem RelB.len {l : List (Int × Int)} {b : List Nat} (h : RelB l b) : lenD l = (b.length : Int) := by
  have hb : b = (List.range 4096).filter (fun x : Nat => Dm l x) := asc_ext h.asc ⟨(pw_range 4096).filter _, fun x hx => by simpa using (List.mem_filter.1 hx).1⟩ fun x => by
    rw [List.mem_filter, List.mem_range, h.mem]
    constructor
    · intro h1; exact ⟨by have := h.top _ h1; omega, h1⟩
    · exact fun h1 => h1.2
  rw [len_cnt h.can, cntN_cut _ 4096 30001 (by omega) (fun d hd => by
    cases h1 : Dm l d with
    | false => rfl
    | true => have := h.top _ h1; omega), cntN_filter, ← hb]
theorem RelB.first {l : List (Int × Int)} {b : List Nat} (h : RelB l b) : (nextP l 0).1 = ((b.headD 0 : Nat) : Int) ∧ (nextP l 0).2 = !b.isEmpty := by
  rcases next_flags h.can 0 with ⟨h1, h2, h3, h4⟩ | ⟨h1, h2, h3⟩
  · obtain ⟨hm, e⟩ := h.nat h3
    cases b with
    | nil => cases hm
    | cons x b =>
      refine ⟨?_, by rw [h1]; rfl⟩
      show _ = (x : Int)
      have hx := (h.mem x).1 (List.mem_cons_self ..)
      have hle : x ≤ (nextP l 0).1.toNat := by
        rcases List.mem_cons.1 hm with hm | hm
        · omega
        · exact Nat.le_of_lt ((List.pairwise_cons.1 h.asc.1).1 _ hm)
      apply Int.le_antisymm
      · apply Int.not_lt.1
        intro hlt
        have := h4 x (by omega) hlt
        rw [hx] at this; cases this
      · omega
  · cases b with
    | nil => exact ⟨h2, h1⟩
    | cons x b =>
      have := h3 x (by omega)
      rw [(h.mem x).1 (List.mem_cons_self ..)] at this; cases this
theorem RelB.has {l : List (Int × Int)} {b : List Nat} (h : RelB l b) {p : Int × Int} (hp : p ∈ l) : hasB b p.1 = true ∧ hasB b p.2 = true := by
  have hok := h.can.1 p hp
  unfold Okp at hok
  obtain ⟨e1, e2, -, -⟩ := can_ends h.can p hp
  unfold hasB
  rw [decide_eq_true (show 0 ≤ p.1 by omega), decide_eq_true (show 0 ≤ p.2 by omega), decide_eq_true (h.nat e1).1, decide_eq_true (h.nat e2).1]
  exact ⟨rfl, rfl⟩

/-- The raw spans and the numbers made so far. -/
def RelM (l : List (Int × Int)) (b : List Nat) : Prop := Asc b ∧ ∀ x : Nat, x ∈ b ↔ Dm l x = true
def Lo (p : Int × Int) : Prop := 0 ≤ p.1 ∧ p.1 ≤ p.2 ∧ p.2 ≤ 300
theorem RelM.nil : RelM [] [] := ⟨⟨List.Pairwise.nil, fun x h => by cases h⟩, fun x => by simp⟩
theorem mem_belowL {n : Int} {x : Nat} : x ∈ belowL n ↔ (x : Int) < n ∧ x < 4096 := by unfold belowL; rw [List.mem_range]; omega
theorem RelM.step {l : List (Int × Int)} {b : List Nat} (h : RelM l b) {p q : Int} (hp : Lo (p, q)) : RelM (l ++ [(p, q)]) (orL b (minL (belowL (q + 1)) (belowL p))) := by
  unfold Lo at hp
  dsimp only at hp
  refine ⟨⟨(pw_range 4096).filter _, fun x hx => by unfold orL at hx; simp at hx; exact hx.1⟩, fun x => ?_⟩
  rw [dm_snoc_iff, ← h.2]
  unfold orL minL
  simp only [List.mem_filter, List.mem_range, Bool.or_eq_true, decide_eq_true_eq, Bool.not_eq_true', decide_eq_false_iff_not, mem_belowL]
  constructor
  · rintro ⟨h1, h2 | ⟨h2, h3⟩⟩
    · exact .inl h2
    · exact .inr (by omega)
  · rintro (h2 | h2)
    · exact ⟨h.1.2 x h2, .inl h2⟩
    · exact ⟨by omega, .inr ⟨⟨by omega, by omega⟩, by omega⟩⟩
theorem RelM.done {l r : List (Int × Int)} {b : List Nat} (h : RelM l b) (hl : ∀ p ∈ l, Lo p) (hr : Can r) (e : ∀ d, Dm r d = Dm l d) : RelB r b where
  can := hr
  asc := h.1
  mem x := by rw [e]; exact h.2 x
  top d hd := by
    rw [e] at hd
    obtain ⟨p, hp, h1, h2⟩ := dm_iff.1 hd
    have := hl p hp
    unfold Lo at this
    omega
end Go.Proofs.YtgbonpmakahibaaDoor.Dy
