/- Days, in plain words: lists of spans, canonical lists, and the days in them. No program in sight. -/
import Derived.PlainAid
import Derived.Lib.Hide
namespace Go.Proofs.YtfdododighjjpaaGreatDoor.Dy
set_option linter.unusedVariables false

/-- d is a day. -/
def inD (d : Int) : Bool := decide (0 ≤ d ∧ d ≤ 30000)
theorem inD_iff {d : Int} : inD d = true ↔ 0 ≤ d ∧ d ≤ 30000 := by unfold inD; exact decide_eq_true_iff
/-- d is a day of one of the spans. -/
def Dm (l : List (Int × Int)) (d : Int) : Bool := l.any fun p => decide (p.1 ≤ d) && decide (d ≤ p.2)
theorem dm_iff {l : List (Int × Int)} {d : Int} : Dm l d = true ↔ ∃ p ∈ l, p.1 ≤ d ∧ d ≤ p.2 := by
  simp [Dm, List.any_eq_true]
@[simp] theorem dm_nil (d : Int) : Dm [] d = false := rfl
@[simp] theorem dm_cons (p : Int × Int) (l : List (Int × Int)) (d : Int) : Dm (p :: l) d = ((decide (p.1 ≤ d) && decide (d ≤ p.2)) || Dm l d) := rfl
theorem dm_append (l r : List (Int × Int)) (d : Int) : Dm (l ++ r) d = (Dm l d || Dm r d) := by simp [Dm]

/-- A span of days. -/
def Okp (p : Int × Int) : Prop := 0 ≤ p.1 ∧ p.1 ≤ p.2 ∧ p.2 ≤ 30000
/-- The list of a set: valid spans, ascending, with a gap between two. -/
def Can (l : List (Int × Int)) : Prop := (∀ p ∈ l, Okp p) ∧ l.Pairwise fun p q => p.2 + 1 < q.1

theorem can_nil : Can [] := ⟨fun _ h => (by cases h), List.Pairwise.nil⟩
theorem Can.tail {p : Int × Int} {l : List (Int × Int)} (h : Can (p :: l)) : Can l := ⟨fun q hq => h.1 q (List.mem_cons_of_mem _ hq), (List.pairwise_cons.1 h.2).2⟩
theorem Can.head {p : Int × Int} {l : List (Int × Int)} (h : Can (p :: l)) : Okp p := h.1 p (List.mem_cons_self ..)
theorem Can.after {p : Int × Int} {l : List (Int × Int)} (h : Can (p :: l)) : ∀ q ∈ l, p.2 + 1 < q.1 := (List.pairwise_cons.1 h.2).1
theorem can_cons {p : Int × Int} {l : List (Int × Int)} (hp : Okp p) (hl : Can l) (h : ∀ q ∈ l, p.2 + 1 < q.1) : Can (p :: l) :=
  ⟨fun q hq => (by
    rcases List.mem_cons.1 hq with rfl | hq
    · exact hp
    · exact hl.1 q hq), List.pairwise_cons.2 ⟨h, hl.2⟩⟩
theorem can_snoc {p : Int × Int} {l : List (Int × Int)} (hp : Okp p) (hl : Can l) (h : ∀ q ∈ l, q.2 + 1 < p.1) : Can (l ++ [p]) := by
  refine ⟨fun q hq => ?_, ?_⟩
  · rcases List.mem_append.1 hq with hq | hq
    · exact hl.1 q hq
    · rw [List.mem_singleton.1 hq]; exact hp
  · rw [List.pairwise_append]
    refine ⟨hl.2, List.pairwise_singleton _ _, fun q hq r hr => ?_⟩
    rw [List.mem_singleton.1 hr]
    exact h q hq

theorem Can.day {l : List (Int × Int)} (h : Can l) {d : Int} (hd : Dm l d = true) : 0 ≤ d ∧ d ≤ 30000 := by
  obtain ⟨p, hp, h1, h2⟩ := dm_iff.1 hd
  have := h.1 p hp
  unfold Okp at this
  omega

/-- Two lists of the same days are one. -/
theorem can_ext : ∀ {l r : List (Int × Int)}, Can l → Can r → (∀ d, Dm l d = Dm r d) → l = r := by
  intro l
  induction l with
  | nil =>
    intro r hl hr h
    cases r with
    | nil => rfl
    | cons q r =>
      have h1 := h q.1
      have h2 := hr.head
      unfold Okp at h2
      have : Dm (q :: r) q.1 = true := dm_iff.2 ⟨q, List.mem_cons_self .., by omega, by omega⟩
      rw [this] at h1
      cases h1
  | cons p l ih =>
    intro r hl hr h
    cases r with
    | nil =>
      have h1 := h p.1
      have h2 := hl.head
      unfold Okp at h2
      have : Dm (p :: l) p.1 = true := dm_iff.2 ⟨p, List.mem_cons_self .., by omega, by omega⟩
      rw [this] at h1
      cases h1
    | cons q r =>
      have hp := hl.head
      have hq := hr.head
      unfold Okp at hp hq
      have least : ∀ {p q : Int × Int} {l r : List (Int × Int)}, Can (q :: r) → Okp p → (∀ d, Dm (p :: l) d = Dm (q :: r) d) → q.1 ≤ p.1 := by
        intro p q l r hr hp h
        unfold Okp at hp
        have h1 : Dm (p :: l) p.1 = true := dm_iff.2 ⟨p, List.mem_cons_self .., by omega, by omega⟩
        rw [h] at h1
        obtain ⟨s, hs, s1, s2⟩ := dm_iff.1 h1
        rcases List.mem_cons.1 hs with rfl | hs
        · exact s1
        · have := hr.after s hs
          have := hr.head
          unfold Okp at this
          omega
      have e1 : p.1 = q.1 := Int.le_antisymm (least hl (by unfold Okp; omega) (fun d => (h d).symm)) (least hr (by unfold Okp; omega) h)
      have top : ∀ {p q : Int × Int} {l r : List (Int × Int)}, Can (p :: l) → Okp q → p.1 = q.1 → (∀ d, Dm (p :: l) d = Dm (q :: r) d) → q.2 ≤ p.2 := by
        intro p q l r hl hq e h
        have hp := hl.head
        unfold Okp at hp hq
        apply Int.not_lt.1
        intro hlt
        have h1 : Dm (q :: r) (p.2 + 1) = true := dm_iff.2 ⟨q, List.mem_cons_self .., by omega, by omega⟩
        rw [← h] at h1
        obtain ⟨s, hs, s1, s2⟩ := dm_iff.1 h1
        rcases List.mem_cons.1 hs with rfl | hs
        · omega
        · have := hl.after s hs
          omega
      have e2 : p.2 = q.2 := Int.le_antisymm (top hr (by unfold Okp; omega) e1.symm (fun d => (h d).symm)) (top hl (by unfold Okp; omega) e1 h)
      have e : p = q := Prod.ext e1 e2
      subst e
      have out : ∀ {l : List (Int × Int)}, Can (p :: l) → ∀ d, Dm l d = true → p.2 + 1 < d := by
        intro l hl d hd
        obtain ⟨s, hs, s1, s2⟩ := dm_iff.1 hd
        have := hl.after s hs
        omega
      rw [ih hl.tail hr.tail (fun d => ?_)]
      have h1 := h d
      rw [dm_cons, dm_cons] at h1
      cases h2 : Dm l d with
      | true =>
        have := out hl d h2
        rw [h2, show (decide (d ≤ p.2)) = false from decide_eq_false (by omega)] at h1
        simpa using h1
      | false =>
        cases h3 : Dm r d with
        | true =>
          have := out hr d h3
          rw [h2, h3, show (decide (d ≤ p.2)) = false from decide_eq_false (by omega)] at h1
          simp at h1
        | false => rfl

theorem can_len' : ∀ {l : List (Int × Int)}, Can l → ∀ a : Int, (∀ p ∈ l, a ≤ p.1) → 2 * (l.length : Int) ≤ max 0 (30002 - a) := by
  intro l
  induction l with
  | nil => intro _ a _; simp; omega
  | cons p l ih =>
    intro h a ha
    have hp := h.head
    unfold Okp at hp
    have h0 := ha p (List.mem_cons_self ..)
    have h1 := ih h.tail (p.1 + 2) (fun q hq => by have := h.after q hq; omega)
    rw [List.length_cons]
    omega
theorem can_len {l : List (Int × Int)} (h : Can l) : l.length ≤ 15001 := by
  have := can_len' h 0 (fun p hp => (h.1 p hp).1)
  omega

theorem can_eq_nil {l : List (Int × Int)} (h : Can l) : l = [] ↔ ∀ d, Dm l d = false := by
  constructor
  · rintro rfl d; rfl
  · intro h1; exact can_ext h can_nil (fun d => by rw [h1 d]; rfl)

/-- The number of days. -/
def lenD (l : List (Int × Int)) : Int := (l.map fun p => p.2 - p.1 + 1).sum
@[simp] theorem lenD_nil : lenD [] = 0 := rfl
@[simp] theorem lenD_cons (p : Int × Int) (l : List (Int × Int)) : lenD (p :: l) = p.2 - p.1 + 1 + lenD l := by simp [lenD]
theorem lenD_append (l r : List (Int × Int)) : lenD (l ++ r) = lenD l + lenD r := by simp [lenD]

/-- How many of the days below n are in the set. -/
def cntN (S : Int → Bool) : Nat → Int
  | 0 => 0
  | n + 1 => cntN S n + (match S n with | true => 1 | false => 0)
theorem cntN_congr {S T : Int → Bool} : ∀ (n : Nat), (∀ d : Nat, d < n → S d = T d) → cntN S n = cntN T n
  | 0, _ => rfl
  | n + 1, h => by unfold cntN; rw [cntN_congr n (fun d hd => h d (by omega)), h n (by omega)]
theorem cntN_or {S T U V : Int → Bool} : ∀ (n : Nat), (∀ d : Nat, d < n → U d = (S d || T d) ∧ V d = (S d && T d)) → cntN U n + cntN V n = cntN S n + cntN T n
  | 0, _ => rfl
  | n + 1, h => by
    have h1 := cntN_or n (fun d hd => h d (by omega))
    obtain ⟨h2, h3⟩ := h n (by omega)
    unfold cntN
    rw [h2, h3]
    cases S n <;> cases T n <;> simp <;> omega
theorem cntN_span (a b : Int) : ∀ (n : Nat), 0 ≤ a → a ≤ b + 1 → cntN (fun d => decide (a ≤ d) && decide (d ≤ b)) n = max 0 (min (b + 1) n - a)
  | 0, h0, _ => by unfold cntN; omega
  | n + 1, h0, h1 => by
    have := cntN_span a b n h0 h1
    unfold cntN
    rw [this]
    by_cases h2 : a ≤ n
    · by_cases h3 : (n : Int) ≤ b
      · simp [h2, h3]; omega
      · simp [h2, h3]; omega
    · simp [h2]; omega
theorem cntN_zero : ∀ (n : Nat), cntN (fun _ => false) n = 0
  | 0 => rfl
  | n + 1 => by unfold cntN; rw [cntN_zero n]; rfl

/-- The sum over the spans counts the days. -/
theorem len_cnt : ∀ {l : List (Int × Int)}, Can l → lenD l = cntN (Dm l) 30001 := by
  intro l
  induction l with
  | nil => intro _; exact (cntN_zero _).symm
  | cons p l ih =>
    intro h
    have hp := h.head
    unfold Okp at hp
    have h1 := cntN_or (S := fun d => decide (p.1 ≤ d) && decide (d ≤ p.2)) (T := Dm l) (U := Dm (p :: l)) (V := fun _ => false) 30001 (fun d hd => by
      refine ⟨rfl, ?_⟩
      cases h2 : Dm l d with
      | false => simp
      | true =>
        obtain ⟨s, hs, s1, s2⟩ := dm_iff.1 h2
        have := h.after s hs
        have h3 : decide ((d : Int) ≤ p.2) = false := decide_eq_false (by omega)
        simp [h3])
    rw [cntN_zero, cntN_span p.1 p.2 30001 hp.1 (by omega), ← ih h.tail] at h1
    rw [lenD_cons]
    omega
theorem lenD_bounds {l : List (Int × Int)} (h : Can l) : 0 ≤ lenD l ∧ lenD l ≤ 30001 := by
  rw [len_cnt h]
  have : ∀ (S : Int → Bool) (n : Nat), 0 ≤ cntN S n ∧ cntN S n ≤ n := by
    intro S n
    induction n with
    | zero => exact ⟨Int.le_refl _, Int.le_refl _⟩
    | succ n ih => unfold cntN; cases S n <;> simp <;> omega
  have := this (Dm l) 30001
  omega
theorem lenD_take {l : List (Int × Int)} (h : Can l) (k : Nat) : 0 ≤ lenD (l.take k) ∧ lenD (l.take k) ≤ 30001 :=
  lenD_bounds ⟨fun p hp => h.1 p (List.mem_of_mem_take hp), h.2.sublist (List.take_sublist _ _)⟩
theorem take_snoc' {α : Type} {l : List α} {k : Nat} {x : α} (h : l[k]? = some x) : l.take (k + 1) = l.take k ++ [x] := by
  rw [List.take_add_one, h]; rfl
end Go.Proofs.YtfdododighjjpaaGreatDoor.Dy
