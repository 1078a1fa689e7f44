/- Several of the texts below, joined: DaSpec DaB DaA DaU. -/
import Derived.PlainAid
import Derived.Lib.Hide
import Derived.Test.YtfjpbkmnlmecgaaGreatDoorQga
import Derived.Test.YtfjpbkmnlmecgaaGreatDoorProg
import Derived.BigGuardPart
import Derived.WalkSpells
import Derived.WalkLawsBesides
import Derived.Deep.RegionHeld3
import Derived.Deep.QuietTactic
import Derived.BigQuiet
import Derived.Lib.SliceRun
section
/- Days, in plain words: lists of spans, canonical lists, and the days in them. No program in sight. -/
namespace Go.Proofs.YtfjpbkmnlmecgaaGreatDoor.Dy
set_option linter.unusedVariables false

/-- d is a day. -/
def inD (d : Int) : Bool := decide (0 ≤ d ∧ d ≤ 30000)
theorem inD_iff {d : Int} : inD d = true ↔ 0 ≤ d ∧ d ≤ 30000 := by unfold inD; exact decide_eq_true_iff
/-- d is a day of one of the spans. -/
def Dm (l : List (Int × Int)) (d : Int) : Bool := l.any fun p => decide (p.1 ≤ d) && decide (d ≤ p.2)
theorem dm_iff {l : List (Int × Int)} {d : Int} : Dm l d = true ↔ ∃ p ∈ l, p.1 ≤ d ∧ d ≤ p.2 := by
  simp [Dm, List.any_eq_true]
@[simp] theorem dm_nil (d : Int) : Dm [] d = false := rfl
@[simp] theorem dm_cons (p : Int × Int) (l : List (Int × Int)) (d : Int) : Dm (p :: l) d = ((decide (p.1 ≤ d) && decide (d ≤ p.2)) || Dm l d) := rfl
theorem dm_append (l r : List (Int × Int)) (d : Int) : Dm (l ++ r) d = (Dm l d || Dm r d) := by simp [Dm]

/-- A span of days. -/
def Okp (p : Int × Int) : Prop := 0 ≤ p.1 ∧ p.1 ≤ p.2 ∧ p.2 ≤ 30000
/-- The list of a set: valid spans, ascending, with a gap between two. -/
def Can (l : List (Int × Int)) : Prop := (∀ p ∈ l, Okp p) ∧ l.Pairwise fun p q => p.2 + 1 < q.1

theorem can_nil : Can [] := ⟨fun _ h => (by cases h), List.Pairwise.nil⟩
theorem Can.tail {p : Int × Int} {l : List (Int × Int)} (h : Can (p :: l)) : Can l := ⟨fun q hq => h.1 q (List.mem_cons_of_mem _ hq), (List.pairwise_cons.1 h.2).2⟩
theorem Can.head {p : Int × Int} {l : List (Int × Int)} (h : Can (p :: l)) : Okp p := h.1 p (List.mem_cons_self ..)
theorem Can.after {p : Int × Int} {l : List (Int × Int)} (h : Can (p :: l)) : ∀ q ∈ l, p.2 + 1 < q.1 := (List.pairwise_cons.1 h.2).1
theorem can_cons {p : Int × Int} {l : List (Int × Int)} (hp : Okp p) (hl : Can l) (h : ∀ q ∈ l, p.2 + 1 < q.1) : Can (p :: l) :=
  ⟨fun q hq => (by
    rcases List.mem_cons.1 hq with rfl | hq
    · exact hp
    · exact hl.1 q hq), List.pairwise_cons.2 ⟨h, hl.2⟩⟩
theorem can_snoc {p : Int × Int} {l : List (Int × Int)} (hp : Okp p) (hl : Can l) (h : ∀ q ∈ l, q.2 + 1 < p.1) : Can (l ++ [p]) := by
  refine ⟨fun q hq => ?_, ?_⟩
  · rcases List.mem_append.1 hq with hq | hq
    · exact hl.1 q hq
    · rw [List.mem_singleton.1 hq]; exact hp
  · rw [List.pairwise_append]
    refine ⟨hl.2, List.pairwise_singleton _ _, fun q hq r hr => ?_⟩
    rw [List.mem_singleton.1 hr]
    exact h q hq

theorem Can.day {l : List (Int × Int)} (h : Can l) {d : Int} (hd : Dm l d = true) : 0 ≤ d ∧ d ≤ 30000 := by
  obtain ⟨p, hp, h1, h2⟩ := dm_iff.1 hd
  have := h.1 p hp
  unfold Okp at this
  omega

/-- Two lists of the same days are one. -/
theorem can_ext : ∀ {l r : List (Int × Int)}, Can l → Can r → (∀ d, Dm l d = Dm r d) → l = r := by
  intro l
  induction l with
  | nil =>
    intro r hl hr h
    cases r with
    | nil => rfl
    | cons q r =>
      have h1 := h q.1
      have h2 := hr.head
      unfold Okp at h2
      have : Dm (q :: r) q.1 = true := dm_iff.2 ⟨q, List.mem_cons_self .., by omega, by omega⟩
      rw [this] at h1
      cases h1
  | cons p l ih =>
    intro r hl hr h
    cases r with
    | nil =>
      have h1 := h p.1
      have h2 := hl.head
      unfold Okp at h2
      have : Dm (p :: l) p.1 = true := dm_iff.2 ⟨p, List.mem_cons_self .., by omega, by omega⟩
      rw [this] at h1
      cases h1
    | cons q r =>
      have hp := hl.head
      have hq := hr.head
      unfold Okp at hp hq
      have least : ∀ {p q : Int × Int} {l r : List (Int × Int)}, Can (q :: r) → Okp p → (∀ d, Dm (p :: l) d = Dm (q :: r) d) → q.1 ≤ p.1 := by
        intro p q l r hr hp h
        unfold Okp at hp
        have h1 : Dm (p :: l) p.1 = true := dm_iff.2 ⟨p, List.mem_cons_self .., by omega, by omega⟩
        rw [h] at h1
        obtain ⟨s, hs, s1, s2⟩ := dm_iff.1 h1
        rcases List.mem_cons.1 hs with rfl | hs
        · exact s1
        · have := hr.after s hs
          have := hr.head
          unfold Okp at this
          omega
      have e1 : p.1 = q.1 := Int.le_antisymm (least hl (by unfold Okp; omega) (fun d => (h d).symm)) (least hr (by unfold Okp; omega) h)
      have top : ∀ {p q : Int × Int} {l r : List (Int × Int)}, Can (p :: l) → Okp q → p.1 = q.1 → (∀ d, Dm (p :: l) d = Dm (q :: r) d) → q.2 ≤ p.2 := by
        intro p q l r hl hq e h
        have hp := hl.head
        unfold Okp at hp hq
        apply Int.not_lt.1
        intro hlt
        have h1 : Dm (q :: r) (p.2 + 1) = true := dm_iff.2 ⟨q, List.mem_cons_self .., by omega, by omega⟩
        rw [← h] at h1
        obtain ⟨s, hs, s1, s2⟩ := dm_iff.1 h1
        rcases List.mem_cons.1 hs with rfl | hs
        · omega
        · have := hl.after s hs
          omega
      have e2 : p.2 = q.2 := Int.le_antisymm (top hr (by unfold Okp; omega) e1.symm (fun d => (h d).symm)) (top hl (by unfold Okp; omega) e1 h)
      have e : p = q := Prod.ext e1 e2
      subst e
      have out : ∀ {l : List (Int × Int)}, Can (p :: l) → ∀ d, Dm l d = true → p.2 + 1 < d := by
        intro l hl d hd
        obtain ⟨s, hs, s1, s2⟩ := dm_iff.1 hd
        have := hl.after s hs
        omega
      rw [ih hl.tail hr.tail (fun d => ?_)]
      have h1 := h d
      rw [dm_cons, dm_cons] at h1
      cases h2 : Dm l d with
      | true =>
        have := out hl d h2
        rw [h2, show (decide (d ≤ p.2)) = false from decide_eq_false (by omega)] at h1
        simpa using h1
      | false =>
        cases h3 : Dm r d with
        | true =>
          have := out hr d h3
          rw [h2, h3, show (decide (d ≤ p.2)) = false from decide_eq_false (by omega)] at h1
          simp at h1
        | false => rfl

theorem can_len' : ∀ {l : List (Int × Int)}, Can l → ∀ a : Int, (∀ p ∈ l, a ≤ p.1) → 2 * (l.length : Int) ≤ max 0 (30002 - a) := by
  intro l
  induction l with
  | nil => intro _ a _; simp; omega
  | cons p l ih =>
    intro h a ha
    have hp := h.head
    unfold Okp at hp
    have h0 := ha p (List.mem_cons_self ..)
    have h1 := ih h.tail (p.1 + 2) (fun q hq => by have := h.after q hq; omega)
    rw [List.length_cons]
    omega
theorem can_len {l : List (Int × Int)} (h : Can l) : l.length ≤ 15001 := by
  have := can_len' h 0 (fun p hp => (h.1 p hp).1)
  omega

theorem can_eq_nil {l : List (Int × Int)} (h : Can l) : l = [] ↔ ∀ d, Dm l d = false := by
  constructor
  · rintro rfl d; rfl
  · intro h1; exact can_ext h can_nil (fun d => by rw [h1 d]; rfl)

/-- The number of days. -/
def lenD (l : List (Int × Int)) : Int := (l.map fun p => p.2 - p.1 + 1).sum
@[simp] theorem lenD_nil : lenD [] = 0 := rfl
@[simp] theorem lenD_cons (p : Int × Int) (l : List (Int × Int)) : lenD (p :: l) = p.2 - p.1 + 1 + lenD l := by simp [lenD]
theorem lenD_append (l r : List (Int × Int)) : lenD (l ++ r) = lenD l + lenD r := by simp [lenD]

/-- How many of the days below n are in the set. -/
def cntN (S : Int → Bool) : Nat → Int
  | 0 => 0
  | n + 1 => cntN S n + (match S n with | true => 1 | false => 0)
theorem cntN_congr {S T : Int → Bool} : ∀ (n : Nat), (∀ d : Nat, d < n → S d = T d) → cntN S n = cntN T n
  | 0, _ => rfl
  | n + 1, h => by unfold cntN; rw [cntN_congr n (fun d hd => h d (by omega)), h n (by omega)]
theorem cntN_or {S T U V : Int → Bool} : ∀ (n : Nat), (∀ d : Nat, d < n → U d = (S d || T d) ∧ V d = (S d && T d)) → cntN U n + cntN V n = cntN S n + cntN T n
  | 0, _ => rfl
  | n + 1, h => by
    have h1 := cntN_or n (fun d hd => h d (by omega))
    obtain ⟨h2, h3⟩ := h n (by omega)
    unfold cntN
    rw [h2, h3]
    cases S n <;> cases T n <;> simp <;> omega
theorem cntN_span (a b : Int) : ∀ (n : Nat), 0 ≤ a → a ≤ b + 1 → cntN (fun d => decide (a ≤ d) && decide (d ≤ b)) n = max 0 (min (b + 1) n - a)
  | 0, h0, _ => by unfold cntN; omega
  | n + 1, h0, h1 => by
    have := cntN_span a b n h0 h1
    unfold cntN
    rw [this]
    by_cases h2 : a ≤ n
    · by_cases h3 : (n : Int) ≤ b
      · simp [h2, h3]; omega
      · simp [h2, h3]; omega
    · simp [h2]; omega
theorem cntN_zero : ∀ (n : Nat), cntN (fun _ => false) n = 0
  | 0 => rfl
  | n + 1 => by unfold cntN; rw [cntN_zero n]; rfl

/-- The sum over the spans counts the days. -/
theorem len_cnt : ∀ {l : List (Int × Int)}, Can l → lenD l = cntN (Dm l) 30001 := by
  intro l
  induction l with
  | nil => intro _; exact (cntN_zero _).symm
  | cons p l ih =>
    intro h
    have hp := h.head
    unfold Okp at hp
    have h1 := cntN_or (S := fun d => decide (p.1 ≤ d) && decide (d ≤ p.2)) (T := Dm l) (U := Dm (p :: l)) (V := fun _ => false) 30001 (fun d hd => by
      refine ⟨rfl, ?_⟩
      cases h2 : Dm l d with
      | false => simp
      | true =>
        obtain ⟨s, hs, s1, s2⟩ := dm_iff.1 h2
        have := h.after s hs
        have h3 : decide ((d : Int) ≤ p.2) = false := decide_eq_false (by omega)
        simp [h3])
    rw [cntN_zero, cntN_span p.1 p.2 30001 hp.1 (by omega), ← ih h.tail] at h1
    rw [lenD_cons]
    omega
theorem lenD_bounds {l : List (Int × Int)} (h : Can l) : 0 ≤ lenD l ∧ lenD l ≤ 30001 := by
  rw [len_cnt h]
  have : ∀ (S : Int → Bool) (n : Nat), 0 ≤ cntN S n ∧ cntN S n ≤ n := by
    intro S n
    induction n with
    | zero => exact ⟨Int.le_refl _, Int.le_refl _⟩
    | succ n ih => unfold cntN; cases S n <;> simp <;> omega
  have := this (Dm l) 30001
  omega
theorem lenD_take {l : List (Int × Int)} (h : Can l) (k : Nat) : 0 ≤ lenD (l.take k) ∧ lenD (l.take k) ≤ 30001 :=
  lenD_bounds ⟨fun p hp => h.1 p (List.mem_of_mem_take hp), h.2.sublist (List.take_sublist _ _)⟩
theorem take_snoc' {α : Type} {l : List α} {k : Nat} {x : α} (h : l[k]? = some x) : l.take (k + 1) = l.take k ++ [x] := by
  rw [List.take_add_one, h]; rfl
end Go.Proofs.YtfjpbkmnlmecgaaGreatDoor.Dy
end

section
/- Days, in plain words: what the steps of join, And and Not keep. No program in sight. -/
namespace Go.Proofs.YtfjpbkmnlmecgaaGreatDoor.Dy
set_option linter.unusedVariables false

theorem bool_ext {a b : Bool} (h : a = true ↔ b = true) : a = b := by cases a <;> cases b <;> simp_all
theorem dm_cons_iff {p : Int × Int} {l : List (Int × Int)} {d : Int} : Dm (p :: l) d = true ↔ (p.1 ≤ d ∧ d ≤ p.2) ∨ Dm l d = true := by
  rw [dm_cons, Bool.or_eq_true, Bool.and_eq_true, decide_eq_true_eq, decide_eq_true_eq]
theorem dm_app_iff {l r : List (Int × Int)} {d : Int} : Dm (l ++ r) d = true ↔ Dm l d = true ∨ Dm r d = true := by
  rw [dm_append, Bool.or_eq_true]
theorem dm_snoc_iff {p : Int × Int} {l : List (Int × Int)} {d : Int} : Dm (l ++ [p]) d = true ↔ Dm l d = true ∨ (p.1 ≤ d ∧ d ≤ p.2) := by
  rw [dm_app_iff, dm_cons_iff, dm_nil]; simp
theorem dm_not {l : List (Int × Int)} {d : Int} (h : ∀ p ∈ l, d < p.1) : ¬ Dm l d = true := by
  intro e
  obtain ⟨p, hp, h1, h2⟩ := dm_iff.1 e
  have := h p hp
  omega
theorem dm_perm {l r : List (Int × Int)} (h : l.Perm r) (d : Int) : Dm l d = Dm r d := by
  unfold Dm; exact h.any_eq
theorem can_init {p : Int × Int} {l : List (Int × Int)} (h : Can (l ++ [p])) : Can l ∧ Okp p ∧ ∀ q ∈ l, q.2 + 1 < p.1 := by
  obtain ⟨h1, h2⟩ := h
  rw [List.pairwise_append] at h2
  exact ⟨⟨fun q hq => h1 q (List.mem_append_left _ hq), h2.1⟩, h1 p (by simp), fun q hq => h2.2.2 q hq p (by simp)⟩

/-- One step of And. -/
structure AndI (l r acc l' r' : List (Int × Int)) : Prop where
  ca : Can acc
  cl : Can l'
  cr : Can r'
  gap : ∀ p ∈ acc, (∀ x ∈ l', p.2 + 1 < x.1) ∨ (∀ y ∈ r', p.2 + 1 < y.1)
  mem : ∀ d, (Dm acc d = true ∨ (Dm l' d = true ∧ Dm r' d = true)) ↔ (Dm l d = true ∧ Dm r d = true)
theorem AndI.start {l r : List (Int × Int)} (hl : Can l) (hr : Can r) : AndI l r [] l r :=
  ⟨can_nil, hl, hr, fun p hp => (by cases hp), fun d => by simp⟩
theorem AndI.stop {l r acc l' r' : List (Int × Int)} (h : AndI l r acc l' r') (he : l' = [] ∨ r' = []) : Can acc ∧ ∀ d, Dm acc d = (Dm l d && Dm r d) := by
  refine ⟨h.ca, fun d => bool_ext ?_⟩
  rw [Bool.and_eq_true, ← h.mem d]
  rcases he with rfl | rfl <;> simp
theorem AndI.put {l r acc l' r' : List (Int × Int)} {a b : Int × Int} (h : AndI l r acc (a :: l') (b :: r')) (hx : max a.1 b.1 ≤ min a.2 b.2) : Can (acc ++ [(max a.1 b.1, min a.2 b.2)]) := by
  have ha := h.cl.head
  have hb := h.cr.head
  unfold Okp at ha hb
  refine can_snoc (by unfold Okp; dsimp only; omega) h.ca fun q hq => ?_
  dsimp only
  rcases h.gap q hq with g | g
  · have := g a (List.mem_cons_self ..); omega
  · have := g b (List.mem_cons_self ..); omega
theorem AndI.left {l r acc l' r' : List (Int × Int)} {a b : Int × Int} (h : AndI l r acc (a :: l') (b :: r')) (hlt : a.2 < b.2) :
    AndI l r (if max a.1 b.1 ≤ min a.2 b.2 then acc ++ [(max a.1 b.1, min a.2 b.2)] else acc) l' (b :: r') := by
  have ha := h.cl.head
  have hb := h.cr.head
  unfold Okp at ha hb
  have hpost : ∀ d, a.2 ≥ d → ¬ Dm r' d = true := fun d hd => dm_not fun p hp => by have := h.cr.after p hp; omega
  refine ⟨?_, h.cl.tail, h.cr, ?_, fun d => ?_⟩
  · split
    · exact h.put ‹_›
    · exact h.ca
  · intro p hp
    split at hp
    · rcases List.mem_append.1 hp with hp | hp
      · rcases h.gap p hp with g | g
        · exact .inl fun x hx => g x (List.mem_cons_of_mem _ hx)
        · exact .inr g
      · rw [List.mem_singleton.1 hp]
        exact .inl fun x hx => by have := h.cl.after x hx; dsimp only; omega
    · rcases h.gap p hp with g | g
      · exact .inl fun x hx => g x (List.mem_cons_of_mem _ hx)
      · exact .inr g
  · rw [← h.mem d, dm_cons_iff (p := a), dm_cons_iff (p := b)]
    have h1 := hpost d
    split
    · rw [dm_snoc_iff]
      dsimp only
      constructor
      · rintro ((e | e) | ⟨e1, e2⟩)
        · exact .inl e
        · exact .inr ⟨.inl (by omega), .inl (by omega)⟩
        · exact .inr ⟨.inr e1, e2⟩
      · rintro (e | ⟨e1 | e1, e2 | e2⟩)
        · exact .inl (.inl e)
        · exact .inl (.inr (by omega))
        · exact absurd e2 (h1 (by omega))
        · exact .inr ⟨e1, .inl e2⟩
        · exact .inr ⟨e1, .inr e2⟩
    · constructor
      · rintro (e | ⟨e1, e2⟩)
        · exact .inl e
        · exact .inr ⟨.inr e1, e2⟩
      · rintro (e | ⟨e1 | e1, e2 | e2⟩)
        · exact .inl e
        · omega
        · exact absurd e2 (h1 (by omega))
        · exact .inr ⟨e1, .inl e2⟩
        · exact .inr ⟨e1, .inr e2⟩
theorem AndI.right {l r acc l' r' : List (Int × Int)} {a b : Int × Int} (h : AndI l r acc (a :: l') (b :: r')) (hlt : ¬ a.2 < b.2) :
    AndI l r (if max a.1 b.1 ≤ min a.2 b.2 then acc ++ [(max a.1 b.1, min a.2 b.2)] else acc) (a :: l') r' := by
  have ha := h.cl.head
  have hb := h.cr.head
  unfold Okp at ha hb
  have hpost : ∀ d, b.2 ≥ d → ¬ Dm l' d = true := fun d hd => dm_not fun p hp => by have := h.cl.after p hp; omega
  refine ⟨?_, h.cl, h.cr.tail, ?_, fun d => ?_⟩
  · split
    · exact h.put ‹_›
    · exact h.ca
  · intro p hp
    split at hp
    · rcases List.mem_append.1 hp with hp | hp
      · rcases h.gap p hp with g | g
        · exact .inl g
        · exact .inr fun x hx => g x (List.mem_cons_of_mem _ hx)
      · rw [List.mem_singleton.1 hp]
        exact .inr fun x hx => by have := h.cr.after x hx; dsimp only; omega
    · rcases h.gap p hp with g | g
      · exact .inl g
      · exact .inr fun x hx => g x (List.mem_cons_of_mem _ hx)
  · rw [← h.mem d, dm_cons_iff (p := a), dm_cons_iff (p := b)]
    have h1 := hpost d
    split
    · rw [dm_snoc_iff]
      dsimp only
      constructor
      · rintro ((e | e) | ⟨e1, e2⟩)
        · exact .inl e
        · exact .inr ⟨.inl (by omega), .inl (by omega)⟩
        · exact .inr ⟨e1, .inr e2⟩
      · rintro (e | ⟨e1 | e1, e2 | e2⟩)
        · exact .inl (.inl e)
        · exact .inl (.inr (by omega))
        · exact .inr ⟨.inl e1, e2⟩
        · exact absurd e1 (h1 (by omega))
        · exact .inr ⟨.inr e1, e2⟩
    · constructor
      · rintro (e | ⟨e1, e2⟩)
        · exact .inl e
        · exact .inr ⟨e1, .inr e2⟩
      · rintro (e | ⟨e1 | e1, e2 | e2⟩)
        · exact .inl e
        · omega
        · exact .inr ⟨.inl e1, e2⟩
        · exact absurd e1 (h1 (by omega))
        · exact .inr ⟨.inr e1, e2⟩

/-- One step of Not. -/
structure NotI (l acc : List (Int × Int)) (f : Int) (l' : List (Int × Int)) : Prop where
  ca : Can acc
  cl : Can l'
  lo : 0 ≤ f ∧ f ≤ 30001
  gap : ∀ p ∈ acc, p.2 + 1 < f
  ge : ∀ x ∈ l', f ≤ x.1
  mem : ∀ d, Dm acc d = true ↔ (0 ≤ d ∧ d < f ∧ ¬ Dm l d = true)
  rest : ∀ d, f ≤ d → (Dm l d = true ↔ Dm l' d = true)
theorem NotI.start {l : List (Int × Int)} (hl : Can l) : NotI l [] 0 l :=
  ⟨can_nil, hl, by omega, fun p hp => (by cases hp), fun x hx => (hl.1 x hx).1, fun d => by simp; omega, fun d _ => Iff.rfl⟩
theorem NotI.step {l acc l' : List (Int × Int)} {f : Int} {x : Int × Int} (h : NotI l acc f (x :: l')) :
    NotI l (if f < x.1 then acc ++ [(f, x.1 - 1)] else acc) (x.2 + 1) l' := by
  have hx := h.cl.head
  unfold Okp at hx
  have hlo := h.lo
  have hge := h.ge x (List.mem_cons_self ..)
  have hin : ∀ d, f ≤ d → d ≤ x.2 → (Dm l d = true ↔ x.1 ≤ d) := fun d h1 h2 => by
    rw [h.rest d h1, dm_cons_iff]
    have : ¬ Dm l' d = true := dm_not fun p hp => by have := h.cl.after p hp; omega
    constructor
    · rintro (e | e)
      · exact e.1
      · exact absurd e this
    · intro e; exact .inl ⟨e, h2⟩
  refine ⟨?_, h.cl.tail, by omega, ?_, fun y hy => by have := h.cl.after y hy; omega, fun d => ?_, fun d hd => ?_⟩
  · split
    · refine can_snoc (by unfold Okp; dsimp only; omega) h.ca fun q hq => ?_
      have := h.gap q hq
      dsimp only; omega
    · exact h.ca
  · intro p hp
    split at hp
    · rcases List.mem_append.1 hp with hp | hp
      · have := h.gap p hp; omega
      · rw [List.mem_singleton.1 hp]; dsimp only; omega
    · have := h.gap p hp; omega
  · have hm := h.mem d
    have hi := hin d
    split
    · rw [dm_snoc_iff, hm]
      dsimp only
      constructor
      · rintro (⟨e1, e2, e3⟩ | e)
        · exact ⟨e1, by omega, e3⟩
        · exact ⟨by omega, by omega, fun k => by have := (hi (by omega) (by omega)).1 k; omega⟩
      · rintro ⟨e1, e2, e3⟩
        by_cases hd : d < f
        · exact .inl ⟨e1, hd, e3⟩
        · refine .inr ⟨by omega, ?_⟩
          apply Int.not_lt.1
          intro k
          exact e3 ((hi (by omega) (by omega)).2 (by omega))
    · rw [hm]
      constructor
      · rintro ⟨e1, e2, e3⟩; exact ⟨e1, by omega, e3⟩
      · rintro ⟨e1, e2, e3⟩
        refine ⟨e1, ?_, e3⟩
        apply Int.not_le.1
        intro k
        exact e3 ((hi k (by omega)).2 (by omega))
  · rw [h.rest d (by omega), dm_cons_iff]
    constructor
    · rintro (e | e)
      · omega
      · exact e
    · exact .inr
theorem NotI.stop {l acc : List (Int × Int)} {f : Int} (h : NotI l acc f []) :
    Can (if f ≤ 30000 then acc ++ [(f, 30000)] else acc) ∧ ∀ d, Dm (if f ≤ 30000 then acc ++ [(f, 30000)] else acc) d = (inD d && !Dm l d) := by
  have hlo := h.lo
  constructor
  · split
    · exact can_snoc (by unfold Okp; dsimp only; omega) h.ca fun q hq => h.gap q hq
    · exact h.ca
  · intro d
    apply bool_ext
    rw [Bool.and_eq_true, inD_iff, Bool.not_eq_true', ← Bool.not_eq_true]
    have hm := h.mem d
    have hr := h.rest d
    split
    · rw [dm_snoc_iff, hm]
      dsimp only
      constructor
      · rintro (⟨e1, e2, e3⟩ | e)
        · exact ⟨by omega, e3⟩
        · exact ⟨by omega, fun k => by have := (hr (by omega)).1 k; simp at this⟩
      · rintro ⟨e1, e2⟩
        by_cases hd : d < f
        · exact .inl ⟨by omega, hd, e2⟩
        · exact .inr (by omega)
    · rw [hm]
      constructor
      · rintro ⟨e1, e2, e3⟩; exact ⟨by omega, e3⟩
      · rintro ⟨e1, e2⟩; exact ⟨by omega, by omega, e2⟩

/-- One step of join: ys is sorted by From. -/
structure JoinI (ys acc rest : List (Int × Int)) : Prop where
  ca : Can acc
  ok : ∀ x ∈ rest, Okp x
  so : rest.Pairwise fun p q => p.1 ≤ q.1
  le : ∀ p ∈ acc, ∀ x ∈ rest, p.1 ≤ x.1
  mem : ∀ d, (Dm acc d = true ∨ Dm rest d = true) ↔ Dm ys d = true
theorem JoinI.start {ys : List (Int × Int)} (h : ∀ x ∈ ys, Okp x) (hs : ys.Pairwise fun p q => p.1 ≤ q.1) : JoinI ys [] ys :=
  ⟨can_nil, h, hs, fun p hp => (by cases hp), fun d => by simp⟩
theorem JoinI.stop {ys acc : List (Int × Int)} (h : JoinI ys acc []) : Can acc ∧ ∀ d, Dm acc d = Dm ys d :=
  ⟨h.ca, fun d => bool_ext (by rw [← h.mem d]; simp)⟩
theorem JoinI.first {ys rest : List (Int × Int)} {x : Int × Int} (h : JoinI ys [] (x :: rest)) : JoinI ys [x] rest := by
  have hx := h.ok x (List.mem_cons_self ..)
  have hs := List.pairwise_cons.1 h.so
  refine ⟨can_cons hx can_nil (fun q hq => (by cases hq)), fun y hy => h.ok y (List.mem_cons_of_mem _ hy), hs.2, ?_, fun d => ?_⟩
  · intro p hp y hy
    rw [List.mem_singleton.1 hp]; exact hs.1 y hy
  · rw [← h.mem d, dm_cons_iff (l := rest), dm_cons_iff]; simp
theorem JoinI.merge {ys acc rest : List (Int × Int)} {p x : Int × Int} (h : JoinI ys (acc ++ [p]) (x :: rest)) (hm : x.1 ≤ p.2 + 1) :
    JoinI ys (acc ++ [(p.1, max p.2 x.2)]) rest := by
  have hx := h.ok x (List.mem_cons_self ..)
  have hs := List.pairwise_cons.1 h.so
  obtain ⟨c1, c2, c3⟩ := can_init h.ca
  have hpx := h.le p (by simp) x (List.mem_cons_self ..)
  unfold Okp at hx c2
  refine ⟨can_snoc (by unfold Okp; dsimp only; omega) c1 (by dsimp only; exact c3), fun y hy => h.ok y (List.mem_cons_of_mem _ hy), hs.2, ?_, fun d => ?_⟩
  · intro q hq y hy
    rcases List.mem_append.1 hq with hq | hq
    · exact h.le q (List.mem_append_left _ hq) y (List.mem_cons_of_mem _ hy)
    · rw [List.mem_singleton.1 hq]
      exact h.le p (by simp) y (List.mem_cons_of_mem _ hy)
  · rw [← h.mem d, dm_cons_iff, dm_snoc_iff, dm_snoc_iff]
    dsimp only
    constructor
    · rintro ((e | e) | e)
      · exact .inl (.inl e)
      · by_cases hd : d ≤ p.2
        · exact .inl (.inr ⟨e.1, hd⟩)
        · exact .inr (.inl (by omega))
      · exact .inr (.inr e)
    · rintro ((e | e) | e | e)
      · exact .inl (.inl e)
      · exact .inl (.inr (by omega))
      · exact .inl (.inr (by omega))
      · exact .inr e
theorem JoinI.next {ys acc rest : List (Int × Int)} {p x : Int × Int} (h : JoinI ys (acc ++ [p]) (x :: rest)) (hm : ¬ x.1 ≤ p.2 + 1) :
    JoinI ys ((acc ++ [p]) ++ [x]) rest := by
  have hx := h.ok x (List.mem_cons_self ..)
  have hs := List.pairwise_cons.1 h.so
  obtain ⟨c1, c2, c3⟩ := can_init h.ca
  unfold Okp at c2
  refine ⟨can_snoc hx h.ca fun q hq => ?_, fun y hy => h.ok y (List.mem_cons_of_mem _ hy), hs.2, ?_, fun d => ?_⟩
  · rcases List.mem_append.1 hq with hq | hq
    · have := c3 q hq; omega
    · rw [List.mem_singleton.1 hq]; omega
  · intro q hq y hy
    rcases List.mem_append.1 hq with hq | hq
    · exact h.le q hq y (List.mem_cons_of_mem _ hy)
    · rw [List.mem_singleton.1 hq]; exact hs.1 y hy
  · rw [← h.mem d, dm_cons_iff, dm_snoc_iff (p := x), or_assoc]

/-- One step of the reference's Spans: the flags below k. -/
structure SpI (S : Int → Bool) (acc : List (Int × Int)) (k : Nat) : Prop where
  ca : Can acc
  lt : ∀ p ∈ acc, p.2 < k
  mem : ∀ d : Int, Dm acc d = true ↔ (0 ≤ d ∧ d < k ∧ S d = true)
theorem SpI.start (S : Int → Bool) : SpI S [] 0 := ⟨can_nil, fun p hp => (by cases hp), fun d => by simp; omega⟩
theorem SpI.skip {S : Int → Bool} {acc : List (Int × Int)} {k : Nat} (h : SpI S acc k) (hk : S k = false) : SpI S acc (k + 1) := by
  refine ⟨h.ca, fun p hp => by have := h.lt p hp; omega, fun d => ?_⟩
  rw [h.mem d]
  constructor
  · rintro ⟨e1, e2, e3⟩; exact ⟨e1, by omega, e3⟩
  · rintro ⟨e1, e2, e3⟩
    refine ⟨e1, ?_, e3⟩
    have : d ≠ k := by rintro rfl; rw [hk] at e3; cases e3
    omega
theorem SpI.new {S : Int → Bool} {acc : List (Int × Int)} {k : Nat} (h : SpI S acc k) (hk : S k = true) (hp : k = 0 ∨ S ((k : Int) - 1) = false) (h3 : k ≤ 30000) : SpI S (acc ++ [((k : Int), (k : Int))]) (k + 1) := by
  refine ⟨can_snoc (by unfold Okp; dsimp only; omega) h.ca fun q hq => ?_, fun p hp => ?_, fun d => ?_⟩
  · have h1 := h.lt q hq
    dsimp only
    have hq1 := h.ca.1 q hq
    unfold Okp at hq1
    have h2 := (h.mem q.2).1 (dm_iff.2 ⟨q, hq, by omega, by omega⟩)
    have : q.2 ≠ (k : Int) - 1 := by
      rintro e
      rcases hp with hp | hp
      · omega
      · rw [← e, h2.2.2] at hp; cases hp
    omega
  · rcases List.mem_append.1 hp with hp | hp
    · have := h.lt p hp; omega
    · rw [List.mem_singleton.1 hp]; dsimp only; omega
  · rw [dm_snoc_iff, h.mem d]
    dsimp only
    constructor
    · rintro (⟨e1, e2, e3⟩ | e)
      · exact ⟨e1, by omega, e3⟩
      · obtain rfl : d = k := by omega
        exact ⟨by omega, by omega, hk⟩
    · rintro ⟨e1, e2, e3⟩
      by_cases hd : d < k
      · exact .inl ⟨e1, hd, e3⟩
      · exact .inr (by omega)
theorem SpI.more {S : Int → Bool} {acc : List (Int × Int)} {k : Nat} (h : SpI S acc k) (hk : S k = true) (h0 : 0 < k) (hp : S ((k : Int) - 1) = true) (h3 : k ≤ 30000) :
    ∃ acc' a, acc = acc' ++ [(a, (k : Int) - 1)] ∧ SpI S (acc' ++ [(a, (k : Int))]) (k + 1) := by
  obtain ⟨q, hq, q1, q2⟩ := dm_iff.1 ((h.mem ((k : Int) - 1)).2 ⟨by omega, by omega, hp⟩)
  have hq3 := h.lt q hq
  rcases List.eq_nil_or_concat acc with rfl | ⟨acc', p, hc⟩
  · cases hq
  rw [List.concat_eq_append] at hc
  subst hc
  obtain ⟨c1, c2, c3⟩ := can_init h.ca
  have hpl := h.lt p (by simp)
  unfold Okp at c2
  have hqp : q = p := by
    rcases List.mem_append.1 hq with hq | hq
    · have := c3 q hq; omega
    · exact List.mem_singleton.1 hq
  subst hqp
  obtain ⟨a, b⟩ := q
  dsimp only at *
  obtain rfl : b = (k : Int) - 1 := by omega
  refine ⟨acc', a, rfl, can_snoc (by unfold Okp; dsimp only; omega) c1 c3, fun p hp => ?_, fun d => ?_⟩
  · rcases List.mem_append.1 hp with hp | hp
    · have := h.lt p (List.mem_append_left _ hp); omega
    · rw [List.mem_singleton.1 hp]; dsimp only; omega
  · have hm := h.mem d
    rw [dm_snoc_iff] at hm ⊢
    dsimp only at hm ⊢
    by_cases hd : d = k
    · subst hd
      constructor
      · intro _; exact ⟨by omega, by omega, hk⟩
      · intro _; exact .inr (by omega)
    · rw [show (a ≤ d ∧ d ≤ (k : Int)) ↔ (a ≤ d ∧ d ≤ (k : Int) - 1) from by omega, hm]
      constructor
      · rintro ⟨e1, e2, e3⟩; exact ⟨e1, by omega, e3⟩
      · rintro ⟨e1, e2, e3⟩; exact ⟨e1, by omega, e3⟩
theorem SpI.stop {S : Int → Bool} {acc : List (Int × Int)} (h : SpI S acc 30001) : Can acc ∧ ∀ d, Dm acc d = (inD d && S d) :=
  ⟨h.ca, fun d => bool_ext (by
    rw [h.mem d, Bool.and_eq_true, inD_iff]
    constructor
    · rintro ⟨e1, e2, e3⟩; exact ⟨by omega, e3⟩
    · rintro ⟨e1, e2⟩; exact ⟨by omega, by omega, e2⟩)⟩
end Go.Proofs.YtfjpbkmnlmecgaaGreatDoor.Dy
end

section
/- Memory of spans; contracts of Next, Len, Empty of a set of days. -/
namespace Go.Proofs.YtfjpbkmnlmecgaaGreatDoor.Dy
open Go.RowKit Go.PlainAid
set_option linter.unusedVariables false
set_option linter.unusedSimpArgs false
set_option maxHeartbeats 1000000

def spV (p : Int × Int) : List Value := [.int .i64 p.1, .int .i64 p.2]
def flatS (l : List (Int × Int)) : List Value := l.flatMap spV
theorem flatS_length (l : List (Int × Int)) : (flatS l).length = l.length * 2 := by
  induction l with
  | nil => rfl
  | cons t l ih => simp [flatS, spV] at ih ⊢; omega
theorem flatS_append (l r : List (Int × Int)) : flatS (l ++ r) = flatS l ++ flatS r := by simp [flatS]
theorem flatS_snoc (l : List (Int × Int)) (a b : Int) : flatS (l ++ [(a, b)]) = flatS l ++ [.int .i64 a, .int .i64 b] := by simp [flatS, spV]
theorem flatS_one (l : List (Int × Int)) : ∀ u ∈ flatS l, u.oneCell' = true := by
  intro u hu
  simp only [flatS, List.mem_flatMap] at hu
  obtain ⟨p, -, hp⟩ := hu
  simp [spV] at hp
  rcases hp with rfl | rfl <;> rfl
theorem flat_get2 : ∀ (l : List (Int × Int)) (j c : Nat) (p : Int × Int), l[j]? = some p → c < 2 → (flatS l)[j * 2 + c]? = (spV p)[c]?
  | [], j, c, p, h, _ => by simp at h
  | x :: l, 0, c, p, h, hc => by
    simp at h
    subst h
    rw [flatS, List.flatMap_cons, List.getElem?_append_left (by show _ < 2; omega)]
    simp
  | x :: l, j + 1, c, p, h, hc => by
    rw [flatS, List.flatMap_cons, List.getElem?_append_right (by show 2 ≤ _; omega)]
    show (flatS l)[(j + 1) * 2 + c - 2]? = _
    rw [show (j + 1) * 2 + c - 2 = j * 2 + c from by omega]
    exact flat_get2 l j c p (by simpa using h) hc

theorem retB {a b : Bool} (h : a = b) : Ending.returned (.bool a) = .returned (.bool b) := by rw [h]

theorem ret_ib {x y : Int} {a b : Bool} (h : x = y) (k : a = b) : Ending.returned (.tuple #[.int .i64 x, .bool a]) = .returned (.tuple #[.int .i64 y, .bool b]) := by rw [h, k]

/-- The slice (a, n, cap) of spans holds l. -/
def Ds (w : World) (a : Option Addr) (n cap : Nat) (l : List (Int × Int)) : Prop :=
  l.length = n ∧ n ≤ cap ∧ cap ≤ maxLen ∧ (n = 0 ∨ ∃ b o, a = some ⟨b, o, none⟩ ∧ b < w.heap.size ∧
    ∀ j p, l[j]? = some p → w.cell? ⟨b, o + j * 2, none⟩ = some (.int .i64 p.1) ∧ w.cell? ⟨b, o + j * 2 + 1, none⟩ = some (.int .i64 p.2))
theorem Ds.below {w w' : World} {a : Option Addr} {n cap N : Nat} {l : List (Int × Int)} (h : Ds w a n cap l) (hb : Below N w w') (hN : w.heap.size ≤ N) : Ds w' a n cap l := by
  obtain ⟨h1, h2, h3, h4⟩ := h
  refine ⟨h1, h2, h3, ?_⟩
  rcases h4 with h4 | ⟨b, o, ha, hlt, h5⟩
  · exact .inl h4
  · refine .inr ⟨b, o, ha, Nat.lt_of_lt_of_le hlt hb.size, fun j p hp => ?_⟩
    obtain ⟨c1, c2⟩ := h5 j p hp
    exact ⟨(hb.cell (p := ⟨b, _, none⟩) (Nat.lt_of_lt_of_le hlt hN)).trans c1, (hb.cell (p := ⟨b, _, none⟩) (Nat.lt_of_lt_of_le hlt hN)).trans c2⟩
theorem Ds.nil (w : World) (a : Option Addr) (cap : Nat) (h : cap ≤ maxLen) : Ds w a 0 cap [] := ⟨rfl, Nat.zero_le _, h, .inl rfl⟩
theorem Ds.sl {w : World} {a : Option Addr} {n cap : Nat} {l : List (Int × Int)} (h : Ds w a n cap l) : Sl w (.slice a n cap) n 2 (flatS l) := by
  obtain ⟨h1, h2, h3, h4⟩ := h
  refine ⟨by rw [flatS_length, h1], a, cap, rfl, h2, h3, ?_⟩
  rcases h4 with h4 | ⟨b, o, ha, hlt, h5⟩
  · exact .inl h4
  · refine .inr ⟨b, o, ha, hlt, fun j hj => ?_⟩
    obtain ⟨p, hp⟩ : ∃ p, l[j / 2]? = some p := ⟨_, List.getElem?_eq_getElem (by omega)⟩
    obtain ⟨c1, c2⟩ := h5 _ p hp
    have hg := fun c hc => flat_get2 l (j / 2) c p hp hc
    rw [List.getD_eq_getElem?_getD]
    rcases Nat.mod_two_eq_zero_or_one j with h | h
    · rw [show j = j / 2 * 2 + 0 from by omega, hg 0 (by omega)]; simpa [spV] using c1
    · rw [show j = j / 2 * 2 + 1 from by omega, hg 1 (by omega)]; simpa [spV, Nat.add_assoc] using c2
theorem Ds.owned {w : World} {base : Nat} {e : TypeId} {v : Value} {n : Nat} {l : List (Int × Int)} (h : w.ownsRow base e 2 v n (flatS l)) (hl : l.length = n) : ∃ a cap, v = .slice a n cap ∧ Ds w a n cap l := by
  obtain ⟨h1, a, cap, hv, hc, hm, h2⟩ := Sl.owned h
  refine ⟨a, cap, hv, hl, hc, hm, ?_⟩
  rcases h2 with h2 | ⟨b, o, ha, hlt, h3⟩
  · exact .inl h2
  · refine .inr ⟨b, o, ha, hlt, fun j p hp => ?_⟩
    have hj : j < n := by rw [← hl]; exact (List.getElem?_eq_some_iff.1 hp).1
    have g0 := flat_get2 l j 0 p hp (by omega)
    have g1 := flat_get2 l j 1 p hp (by omega)
    constructor
    · rw [h3 (j * 2) (by omega), List.getD_eq_getElem?_getD, show j * 2 = j * 2 + 0 from rfl, g0]; rfl
    · rw [Nat.add_assoc, h3 (j * 2 + 1) (by omega), List.getD_eq_getElem?_getD, g1]; rfl

/-- The first day from d on. -/
def nextP (l : List (Int × Int)) (d : Int) : Int × Bool := match l.find? (fun p => decide (d ≤ p.2)) with
  | some p => (max d p.1, true)
  | none => (0, false)
theorem nextP_yes {p1 p2 : Int} {l : List (Int × Int)} {d : Int} (h : d ≤ p2) : nextP ((p1, p2) :: l) d = (max d p1, true) := by
  unfold nextP; rw [List.find?_cons_of_pos (by simpa using h)]
theorem nextP_no {p1 p2 : Int} {l : List (Int × Int)} {d : Int} (h : ¬ d ≤ p2) : nextP ((p1, p2) :: l) d = nextP l d := by
  unfold nextP; rw [List.find?_cons_of_neg (by simpa using h)]
theorem drop_at {α : Type} {l : List α} {j : Nat} {p : α} (h : l[j]? = some p) : l.drop j = p :: l.drop (j + 1) := by
  obtain ⟨h1, h2⟩ := List.getElem?_eq_some_iff.1 h
  rw [List.drop_eq_getElem_cons h1, h2]

theorem next_any (a : Option Addr) (n cap : Nat) (l : List (Int × Int)) (d : Int) (w : World) (h : Ds w a n cap l) :
    Calls Tryz.prog 137 #[.agg #[.slice a n cap], .int .i64 d] w fun e w' => e = .returned (.tuple #[.int .i64 (nextP l d).1, .bool (nextP l d).2]) ∧ Below w.heap.size w w' := by
  obtain ⟨hl, hc, hm, h4⟩ := h
  unfold maxLen at hm
  have H4 := Lib.hid h4
  have HL := Lib.hid hl
  clear h4 hl
  go_enter Tryz.func137, Tryz.ntmps137
  go_wp2_with fail
  go_loopw [11] (fun v wr => ∃ j : Nat, j ≤ n ∧ v = .int .i64 j ∧ Below w.heap.size w wr ∧ Hid (nextP l d = nextP (l.drop j) d)) (fun v _ => n - (intOf v).toNat)
  case atStart => exact ⟨0, by omega, rfl, by go_grown, rfl⟩
  case round =>
    obtain ⟨j, hj, rfl, hbel, hpre⟩ := hrel
    by_cases hjn : j < n
    · rcases H4.out with h0 | ⟨b, o, rfl, hb, hcell⟩
      · omega
      obtain ⟨⟨p1, p2⟩, hp⟩ : ∃ p, l[j]? = some p := ⟨_, List.getElem?_eq_getElem (by rw [HL.out]; exact hjn)⟩
      obtain ⟨c1, c2⟩ := hcell j _ hp
      have c1 := (hbel.cell (p := ⟨b, _, none⟩) hb).trans c1
      have c2 := (hbel.cell (p := ⟨b, _, none⟩) hb).trans c2
      dsimp only at c1 c2
      have hdr := drop_at hp
      have hj0 : (0 : Int) ≤ (j : Int) := Int.natCast_nonneg _
      have hj1 : (j : Int) < (n : Int) := by omega
      clear hcell
      by_cases hd : d ≤ p2
      · have HR : Hid (nextP l d = (max d p1, true)) := by have := hpre.out; rw [hdr, nextP_yes hd] at this; exact this
        clear hdr hp hpre
        go_wp2_with fail
        all_goals
          go_returns
          rw [HR.out]
          refine ⟨ret_ib (x := _) (a := _) ?_ rfl, hbel.alloc hbel.size _⟩
          dsimp only; omega
      · have HR : Hid (nextP l d = nextP (l.drop (j + 1)) d) := by have := hpre.out; rw [hdr, nextP_no hd] at this; exact this
        clear hdr hp hpre
        go_wp2_with fail
        go_roundw
        case rel => exact ⟨j + 1, by omega, by go_num, hbel.alloc hbel.size _, HR.out⟩
        case measure => simp [intOf]; omega
    · obtain rfl : j = n := by omega
      have HR : Hid (nextP l d = (0, false)) := by
        have := hpre.out
        rw [List.drop_of_length_le (by rw [HL.out]; exact Nat.le_refl _)] at this
        exact this
      clear hpre
      go_wp2_with fail
      go_returns
      rw [HR.out]
      exact ⟨rfl, hbel⟩

theorem empty_any (a : Option Addr) (n cap : Nat) (w : World) :
    Calls Tryz.prog 190 #[.agg #[.slice a n cap]] w fun e w' => e = .returned (.bool (decide (n = 0))) ∧ Below w.heap.size w w' := by
  go_enter Tryz.func190, Tryz.ntmps190
  go_wp2_with fail
  go_ret
  refine ⟨?_, by go_grown⟩
  by_cases h : n = 0
  · subst h; rfl
  · have : ((n : Int) == 0) = false := beq_eq_false_iff_ne.2 (by omega)
    simp [h, this]

theorem len_any (a : Option Addr) (n cap : Nat) (l : List (Int × Int)) (w : World) (h : Ds w a n cap l) (hcan : Can l) :
    Calls Tryz.prog 191 #[.agg #[.slice a n cap]] w fun e w' => e = .returned (.int .i64 (lenD l)) ∧ Below w.heap.size w w' := by
  obtain ⟨hl, hc, hm, h4⟩ := h
  unfold maxLen at hm
  have H4 := Lib.hid h4
  have HL := Lib.hid hl
  have HC := Lib.hid hcan
  clear h4 hl hcan
  go_enter Tryz.func191, Tryz.ntmps191
  go_wp2_with fail
  go_loopw [3, 9] (fun v3 v9 wr => ∃ (j : Nat) (s : Int), j ≤ n ∧ v9 = .int .i64 j ∧ v3 = .int .i64 s ∧ Below w.heap.size w wr ∧ Hid (s = lenD (l.take j))) (fun _ v _ => n - (intOf v).toNat)
  case atStart => exact ⟨0, 0, by omega, rfl, rfl, by go_grown, rfl⟩
  case round =>
    obtain ⟨j, s, hj, rfl, rfl, hbel, hpre⟩ := hrel
    by_cases hjn : j < n
    · rcases H4.out with h0 | ⟨b, o, rfl, hb, hcell⟩
      · omega
      obtain ⟨⟨p1, p2⟩, hp⟩ : ∃ p, l[j]? = some p := ⟨_, List.getElem?_eq_getElem (by rw [HL.out]; exact hjn)⟩
      obtain ⟨c1, c2⟩ := hcell j _ hp
      have c1 := (hbel.cell (p := ⟨b, _, none⟩) hb).trans c1
      have c2 := (hbel.cell (p := ⟨b, _, none⟩) hb).trans c2
      dsimp only at c1 c2
      have hok := HC.out.1 _ (List.mem_of_getElem? hp)
      unfold Okp at hok
      dsimp only at hok
      have hs1 := lenD_take HC.out j
      have hs2 := lenD_take HC.out (j + 1)
      have hst : lenD (l.take (j + 1)) = s + (p2 - p1 + 1) := by rw [take_snoc' hp, lenD_append, ← hpre.out]; simp
      rw [← hpre.out] at hs1
      have hj0 : (0 : Int) ≤ (j : Int) := Int.natCast_nonneg _
      have hj1 : (j : Int) < (n : Int) := by omega
      have e1 : IntKind.i64.wrap (p2 - p1) = p2 - p1 := by rw [IntKind.wrap_i64]; omega
      have e2 : IntKind.i64.wrap (p2 - p1 + 1) = p2 - p1 + 1 := by rw [IntKind.wrap_i64]; omega
      have e3 : IntKind.i64.wrap (s + (p2 - p1 + 1)) = s + (p2 - p1 + 1) := by rw [IntKind.wrap_i64]; omega
      have HST := Lib.hid hst
      clear hcell hst hp hpre hs1 hs2 hok
      go_wp2_with fail
      go_roundw
      case rel => exact ⟨j + 1, _, by omega, by go_num, rfl, hbel.alloc hbel.size _, HST.out.symm⟩
      case measure => simp [intOf]; omega
    · obtain rfl : j = n := by omega
      have HR : Hid (s = lenD l) := by
        have := hpre.out
        rw [List.take_of_length_le (by rw [HL.out]; exact Nat.le_refl _)] at this
        exact this
      clear hpre
      go_wp2_with fail
      go_ret
      rw [HR.out]
      exact ⟨rfl, by go_grown⟩
end Go.Proofs.YtfjpbkmnlmecgaaGreatDoor.Dy
end

section
/- Days, in plain words: what the laws need of canonical lists. No program in sight. -/
namespace Go.Proofs.YtfjpbkmnlmecgaaGreatDoor.Dy
set_option linter.unusedVariables false

/-- The days beside a span of a canonical list. -/
theorem can_ends : ∀ {l : List (Int × Int)}, Can l → ∀ p ∈ l, Dm l p.1 = true ∧ Dm l p.2 = true ∧ Dm l (p.1 - 1) = false ∧ Dm l (p.2 + 1) = false := by
  intro l
  induction l with
  | nil => intro _ p hp; cases hp
  | cons q l ih =>
    intro h p hp
    have hq := h.head
    unfold Okp at hq
    rcases List.mem_cons.1 hp with rfl | hp
    · have n1 : ¬ Dm l (p.1 - 1) = true := dm_not fun x hx => by have := h.after x hx; omega
      have n2 : ¬ Dm l (p.2 + 1) = true := dm_not fun x hx => by have := h.after x hx; omega
      refine ⟨dm_cons_iff.2 (.inl (by omega)), dm_cons_iff.2 (.inl (by omega)), ?_, ?_⟩
      · rw [← Bool.not_eq_true, dm_cons_iff]; rintro (e | e)
        · omega
        · exact n1 e
      · rw [← Bool.not_eq_true, dm_cons_iff]; rintro (e | e)
        · omega
        · exact n2 e
    · obtain ⟨h1, h2, h3, h4⟩ := ih h.tail p hp
      have ha := h.after p hp
      have hok := h.1 p (List.mem_cons_of_mem _ hp)
      unfold Okp at hok
      refine ⟨dm_cons_iff.2 (.inr h1), dm_cons_iff.2 (.inr h2), ?_, ?_⟩
      · rw [← Bool.not_eq_true, dm_cons_iff]; rintro (e | e)
        · omega
        · rw [h3] at e; cases e
      · rw [← Bool.not_eq_true, dm_cons_iff]; rintro (e | e)
        · omega
        · rw [h4] at e; cases e

/-- Two lists of one set of flags. -/
theorem can_flags {l r : List (Int × Int)} {S : Int → Bool} (hl : Can l) (hr : Can r) (h1 : ∀ d, Dm r d = (inD d && S d)) (h2 : ∀ d : Int, 0 ≤ d → d ≤ 30000 → S d = Dm l d) : r = l := by
  refine can_ext hr hl fun d => ?_
  rw [h1]
  cases h : inD d with
  | true => have := inD_iff.1 h; rw [h2 d this.1 this.2]; rfl
  | false =>
    cases h3 : Dm l d with
    | false => rfl
    | true => have := inD_iff.2 (hl.day h3); rw [h] at this; cases this
theorem dm_in {l : List (Int × Int)} (h : Can l) (d : Int) : (inD d && Dm l d) = Dm l d := by
  cases h3 : Dm l d with
  | false => simp
  | true => rw [inD_iff.2 (h.day h3)]; rfl
theorem cnt_flags {l : List (Int × Int)} {S : Int → Bool} (hl : Can l) (h2 : ∀ d : Int, 0 ≤ d → d ≤ 30000 → S d = Dm l d) : cntN S 30001 = lenD l := by
  rw [len_cnt hl]; exact cntN_congr _ fun d hd => h2 d (by omega) (by omega)
/-- Next against the first flag. -/
theorem next_flags : ∀ {l : List (Int × Int)}, Can l → ∀ d : Int,
    ((nextP l d).2 = true ∧ d ≤ (nextP l d).1 ∧ Dm l (nextP l d).1 = true ∧ ∀ x, d ≤ x → x < (nextP l d).1 → Dm l x = false) ∨ ((nextP l d).2 = false ∧ (nextP l d).1 = 0 ∧ ∀ x, d ≤ x → Dm l x = false) := by
  intro l
  induction l with
  | nil => intro _ d; exact .inr ⟨rfl, rfl, fun _ _ => rfl⟩
  | cons p l ih =>
    intro h d
    obtain ⟨p1, p2⟩ := p
    have hp := h.head
    unfold Okp at hp
    dsimp only at hp
    by_cases hd : d ≤ p2
    · rw [nextP_yes hd]
      dsimp only
      refine .inl ⟨rfl, by omega, dm_cons_iff.2 (.inl (by dsimp only; omega)), fun x h1 h2 => ?_⟩
      rw [← Bool.not_eq_true]
      refine dm_not fun q hq => ?_
      rcases List.mem_cons.1 hq with rfl | hq
      · dsimp only; omega
      · have := h.after q hq; dsimp only at this; omega
    · rw [nextP_no hd]
      have hc : ∀ x, d ≤ x → Dm ((p1, p2) :: l) x = Dm l x := fun x hx => by
        rw [dm_cons, decide_eq_false (show ¬ x ≤ p2 by omega)]; simp
      rcases ih h.tail d with ⟨h1, h2, h3, h4⟩ | ⟨h1, h2, h3⟩
      · exact .inl ⟨h1, h2, by rw [hc _ h2]; exact h3, fun x e1 e2 => by rw [hc x e1]; exact h4 x e1 e2⟩
      · exact .inr ⟨h1, h2, fun x e1 => by rw [hc x e1]; exact h3 x e1⟩
theorem next_law {l : List (Int × Int)} (h : Can l) {S : Int → Bool} (h2 : ∀ d : Int, 0 ≤ d → d ≤ 30000 → S d = Dm l d) {d r : Int} (hr : (r = -1 ∧ ∀ x : Int, d ≤ x → 0 ≤ x → x ≤ 30000 → S x = false) ∨ (d ≤ r ∧ 0 ≤ r ∧ r ≤ 30000 ∧ S r = true ∧ ∀ x : Int, d ≤ x → 0 ≤ x → x < r → S x = false)) :
    (nextP l d).2 = decide (0 ≤ r) ∧ (nextP l d).1 = max r 0 := by
  rcases next_flags h d with ⟨h3, h4, h5, h6⟩ | ⟨h3, h4, h5⟩
  · have hday := h.day h5
    rcases hr with ⟨rfl, e⟩ | ⟨e1, e2, e3, e4, e5⟩
    · have := e _ h4 hday.1 hday.2
      rw [h2 _ hday.1 hday.2, h5] at this; cases this
    · have : (nextP l d).1 = r := by
        rcases Int.lt_trichotomy (nextP l d).1 r with g | g | g
        · have := e5 _ h4 hday.1 g
          rw [h2 _ hday.1 hday.2, h5] at this; cases this
        · exact g
        · have := h6 r e1 g
          rw [h2 _ e2 e3, this] at e4; cases e4
      rw [h3, this, decide_eq_true e2]
      exact ⟨rfl, by omega⟩
  · rcases hr with ⟨rfl, e⟩ | ⟨e1, e2, e3, e4, e5⟩
    · rw [h3, h4]; exact ⟨rfl, by omega⟩
    · rw [h2 _ e2 e3, h5 r e1] at e4; cases e4
/-- The error of one span: 0, ErrArg (1), ErrRange (2). -/
def errP (p : Int × Int) : Int := if p.1 < 0 ∨ 30000 < p.1 ∨ p.2 < 0 ∨ 30000 < p.2 then 2 else if p.2 < p.1 then 1 else 0
def errL : List (Int × Int) → Int
  | [] => 0
  | p :: l => if errP p = 0 then errL l else errP p
theorem errP_ok {p : Int × Int} (h : errP p = 0) : Okp p := by
  unfold errP at h
  split at h
  · omega
  · split at h
    · omega
    · unfold Okp; omega
theorem okp_err {p : Int × Int} (h : Okp p) : errP p = 0 := by
  unfold Okp at h
  unfold errP
  rw [if_neg (by omega), if_neg (by omega)]
theorem errL_ok : ∀ {l : List (Int × Int)}, errL l = 0 → ∀ p ∈ l, Okp p
  | [], _, p, hp => by cases hp
  | q :: l, h, p, hp => by
    unfold errL at h
    split at h
    · rcases List.mem_cons.1 hp with rfl | hp
      · exact errP_ok ‹_›
      · exact errL_ok h p hp
    · exact absurd h ‹_›
theorem ok_errL : ∀ {l : List (Int × Int)}, (∀ p ∈ l, Okp p) → errL l = 0
  | [], _ => rfl
  | q :: l, h => by
    unfold errL
    rw [if_pos (okp_err (h q (List.mem_cons_self ..)))]
    exact ok_errL fun p hp => h p (List.mem_cons_of_mem _ hp)
theorem errL_step {l : List (Int × Int)} {j : Nat} {p : Int × Int} (hp : l[j]? = some p) : errL (l.drop j) = if errP p = 0 then errL (l.drop (j + 1)) else errP p := by
  rw [drop_at hp]; rfl

theorem errL_here {l : List (Int × Int)} {j : Nat} {p : Int × Int} (h : errL l = errL (l.drop j)) (hp : l[j]? = some p) (hx : errP p ≠ 0) : errL l = errP p := by
  rw [h, errL_step hp, if_neg hx]
end Go.Proofs.YtfjpbkmnlmecgaaGreatDoor.Dy
end
