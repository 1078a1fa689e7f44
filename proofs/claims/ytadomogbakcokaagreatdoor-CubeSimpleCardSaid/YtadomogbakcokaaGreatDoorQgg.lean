/- Several of the texts below, joined: CuSpec CuMask CuSim Reg. -/
import Derived.Test.YtadomogbakcokaaGreatDoorQgc
import Derived.Test.YtadomogbakcokaaGreatDoorQgd
import Derived.Deep.RegionHeld3
section
/- Cubes in plain words: what the functions of the package compute; Minus takes apart. No program in sight. -/
namespace Go.Proofs.YtadomogbakcokaaGreatDoor
open Go.RowKit Go.PlainAid
set_option linter.unusedVariables false

/-- A cube: the numbers that must be there, and those that must not. -/
abbrev Cu := List Nat × List Nat
def CuOk (c : Cu) : Prop := Asc c.1 ∧ Asc c.2
def meetB (l r : List Nat) : Bool := decide (∃ x ∈ l, x ∈ r)
def subB (l r : List Nat) : Bool := decide (∀ x ∈ l, x ∈ r)
def emptyC (c : Cu) : Bool := meetB c.1 c.2
def holdsC (c : Cu) (s : List Nat) : Bool := subB c.1 s && !meetB c.2 s
def someC (l : List Cu) (s : List Nat) : Bool := l.any fun c => holdsC c s
def withinC (a b : Cu) : Bool := emptyC a || (subB b.1 a.1 && subB b.2 a.2)
def bothC (a b : Cu) : Cu := (orL a.1 b.1, orL a.2 b.2)
def minusGo (b : Cu) (st : Cu × List Cu) (r : Nat) : Cu × List Cu :=
  if decide (r ∈ b.1) && !decide (r ∈ st.1.1) then ((withL st.1.1 r, st.1.2), st.2 ++ [(st.1.1, withL st.1.2 r)])
  else if decide (r ∈ b.2) && !decide (r ∈ st.1.2) then ((st.1.1, withL st.1.2 r), st.2 ++ [(withL st.1.1 r, st.1.2)])
  else st
def minusC (a b : Cu) : List Cu :=
  if emptyC a then [] else if emptyC (bothC a b) then [a] else ((orL b.1 b.2).foldl (minusGo b) (a, [])).2
/-- The list behind the first cubes of a list, and whether the limit was passed. -/
def splitGo : List Cu → List Cu → Option (List Cu)
  | out, [] => some out
  | out, b :: l => if 2000 < (out.flatMap fun x => minusC x b).length then none else splitGo (out.flatMap fun x => minusC x b) l
def splitC (c : Cu) (l : List Cu) : Option (List Cu) := splitGo (if emptyC c then [] else [c]) l
/-- Covered, as it is computed. -/
def coveredC : List Cu → Cu → Bool
  | [], c => emptyC c
  | b :: l, c => emptyC c || (if emptyC (bothC c b) then coveredC l c else (minusC c b).all fun x => coveredC l x)

theorem meetB_iff {l r : List Nat} : meetB l r = true ↔ ∃ x ∈ l, x ∈ r := decide_eq_true_iff
theorem meetB_not {l r : List Nat} : meetB l r = false ↔ ∀ x ∈ l, x ∉ r := by
  unfold meetB; rw [decide_eq_false_iff_not]; simp
theorem subB_iff {l r : List Nat} : subB l r = true ↔ ∀ x ∈ l, x ∈ r := decide_eq_true_iff
theorem mem_or {l r : List Nat} {x : Nat} : x ∈ orL l r ↔ x < 4096 ∧ (x ∈ l ∨ x ∈ r) := by unfold orL; simp
theorem mem_with {l : List Nat} {r x : Nat} (hr : r < 4096) (hl : Asc l) : x ∈ withL l r ↔ x ∈ l ∨ x = r := by
  unfold withL
  rw [if_pos (by omega)]
  simp only [List.mem_filter, List.mem_range, Bool.or_eq_true, decide_eq_true_eq, Int.toNat_natCast]
  constructor
  · exact fun h => h.2
  · rintro (h | rfl)
    · exact ⟨hl.2 x h, .inl h⟩
    · exact ⟨hr, .inr rfl⟩
theorem asc_with {l : List Nat} {r : Nat} (hl : Asc l) : Asc (withL l r) := by
  unfold withL
  split
  · exact ⟨(pw_range 4096).filter _, fun x hx => List.mem_range.1 (List.mem_filter.1 hx).1⟩
  · exact hl
theorem asc_or (l r : List Nat) : Asc (orL l r) := ⟨(pw_range 4096).filter _, fun x hx => (mem_or.1 hx).1⟩
theorem both1 (a b : Cu) : (bothC a b).1 = orL a.1 b.1 := by simp only [bothC]
theorem both2 (a b : Cu) : (bothC a b).2 = orL a.2 b.2 := by simp only [bothC]
theorem bothC_ok (a b : Cu) : CuOk (bothC a b) := ⟨by rw [both1]; exact asc_or _ _, by rw [both2]; exact asc_or _ _⟩
theorem mem_b1 {a b : Cu} {x : Nat} : x ∈ (bothC a b).1 ↔ x < 4096 ∧ (x ∈ a.1 ∨ x ∈ b.1) := by rw [both1, mem_or]
theorem mem_b2 {a b : Cu} {x : Nat} : x ∈ (bothC a b).2 ↔ x < 4096 ∧ (x ∈ a.2 ∨ x ∈ b.2) := by rw [both2, mem_or]

/-- The set S satisfies c. -/
def sat (c : Cu) (S : Nat → Bool) : Bool := c.1.all S && c.2.all fun x => !S x
theorem sat_iff {c : Cu} {S : Nat → Bool} : sat c S = true ↔ (∀ x ∈ c.1, S x = true) ∧ ∀ x ∈ c.2, S x = false := by
  unfold sat; simp
theorem sat_holds (c : Cu) (s : List Nat) : holdsC c s = sat c (fun x => decide (x ∈ s)) := by
  rw [Bool.eq_iff_iff, sat_iff]
  unfold holdsC
  rw [Bool.and_eq_true, subB_iff, Bool.not_eq_true', meetB_not]
  simp
def sats (l : List Cu) (S : Nat → Bool) : Bool := l.any fun c => sat c S
/-- How many cubes of a list a set satisfies. -/
def cnt (l : List Cu) (S : Nat → Bool) : Nat := (l.filter fun c => sat c S).length
theorem cnt_append (l r : List Cu) (S : Nat → Bool) : cnt (l ++ r) S = cnt l S + cnt r S := by unfold cnt; simp
theorem cnt_cons (c : Cu) (l : List Cu) (S : Nat → Bool) : cnt (c :: l) S = (if sat c S then 1 else 0) + cnt l S := by
  unfold cnt; rw [List.filter_cons]; split <;> simp <;> omega
theorem cnt_nil (S : Nat → Bool) : cnt [] S = 0 := rfl
theorem cnt_pos {l : List Cu} {S : Nat → Bool} : 0 < cnt l S ↔ sats l S = true := by
  unfold cnt sats
  rw [List.length_pos_iff_exists_mem, List.any_eq_true]
  constructor
  · rintro ⟨c, hc⟩; exact ⟨c, (List.mem_filter.1 hc).1, (List.mem_filter.1 hc).2⟩
  · rintro ⟨c, h1, h2⟩; exact ⟨c, List.mem_filter.2 ⟨h1, h2⟩⟩
/-- c says at least what a says. -/
def Fin (a c : Cu) : Prop := (∀ x ∈ a.1, x ∈ c.1) ∧ ∀ x ∈ a.2, x ∈ c.2
theorem Fin.refl (a : Cu) : Fin a a := ⟨fun _ h => h, fun _ h => h⟩
theorem Fin.trans {a b c : Cu} (h : Fin a b) (k : Fin b c) : Fin a c := ⟨fun x hx => k.1 x (h.1 x hx), fun x hx => k.2 x (h.2 x hx)⟩
theorem Fin.sat {a c : Cu} (h : Fin a c) {S : Nat → Bool} (hs : sat c S = true) : sat a S = true := by
  rw [sat_iff] at *
  exact ⟨fun x hx => hs.1 x (h.1 x hx), fun x hx => hs.2 x (h.2 x hx)⟩
theorem Fin.empty {a c : Cu} (h : Fin a c) (he : emptyC c = false) : emptyC a = false := by
  unfold emptyC at *
  rw [meetB_not] at *
  exact fun x hx hx2 => he x (h.1 x hx) (h.2 x hx2)
theorem Fin.within {a c : Cu} (h : Fin a c) : withinC c a = true := by
  unfold withinC
  rw [Bool.or_eq_true, Bool.and_eq_true, subB_iff, subB_iff]
  exact .inr h
theorem nonempty_sat {c : Cu} (h : emptyC c = false) : sat c (fun x => decide (x ∈ c.1)) = true := by
  rw [sat_iff]
  unfold emptyC at h
  rw [meetB_not] at h
  exact ⟨fun x hx => by simpa using hx, fun x hx => by simpa using fun hx1 => h x hx1 hx⟩
theorem empty_sat {c : Cu} (h : emptyC c = true) (S : Nat → Bool) : sat c S = false := by
  rw [← Bool.not_eq_true, sat_iff]
  unfold emptyC at h
  obtain ⟨x, h1, h2⟩ := meetB_iff.1 h
  rintro ⟨a, b⟩
  have := a x h1
  rw [b x h2] at this; cases this

/-- What Minus keeps from literal to literal: a is c with some literals of b, out are the cubes so far. -/
structure MinI (c b : Cu) (done : List Nat) (st : Cu × List Cu) : Prop where
  ok : CuOk st.1
  more : Fin c st.1
  less : Fin st.1 (bothC c b)
  has : ∀ r ∈ done, (r ∈ b.1 → r ∈ st.1.1) ∧ (r ∈ b.2 → r ∈ st.1.2)
  outs : ∀ x ∈ st.2, CuOk x ∧ emptyC x = false ∧ Fin c x
  count : ∀ S, cnt st.2 S = if sat c S && !sat st.1 S then 1 else 0
theorem MinI.start {c b : Cu} (hc : CuOk c) : MinI c b [] (c, []) where
  ok := hc
  more := Fin.refl c
  less := ⟨fun x hx => mem_b1.2 ⟨hc.1.2 x hx, .inl hx⟩, fun x hx => mem_b2.2 ⟨hc.2.2 x hx, .inl hx⟩⟩
  has := fun r hr => (by cases hr)
  outs := fun x hx => (by cases hx)
  count := fun S => by rw [cnt_nil]; cases sat c S <;> rfl
theorem MinI.step {c b : Cu} {done : List Nat} {st : Cu × List Cu} {r : Nat} (hb : CuOk b) (hn : emptyC (bothC c b) = false) (h : MinI c b done st) (hr : r ∈ b.1 ∨ r ∈ b.2) : MinI c b (done ++ [r]) (minusGo b st r) := by
  have hr4 : r < 4096 := by rcases hr with hr | hr; exact hb.1.2 r hr; exact hb.2.2 r hr
  obtain ⟨a, out⟩ := st
  have hok := h.ok
  have hne := h.less.empty hn
  have hdis := hn
  unfold emptyC at hdis
  rw [meetB_not] at hdis
  dsimp only at hok hne
  have hw1 : ∀ x, x ∈ withL a.1 r ↔ x ∈ a.1 ∨ x = r := fun x => mem_with hr4 hok.1
  have hw2 : ∀ x, x ∈ withL a.2 r ↔ x ∈ a.2 ∨ x = r := fun x => mem_with hr4 hok.2
  have hs1 : ∀ S, sat (withL a.1 r, a.2) S = (sat a S && S r) := fun S => by
    rw [Bool.eq_iff_iff, Bool.and_eq_true, sat_iff, sat_iff]
    constructor
    · rintro ⟨x1, x2⟩
      exact ⟨⟨fun x hx => x1 x ((hw1 x).2 (.inl hx)), x2⟩, x1 r ((hw1 r).2 (.inr rfl))⟩
    · rintro ⟨⟨x1, x2⟩, x3⟩
      refine ⟨fun x hx => ?_, x2⟩
      rcases (hw1 x).1 hx with hx | rfl
      · exact x1 x hx
      · exact x3
  have hs2 : ∀ S, sat (a.1, withL a.2 r) S = (sat a S && !S r) := fun S => by
    rw [Bool.eq_iff_iff, Bool.and_eq_true, sat_iff, sat_iff, Bool.not_eq_true']
    constructor
    · rintro ⟨x1, x2⟩
      exact ⟨⟨x1, fun x hx => x2 x ((hw2 x).2 (.inl hx))⟩, x2 r ((hw2 r).2 (.inr rfl))⟩
    · rintro ⟨⟨x1, x2⟩, x3⟩
      refine ⟨x1, fun x hx => ?_⟩
      rcases (hw2 x).1 hx with hx | rfl
      · exact x2 x hx
      · exact x3
  have hca : ∀ S, sat a S = true → sat c S = true := fun S hS => h.more.sat hS
  have hcount := h.count
  dsimp only at hcount
  unfold minusGo
  by_cases c1 : r ∈ b.1 ∧ r ∉ a.1
  · have e1 : (decide (r ∈ b.1) && !decide (r ∈ a.1)) = true := by simp [c1]
    dsimp only
    rw [if_pos e1]
    have hb2 : r ∉ b.2 := fun hx => hdis r (mem_b1.2 ⟨hr4, .inr c1.1⟩) (mem_b2.2 ⟨hr4, .inr hx⟩)
    refine ⟨⟨asc_with hok.1, hok.2⟩, ⟨fun x hx => (hw1 x).2 (.inl (h.more.1 x hx)), h.more.2⟩, ⟨fun x hx => ?_, h.less.2⟩, fun x hx => ?_, fun x hx => ?_, fun S => ?_⟩
    · rcases (hw1 x).1 hx with hx | rfl
      · exact h.less.1 x hx
      · exact mem_b1.2 ⟨hr4, .inr c1.1⟩
    · rcases List.mem_append.1 hx with hx | hx
      · exact ⟨fun hb1 => (hw1 x).2 (.inl ((h.has x hx).1 hb1)), (h.has x hx).2⟩
      · rw [List.mem_singleton] at hx
        subst hx
        exact ⟨fun _ => (hw1 x).2 (.inr rfl), fun hx => absurd hx hb2⟩
    · rcases List.mem_append.1 hx with hx | hx
      · exact h.outs x hx
      · rw [List.mem_singleton] at hx
        subst hx
        refine ⟨⟨hok.1, asc_with hok.2⟩, ?_, ⟨h.more.1, fun x hx => (hw2 x).2 (.inl (h.more.2 x hx))⟩⟩
        unfold emptyC at hne ⊢
        rw [meetB_not] at hne ⊢
        intro x hx hx2
        rcases (hw2 x).1 hx2 with hx2 | rfl
        · exact hne x hx hx2
        · exact c1.2 hx
    · dsimp only
      rw [cnt_append, hcount, cnt_cons, cnt_nil, hs1, hs2]
      have hca' := hca S
      generalize sat a S = p at hca' ⊢
      generalize sat c S = q at hca' ⊢
      generalize S r = t
      revert hca'
      cases p <;> cases q <;> cases t <;> decide
  · have e1 : (decide (r ∈ b.1) && !decide (r ∈ a.1)) = false := by
      rw [← Bool.not_eq_true]; simpa using c1
    dsimp only
    rw [if_neg (by rw [e1]; decide)]
    have hb1a : r ∈ b.1 → r ∈ a.1 := fun hx => by
      by_cases ha : r ∈ a.1
      · exact ha
      · exact absurd ⟨hx, ha⟩ c1
    by_cases c2 : r ∈ b.2 ∧ r ∉ a.2
    · have e2 : (decide (r ∈ b.2) && !decide (r ∈ a.2)) = true := by simp [c2]
      rw [if_pos e2]
      refine ⟨⟨hok.1, asc_with hok.2⟩, ⟨h.more.1, fun x hx => (hw2 x).2 (.inl (h.more.2 x hx))⟩, ⟨h.less.1, fun x hx => ?_⟩, fun x hx => ?_, fun x hx => ?_, fun S => ?_⟩
      · rcases (hw2 x).1 hx with hx | rfl
        · exact h.less.2 x hx
        · exact mem_b2.2 ⟨hr4, .inr c2.1⟩
      · rcases List.mem_append.1 hx with hx | hx
        · exact ⟨(h.has x hx).1, fun hb1 => (hw2 x).2 (.inl ((h.has x hx).2 hb1))⟩
        · rw [List.mem_singleton] at hx
          subst hx
          exact ⟨hb1a, fun _ => (hw2 x).2 (.inr rfl)⟩
      · rcases List.mem_append.1 hx with hx | hx
        · exact h.outs x hx
        · rw [List.mem_singleton] at hx
          subst hx
          refine ⟨⟨asc_with hok.1, hok.2⟩, ?_, ⟨fun x hx => (hw1 x).2 (.inl (h.more.1 x hx)), h.more.2⟩⟩
          unfold emptyC at hne ⊢
          rw [meetB_not] at hne ⊢
          intro x hx hx2
          rcases (hw1 x).1 hx with hx | rfl
          · exact hne x hx hx2
          · exact c2.2 hx2
      · dsimp only
        rw [cnt_append, hcount, cnt_cons, cnt_nil, hs1, hs2]
        have hca' := hca S
        generalize sat a S = p at hca' ⊢
        generalize sat c S = q at hca' ⊢
        generalize S r = t
        revert hca'
        cases p <;> cases q <;> cases t <;> decide
    · have e2 : (decide (r ∈ b.2) && !decide (r ∈ a.2)) = false := by
        rw [← Bool.not_eq_true]; simpa using c2
      rw [if_neg (by rw [e2]; decide)]
      refine ⟨h.ok, h.more, h.less, fun x hx => ?_, h.outs, h.count⟩
      rcases List.mem_append.1 hx with hx | hx
      · exact h.has x hx
      · rw [List.mem_singleton] at hx
        subst hx
        refine ⟨hb1a, fun hx => ?_⟩
        by_cases ha : x ∈ a.2
        · exact ha
        · exact absurd ⟨hx, ha⟩ c2
theorem MinI.fold {c b : Cu} (hb : CuOk b) (hn : emptyC (bothC c b) = false) : ∀ (l done : List Nat) (st : Cu × List Cu), MinI c b done st → (∀ r ∈ l, r ∈ b.1 ∨ r ∈ b.2) → MinI c b (done ++ l) (l.foldl (minusGo b) st)
  | [], done, st, h, _ => by simpa using h
  | r :: l, done, st, h, hl => by
    have := MinI.fold hb hn l (done ++ [r]) _ (h.step hb hn (hl r (by simp))) (fun x hx => hl x (by simp [hx]))
    simpa using this
/-- Minus: each cube says more than c and is not empty; each set satisfies one of them exactly if it satisfies c and not b. -/
theorem minus_law {c b : Cu} (hc : CuOk c) (hb : CuOk b) : (∀ x ∈ minusC c b, CuOk x ∧ emptyC x = false ∧ Fin c x) ∧ ∀ S, cnt (minusC c b) S = if sat c S && !sat b S then 1 else 0 := by
  unfold minusC
  cases he : emptyC c with
  | true =>
    rw [if_pos rfl]
    refine ⟨fun x hx => by simp at hx, fun S => ?_⟩
    rw [cnt_nil, empty_sat he]; rfl
  | false =>
    rw [if_neg (by decide)]
    cases hn : emptyC (bothC c b) with
    | true =>
      rw [if_pos rfl]
      refine ⟨fun x hx => ?_, fun S => ?_⟩
      · rw [List.mem_singleton] at hx
        subst hx
        exact ⟨hc, he, Fin.refl _⟩
      · rw [cnt_cons, cnt_nil]
        have h := empty_sat hn S
        have h2 : sat (bothC c b) S = (sat c S && sat b S) := by
          rw [Bool.eq_iff_iff, Bool.and_eq_true, sat_iff, sat_iff, sat_iff]
          unfold bothC
          simp only [mem_or]
          constructor
          · rintro ⟨x1, x2⟩
            exact ⟨⟨fun x hx => x1 x ⟨hc.1.2 x hx, .inl hx⟩, fun x hx => x2 x ⟨hc.2.2 x hx, .inl hx⟩⟩, fun x hx => x1 x ⟨hb.1.2 x hx, .inr hx⟩, fun x hx => x2 x ⟨hb.2.2 x hx, .inr hx⟩⟩
          · rintro ⟨⟨x1, x2⟩, x3, x4⟩
            exact ⟨fun x hx => hx.2.elim (x1 x) (x3 x), fun x hx => hx.2.elim (x2 x) (x4 x)⟩
        rw [h] at h2
        revert h2
        generalize sat c S = p
        generalize sat b S = q
        cases p <;> cases q <;> decide
    | false =>
      rw [if_neg (by decide)]
      have h := MinI.fold hb hn (orL b.1 b.2) [] (c, []) (MinI.start hc) (fun r hr => (mem_or.1 hr).2)
      refine ⟨h.outs, fun S => ?_⟩
      rw [h.count S]
      have e : sat ((orL b.1 b.2).foldl (minusGo b) (c, [])).1 S = (sat c S && sat b S) := by
        rw [Bool.eq_iff_iff, Bool.and_eq_true]
        constructor
        · intro hs
          refine ⟨h.more.sat hs, ?_⟩
          rw [sat_iff] at hs ⊢
          exact ⟨fun x hx => hs.1 x ((h.has x (List.mem_append_right [] (mem_or.2 ⟨hb.1.2 x hx, .inl hx⟩))).1 hx), fun x hx => hs.2 x ((h.has x (List.mem_append_right [] (mem_or.2 ⟨hb.2.2 x hx, .inr hx⟩))).2 hx)⟩
        · rintro ⟨h1, h2⟩
          rw [sat_iff] at h1 h2 ⊢
          refine ⟨fun x hx => ?_, fun x hx => ?_⟩
          · rcases (mem_b1.1 (h.less.1 x hx)).2 with hx | hx
            · exact h1.1 x hx
            · exact h2.1 x hx
          · rcases (mem_b2.1 (h.less.2 x hx)).2 with hx | hx
            · exact h1.2 x hx
            · exact h2.2 x hx
      rw [e]
      cases sat c S <;> cases sat b S <;> rfl
/-- Minus of a list of cubes, one after the other. -/
theorem flat_law {l : List Cu} {b c : Cu} (hl : ∀ x ∈ l, CuOk x ∧ emptyC x = false ∧ Fin c x) (hb : CuOk b) : (∀ x ∈ l.flatMap fun x => minusC x b, CuOk x ∧ emptyC x = false ∧ Fin c x) ∧ ∀ S, cnt (l.flatMap fun x => minusC x b) S = if sat b S then 0 else cnt l S := by
  induction l with
  | nil => exact ⟨fun x hx => by simp at hx, fun S => by simp [cnt_nil]⟩
  | cons y l ih =>
    obtain ⟨h1, h2⟩ := ih (fun x hx => hl x (by simp [hx]))
    have hy := hl y (by simp)
    obtain ⟨m1, m2⟩ := minus_law hy.1 hb
    rw [List.flatMap_cons]
    refine ⟨fun x hx => ?_, fun S => ?_⟩
    · rcases List.mem_append.1 hx with hx | hx
      · obtain ⟨a1, a2, a3⟩ := m1 x hx
        exact ⟨a1, a2, hy.2.2.trans a3⟩
      · exact h1 x hx
    · rw [cnt_append, m2 S, h2 S, cnt_cons]
      cases sat y S <;> cases sat b S <;> simp
theorem splitGo_law {c : Cu} : ∀ (l out got : List Cu), (∀ x ∈ l, CuOk x) → (∀ x ∈ out, CuOk x ∧ emptyC x = false ∧ Fin c x) → splitGo out l = some got →
    (∀ x ∈ got, CuOk x ∧ emptyC x = false ∧ Fin c x) ∧ ∀ S, cnt got S = if sats l S then 0 else cnt out S
  | [], out, got, _, ho, h => by
    cases h
    exact ⟨ho, fun S => rfl⟩
  | b :: l, out, got, hl, ho, h => by
    unfold splitGo at h
    split at h
    · cases h
    · obtain ⟨f1, f2⟩ := flat_law ho (hl b (by simp))
      obtain ⟨g1, g2⟩ := splitGo_law l _ got (fun x hx => hl x (by simp [hx])) f1 h
      refine ⟨g1, fun S => ?_⟩
      rw [g2 S, f2 S]
      unfold sats
      rw [List.any_cons]
      cases sat b S <;> cases (l.any fun c => sat c S) <;> rfl
/-- Split: each set satisfies one of its cubes exactly if it satisfies c and none of the list. -/
theorem split_law {c : Cu} {l got : List Cu} (hc : CuOk c) (hl : ∀ x ∈ l, CuOk x) (h : splitC c l = some got) :
    (∀ x ∈ got, CuOk x ∧ emptyC x = false ∧ Fin c x) ∧ ∀ S, cnt got S = if sat c S && !sats l S then 1 else 0 := by
  unfold splitC at h
  cases he : emptyC c with
  | true =>
    rw [he, if_pos rfl] at h
    obtain ⟨g1, g2⟩ := splitGo_law (c := c) l [] got hl (fun x hx => by simp at hx) h
    refine ⟨g1, fun S => ?_⟩
    rw [g2 S, empty_sat he S, cnt_nil]; simp
  | false =>
    rw [he, if_neg (by decide)] at h
    obtain ⟨g1, g2⟩ := splitGo_law (c := c) l [c] got hl (fun x hx => by rw [List.mem_singleton] at hx; subst hx; exact ⟨hc, he, Fin.refl _⟩) h
    refine ⟨g1, fun S => ?_⟩
    rw [g2 S, cnt_cons, cnt_nil]
    cases sat c S <;> cases sats l S <;> rfl
/-- Covered: all sets that satisfy c satisfy the list. -/
theorem covered_law : ∀ (l : List Cu) (c : Cu), CuOk c → (∀ x ∈ l, CuOk x) → (coveredC l c = true ↔ ∀ S, sat c S = true → sats l S = true)
  | [], c, hc, _ => by
    unfold coveredC
    constructor
    · intro h S hs
      rw [empty_sat h] at hs; cases hs
    · intro h
      cases he : emptyC c with
      | true => rfl
      | false => have := h _ (nonempty_sat he); simp [sats] at this
  | b :: l, c, hc, hl => by
    unfold coveredC
    have hb := hl b (by simp)
    have hl' : ∀ x ∈ l, CuOk x := fun x hx => hl x (by simp [hx])
    obtain ⟨m1, m2⟩ := minus_law hc hb
    cases he : emptyC c with
    | true =>
      simp only [Bool.true_or, true_iff]
      intro S hs
      rw [empty_sat he] at hs; cases hs
    | false =>
      rw [Bool.false_or]
      have key : (∀ S, sat c S = true → sats (b :: l) S = true) ↔ ∀ x ∈ minusC c b, ∀ S, sat x S = true → sats l S = true := by
        constructor
        · intro h x hx S hs
          have h1 := h S ((m1 x hx).2.2.sat hs)
          have h2 : 0 < cnt (minusC c b) S := cnt_pos.2 (List.any_eq_true.2 ⟨x, hx, hs⟩)
          rw [m2 S] at h2
          unfold sats at h1 ⊢
          rw [List.any_cons] at h1
          cases hb2 : sat b S
          · rw [hb2] at h1; simpa using h1
          · rw [hb2] at h2; simp at h2
        · intro h S hs
          unfold sats
          rw [List.any_cons]
          cases hb2 : sat b S
          · have h2 : 0 < cnt (minusC c b) S := by rw [m2 S, hs, hb2]; decide
            obtain ⟨x, hx, hxs⟩ := List.any_eq_true.1 (cnt_pos.1 h2)
            have := h x hx S hxs
            unfold sats at this
            rw [this]; rfl
          · rfl
      rw [key]
      cases hn : emptyC (bothC c b) with
      | true =>
        rw [if_pos rfl, covered_law l c hc hl']
        have : minusC c b = [c] := by unfold minusC; rw [he, hn]; rfl
        rw [this]; simp
      | false =>
        rw [if_neg (by decide), List.all_eq_true]
        constructor
        · intro h x hx
          exact (covered_law l x (m1 x hx).1 hl').1 (h x hx)
        · intro h x hx
          exact (covered_law l x (m1 x hx).1 hl').2 (h x hx)
theorem withinC_iff {a b : Cu} (ha : emptyC a = false) : withinC a b = true ↔ Fin b a := by
  unfold withinC
  rw [ha, Bool.false_or, Bool.and_eq_true, subB_iff, subB_iff]; rfl
/-- Within: all sets that satisfy a satisfy b. -/
theorem within_law {a b : Cu} : withinC a b = true ↔ ∀ S, sat a S = true → sat b S = true := by
  cases he : emptyC a with
  | true =>
    constructor
    · intro _ S hs
      rw [empty_sat he] at hs; cases hs
    · intro _; unfold withinC; rw [he]; rfl
  | false =>
    rw [withinC_iff he]
    constructor
    · exact fun h S hs => h.sat hs
    · intro h
      have h1 := h _ (nonempty_sat he)
      have h2 := h (fun x => !decide (x ∈ a.2)) (by
        rw [sat_iff]
        unfold emptyC at he
        rw [meetB_not] at he
        exact ⟨fun x hx => by simpa using he x hx, fun x hx => by simpa using hx⟩)
      rw [sat_iff] at h1 h2
      exact ⟨fun x hx => by simpa using h1.1 x hx, fun x hx => by simpa using h2.2 x hx⟩
end Go.Proofs.YtadomogbakcokaaGreatDoor
end

section
/- Cubes as pairs of masks: the reference's answers are those of the sets. No program in sight. -/
namespace Go.Proofs.YtadomogbakcokaaGreatDoor
open Go.RowKit Go.PlainAid
set_option linter.unusedVariables false

/-- The numbers of a mask. -/
def bitsL (m : Nat) : List Nat := (List.range 64).filter m.testBit
theorem mem_bitsL {m x : Nat} : x ∈ bitsL m ↔ x < 64 ∧ m.testBit x = true := by unfold bitsL; simp
theorem asc_bits (m : Nat) : Asc (bitsL m) := ⟨(pw_range 64).filter _, fun x hx => by have := (mem_bitsL.1 hx).1; omega⟩
theorem tb_big {m x : Nat} (hm : m < 18446744073709551616) (hx : ¬ x < 64) : m.testBit x = false :=
  Nat.testBit_lt_two_pow (Nat.lt_of_lt_of_le hm (by show 2 ^ 64 ≤ 2 ^ x; exact Nat.pow_le_pow_right (by omega) (by omega)))
theorem mem_bits {m x : Nat} (hm : m < 18446744073709551616) : x ∈ bitsL m ↔ m.testBit x = true := by
  rw [mem_bitsL]
  refine ⟨fun h => h.2, fun h => ⟨?_, h⟩⟩
  by_cases hx : x < 64
  · exact hx
  · rw [tb_big hm hx] at h; cases h
theorem bitsL_inj {a b : Nat} (ha : a < 18446744073709551616) (hb : b < 18446744073709551616) (h : bitsL a = bitsL b) : a = b := by
  apply Nat.eq_of_testBit_eq
  intro i
  rw [Bool.eq_iff_iff, ← mem_bits ha, ← mem_bits hb, h]
theorem or_bits (a b : Nat) : orL (bitsL a) (bitsL b) = bitsL (a ||| b) := asc_ext (asc_or _ _) (asc_bits _) fun x => by
  rw [mem_or, mem_bitsL, mem_bitsL, mem_bitsL, Nat.testBit_or, Bool.or_eq_true]
  constructor
  · rintro ⟨_, ⟨h1, h2⟩ | ⟨h1, h2⟩⟩
    · exact ⟨h1, .inl h2⟩
    · exact ⟨h1, .inr h2⟩
  · rintro ⟨h1, h2 | h2⟩
    · exact ⟨by omega, .inl ⟨h1, h2⟩⟩
    · exact ⟨by omega, .inr ⟨h1, h2⟩⟩
theorem with_bits (a : Nat) {r : Nat} (hr : r < 64) : withL (bitsL a) r = bitsL (a ||| 2 ^ r) := asc_ext (asc_with (asc_bits _)) (asc_bits _) fun x => by
  rw [mem_with (by omega) (asc_bits _), mem_bitsL, mem_bitsL, Nat.testBit_or, Bool.or_eq_true, Nat.testBit_two_pow]
  simp only [decide_eq_true_eq]
  constructor
  · rintro (⟨h1, h2⟩ | rfl)
    · exact ⟨h1, .inl h2⟩
    · exact ⟨hr, .inr rfl⟩
  · rintro ⟨h1, h2 | h2⟩
    · exact .inl ⟨h1, h2⟩
    · exact .inr h2.symm

abbrev Mc := Nat × Nat
def cuM (c : Mc) : Cu := (bitsL c.1, bitsL c.2)
def McOk (c : Mc) : Prop := c.1 < 18446744073709551616 ∧ c.2 < 18446744073709551616
theorem cuM_ok (c : Mc) : CuOk (cuM c) := ⟨asc_bits _, asc_bits _⟩
theorem cuM_inj {a b : Mc} (ha : McOk a) (hb : McOk b) (h : cuM a = cuM b) : a = b := by
  unfold cuM at h
  injection h with h1 h2
  exact Prod.ext (bitsL_inj ha.1 hb.1 h1) (bitsL_inj ha.2 hb.2 h2)
def emptyM (c : Mc) : Bool := (c.1 &&& c.2) != 0
def holdsM (c : Mc) (s : Nat) : Bool := (s &&& c.1 == c.1) && (s &&& c.2 == 0)
def someM (l : List Mc) (s : Nat) : Bool := l.any fun c => holdsM c s
theorem and_ne {a b : Nat} : (a &&& b) ≠ 0 ↔ ∃ x, a.testBit x = true ∧ b.testBit x = true := by
  constructor
  · intro h
    obtain ⟨x, hx⟩ := Nat.exists_testBit_of_ne_zero h
    rw [Nat.testBit_and, Bool.and_eq_true] at hx
    exact ⟨x, hx⟩
  · rintro ⟨x, h1, h2⟩ e
    have := congrArg (Nat.testBit · x) e
    simp [Nat.testBit_and, h1, h2] at this
theorem meet_bits {a b : Nat} (ha : a < 18446744073709551616) (hb : b < 18446744073709551616) : meetB (bitsL a) (bitsL b) = ((a &&& b) != 0) := by
  rw [Bool.eq_iff_iff, meetB_iff, bne_iff_ne, and_ne]
  constructor
  · rintro ⟨x, h1, h2⟩; exact ⟨x, (mem_bits ha).1 h1, (mem_bits hb).1 h2⟩
  · rintro ⟨x, h1, h2⟩; exact ⟨x, (mem_bits ha).2 h1, (mem_bits hb).2 h2⟩
theorem sub_bits {a b : Nat} (ha : a < 18446744073709551616) (hb : b < 18446744073709551616) : subB (bitsL a) (bitsL b) = (b &&& a == a) := by
  rw [Bool.eq_iff_iff, subB_iff, beq_iff_eq]
  constructor
  · intro h
    apply Nat.eq_of_testBit_eq
    intro i
    rw [Nat.testBit_and]
    cases hi : a.testBit i
    · simp
    · rw [(mem_bits hb).1 (h i ((mem_bits ha).2 hi))]; rfl
  · intro h x hx
    have := (mem_bits ha).1 hx
    rw [← h, Nat.testBit_and, Bool.and_eq_true] at this
    exact (mem_bits hb).2 this.1
theorem empty_cuM {c : Mc} (h : McOk c) : emptyC (cuM c) = emptyM c := meet_bits h.1 h.2
theorem bnot_bne (a : Nat) : (!(a != 0)) = (a == 0) := by cases h : a == 0 <;> simp [bne, h]
theorem holds_cuM {c : Mc} {s : Nat} (h : McOk c) (hs : s < 18446744073709551616) : holdsC (cuM c) (bitsL s) = holdsM c s := by
  unfold holdsC holdsM cuM
  rw [sub_bits h.1 hs, meet_bits h.2 hs, bnot_bne, Nat.and_comm c.2 s]
theorem some_cuM {l : List Mc} {s : Nat} (h : ∀ c ∈ l, McOk c) (hs : s < 18446744073709551616) : someC (l.map cuM) (bitsL s) = someM l s := by
  induction l with
  | nil => rfl
  | cons c l ih =>
    have h1 := ih fun x hx => h x (by simp [hx])
    unfold someC someM at *
    rw [List.map_cons, List.any_cons, List.any_cons, h1, holds_cuM (h c (by simp)) hs]

/-- All sets of the first eight roles. -/
def pack (S : Nat → Bool) : Nat → Nat
  | 0 => 0
  | n + 1 => pack S n ||| (if S n then 2 ^ n else 0)
theorem pack_lt (S : Nat → Bool) : ∀ n, pack S n < 2 ^ n
  | 0 => by simp [pack]
  | n + 1 => by
    unfold pack
    have h1 := pack_lt S n
    have h2 : (2 : Nat) ^ n < 2 ^ (n + 1) := Nat.pow_lt_pow_right (by omega) (by omega)
    refine Nat.or_lt_two_pow (by omega) ?_
    split
    · exact h2
    · exact Nat.two_pow_pos _
theorem pack_bit (S : Nat → Bool) : ∀ n i, i < n → (pack S n).testBit i = S i
  | 0, i, h => by omega
  | n + 1, i, h => by
    unfold pack
    rw [Nat.testBit_or]
    by_cases hi : i < n
    · rw [pack_bit S n i hi]
      split
      · rw [Nat.testBit_two_pow, decide_eq_false (by omega)]; simp
      · simp
    · have : i = n := by omega
      subst this
      rw [Nat.testBit_lt_two_pow (pack_lt S i)]
      split
      · rename_i h; rw [Nat.testBit_two_pow, h]; simp
      · rename_i h; simp at h; rw [h]; simp
theorem tb_256 {m x : Nat} (hm : m < 256) (hx : ¬ x < 8) : m.testBit x = false :=
  Nat.testBit_lt_two_pow (Nat.lt_of_lt_of_le hm (by show 2 ^ 8 ≤ 2 ^ x; exact Nat.pow_le_pow_right (by omega) (by omega)))
def Mc8 (c : Mc) : Prop := c.1 < 256 ∧ c.2 < 256
theorem Mc8.ok {c : Mc} (h : Mc8 c) : McOk c := ⟨by have := h.1; omega, by have := h.2; omega⟩
theorem bits_lt8 {m x : Nat} (hm : m < 256) (hx : x ∈ bitsL m) : x < 8 := by
  by_cases h : x < 8
  · exact h
  · have := (mem_bitsL.1 hx).2
    rw [tb_256 hm h] at this; cases this
theorem sat_pack {c : Mc} (h : Mc8 c) (S : Nat → Bool) : sat (cuM c) S = sat (cuM c) (fun x => decide (x ∈ bitsL (pack S 8))) := by
  have hp := pack_lt S 8
  have key : ∀ x, x < 8 → decide (x ∈ bitsL (pack S 8)) = S x := fun x hx => by
    rw [Bool.eq_iff_iff, decide_eq_true_eq, mem_bits (by omega), pack_bit S 8 x hx]
  rw [Bool.eq_iff_iff, sat_iff, sat_iff]
  constructor
  · rintro ⟨h1, h2⟩
    exact ⟨fun x hx => by rw [key x (bits_lt8 h.1 hx)]; exact h1 x hx, fun x hx => by rw [key x (bits_lt8 h.2 hx)]; exact h2 x hx⟩
  · rintro ⟨h1, h2⟩
    exact ⟨fun x hx => by rw [← key x (bits_lt8 h.1 hx)]; exact h1 x hx, fun x hx => by rw [← key x (bits_lt8 h.2 hx)]; exact h2 x hx⟩
theorem sat_num {c : Mc} {s : Nat} (h : Mc8 c) (hs : s < 256) : sat (cuM c) (fun x => decide (x ∈ bitsL s)) = holdsM c s := by
  rw [← sat_holds, holds_cuM h.ok (by omega)]
def withinM (a b : Mc) : Bool := (List.range 256).all fun s => !(holdsM a s && !holdsM b s)
def coveredM (c : Mc) (l : List Mc) : Bool := (List.range 256).all fun s => !(holdsM c s && !someM l s)
theorem sats_pack {l : List Mc} (h : ∀ c ∈ l, Mc8 c) (S : Nat → Bool) : sats (l.map cuM) S = someM l (pack S 8) := by
  have hp := pack_lt S 8
  induction l with
  | nil => rfl
  | cons c l ih =>
    have h1 := ih fun x hx => h x (by simp [hx])
    unfold sats someM at *
    rw [List.map_cons, List.any_cons, List.any_cons, h1, sat_pack (h c (by simp)) S, sat_num (h c (by simp)) (by omega)]
theorem sats_num {l : List Mc} {s : Nat} (h : ∀ c ∈ l, Mc8 c) (hs : s < 256) : sats (l.map cuM) (fun x => decide (x ∈ bitsL s)) = someM l s := by
  induction l with
  | nil => rfl
  | cons c l ih =>
    have h1 := ih fun x hx => h x (by simp [hx])
    unfold sats someM at *
    rw [List.map_cons, List.any_cons, List.any_cons, h1, sat_num (h c (by simp)) hs]
theorem within_cuM {a b : Mc} (ha : Mc8 a) (hb : Mc8 b) : withinC (cuM a) (cuM b) = withinM a b := by
  rw [Bool.eq_iff_iff, within_law]
  unfold withinM
  rw [List.all_eq_true]
  constructor
  · intro h s hs
    have hs := List.mem_range.1 hs
    have := h fun x => decide (x ∈ bitsL s)
    rw [sat_num ha hs, sat_num hb hs] at this
    cases h1 : holdsM a s
    · rfl
    · rw [this h1]; rfl
  · intro h S hS
    rw [sat_pack ha, sat_num ha (pack_lt S 8)] at hS
    rw [sat_pack hb, sat_num hb (pack_lt S 8)]
    have := h (pack S 8) (List.mem_range.2 (pack_lt S 8))
    rw [hS] at this
    simpa using this
theorem covered_cuM {c : Mc} {l : List Mc} (hc : Mc8 c) (hl : ∀ x ∈ l, Mc8 x) : coveredC (l.map cuM) (cuM c) = coveredM c l := by
  rw [Bool.eq_iff_iff, covered_law _ _ (cuM_ok c) (fun x hx => by obtain ⟨y, _, rfl⟩ := List.mem_map.1 hx; exact cuM_ok y)]
  unfold coveredM
  rw [List.all_eq_true]
  constructor
  · intro h s hs
    have hs := List.mem_range.1 hs
    have := h fun x => decide (x ∈ bitsL s)
    rw [sat_num hc hs, sats_num hl hs] at this
    cases h1 : holdsM c s
    · rfl
    · rw [this h1]; rfl
  · intro h S hS
    rw [sat_pack hc, sat_num hc (pack_lt S 8)] at hS
    rw [sats_pack hl]
    have := h (pack S 8) (List.mem_range.2 (pack_lt S 8))
    rw [hS] at this
    simpa using this

def stepA (b : Mc) (st : Mc × List Mc) (r : Nat) : Mc × List Mc :=
  if (b.1 &&& 2 ^ r != 0) && (st.1.1 &&& 2 ^ r == 0) then ((st.1.1 ||| 2 ^ r, st.1.2), st.2 ++ [(st.1.1, st.1.2 ||| 2 ^ r)]) else st
def stepB (b : Mc) (st : Mc × List Mc) (r : Nat) : Mc × List Mc :=
  if (b.2 &&& 2 ^ r != 0) && (st.1.2 &&& 2 ^ r == 0) then ((st.1.1, st.1.2 ||| 2 ^ r), st.2 ++ [(st.1.1 ||| 2 ^ r, st.1.2)]) else st
def minusGoM (b : Mc) (st : Mc × List Mc) (r : Nat) : Mc × List Mc := stepB b (stepA b st r) r
def bothM (a b : Mc) : Mc := (a.1 ||| b.1, a.2 ||| b.2)
def minusM (a b : Mc) : List Mc := if emptyM a then [] else if emptyM (bothM a b) then [a] else ((List.range 64).foldl (minusGoM b) (a, [])).2
def splitGoM : List Mc → List Mc → Option (List Mc)
  | out, [] => some out
  | out, b :: l => if 2000 < (out.flatMap fun x => minusM x b).length then none else splitGoM (out.flatMap fun x => minusM x b) l
def splitM (c : Mc) (l : List Mc) : Option (List Mc) := splitGoM (if emptyM c then [] else [c]) l
theorem bit_ne {a r : Nat} : (a &&& 2 ^ r != 0) = a.testBit r := by
  rw [Bool.eq_iff_iff, bne_iff_ne, and_ne]
  constructor
  · rintro ⟨x, h1, h2⟩
    rw [Nat.testBit_two_pow] at h2
    simp at h2; subst h2; exact h1
  · intro h; exact ⟨r, h, by rw [Nat.testBit_two_pow]; simp⟩
theorem bit_eq {a r : Nat} : (a &&& 2 ^ r == 0) = !a.testBit r := by
  rw [← bit_ne, bne, Bool.not_not]
theorem dec_bits {a r : Nat} (hr : r < 64) : decide (r ∈ bitsL a) = a.testBit r := by
  rw [Bool.eq_iff_iff, decide_eq_true_eq, mem_bitsL]; simp [hr]
def imgM (st : Mc × List Mc) : Cu × List Cu := (cuM st.1, st.2.map cuM)
theorem minusGo_img {b : Mc} {st : Mc × List Mc} {r : Nat} (hr : r < 64) (hd : ¬ (b.1.testBit r = true ∧ b.2.testBit r = true)) : minusGo (cuM b) (imgM st) r = imgM (minusGoM b st r) := by
  obtain ⟨⟨y, n⟩, out⟩ := st
  unfold minusGo minusGoM stepA stepB imgM cuM
  dsimp only
  rw [dec_bits hr, dec_bits hr, dec_bits hr, dec_bits hr, bit_ne, bit_eq, with_bits _ hr, with_bits _ hr]
  cases h1 : b.1.testBit r <;> cases h2 : y.testBit r <;> cases h3 : b.2.testBit r <;> cases h4 : n.testBit r <;> simp_all [bit_ne, bit_eq]
theorem fold_img {b : Mc} (hd : ∀ r, ¬ (b.1.testBit r = true ∧ b.2.testBit r = true)) : ∀ (l : List Nat) (st : Mc × List Mc), (∀ r ∈ l, r < 64) → l.foldl (minusGo (cuM b)) (imgM st) = imgM (l.foldl (minusGoM b) st)
  | [], st, _ => rfl
  | r :: l, st, h => by
    rw [List.foldl_cons, List.foldl_cons, minusGo_img (h r (by simp)) (hd r)]
    exact fold_img hd l _ fun x hx => h x (by simp [hx])
theorem fold_filter (b : Cu) (p : Nat → Bool) : ∀ (l : List Nat) (st : Cu × List Cu), (∀ r ∈ l, p r = false → r ∉ b.1 ∧ r ∉ b.2) → (l.filter p).foldl (minusGo b) st = l.foldl (minusGo b) st
  | [], st, _ => rfl
  | r :: l, st, h => by
    have ih := fun st => fold_filter b p l st fun x hx => h x (by simp [hx])
    rw [List.filter_cons]
    cases hp : p r with
    | true => rw [if_pos rfl, List.foldl_cons, List.foldl_cons, ih]
    | false =>
      rw [if_neg (by decide), List.foldl_cons, ih]
      obtain ⟨h1, h2⟩ := h r (by simp) hp
      have : minusGo b st r = st := by unfold minusGo; simp [h1, h2]
      rw [this]
theorem both_cuM (a b : Mc) : bothC (cuM a) (cuM b) = cuM (bothM a b) := by
  unfold bothC bothM cuM
  rw [or_bits, or_bits]
theorem bothM_ok {a b : Mc} (ha : McOk a) (hb : McOk b) : McOk (bothM a b) := ⟨lor_lt ha.1 hb.1, lor_lt ha.2 hb.2⟩
theorem minus_cuM {a b : Mc} (ha : McOk a) (hb : McOk b) : minusC (cuM a) (cuM b) = (minusM a b).map cuM := by
  unfold minusC minusM
  rw [empty_cuM ha, both_cuM, empty_cuM (bothM_ok ha hb)]
  cases emptyM a with
  | true => rw [if_pos rfl, if_pos rfl]; rfl
  | false =>
    rw [if_neg Bool.false_ne_true, if_neg Bool.false_ne_true]
    cases he : emptyM (bothM a b) with
    | true => rw [if_pos rfl, if_pos rfl]; rfl
    | false =>
      rw [if_neg Bool.false_ne_true, if_neg Bool.false_ne_true]
      have hd : ∀ r, ¬ (b.1.testBit r = true ∧ b.2.testBit r = true) := by
        rintro r ⟨h1, h2⟩
        unfold emptyM bothM at he
        have : ((a.1 ||| b.1) &&& (a.2 ||| b.2)) ≠ 0 := and_ne.2 ⟨r, by rw [Nat.testBit_or, h1]; simp, by rw [Nat.testBit_or, h2]; simp⟩
        simp [this] at he
      have e : orL (bitsL b.1) (bitsL b.2) = (List.range 64).filter (fun r => b.1.testBit r || b.2.testBit r) := by
        rw [or_bits]; unfold bitsL
        apply List.filter_congr
        intro x _
        rw [Nat.testBit_or]
      show ((orL (bitsL b.1) (bitsL b.2)).foldl (minusGo (cuM b)) (imgM (a, []))).2 = _
      rw [e, fold_filter (cuM b) _ _ _ (fun r _ hp => by
        rw [Bool.or_eq_false_iff] at hp
        unfold cuM
        rw [mem_bitsL, mem_bitsL, hp.1, hp.2]; simp), fold_img hd _ _ (fun r hr => List.mem_range.1 hr)]
      rfl
theorem minusGoM_ok {b : Mc} {st : Mc × List Mc} {r : Nat} (hr : r < 64) (h : McOk st.1 ∧ ∀ x ∈ st.2, McOk x) : McOk (minusGoM b st r).1 ∧ ∀ x ∈ (minusGoM b st r).2, McOk x := by
  have hbit := bit_lt hr
  have key : ∀ st : Mc × List Mc, (McOk st.1 ∧ ∀ x ∈ st.2, McOk x) → McOk (stepA b st r).1 ∧ ∀ x ∈ (stepA b st r).2, McOk x := by
    rintro ⟨⟨y, n⟩, out⟩ ⟨⟨h1, h2⟩, h3⟩
    unfold stepA
    split
    · refine ⟨⟨lor_lt h1 hbit, h2⟩, fun x hx => ?_⟩
      rcases List.mem_append.1 hx with hx | hx
      · exact h3 x hx
      · rw [List.mem_singleton] at hx; subst hx; exact ⟨h1, lor_lt h2 hbit⟩
    · exact ⟨⟨h1, h2⟩, h3⟩
  have key2 : ∀ st : Mc × List Mc, (McOk st.1 ∧ ∀ x ∈ st.2, McOk x) → McOk (stepB b st r).1 ∧ ∀ x ∈ (stepB b st r).2, McOk x := by
    rintro ⟨⟨y, n⟩, out⟩ ⟨⟨h1, h2⟩, h3⟩
    unfold stepB
    split
    · refine ⟨⟨h1, lor_lt h2 hbit⟩, fun x hx => ?_⟩
      rcases List.mem_append.1 hx with hx | hx
      · exact h3 x hx
      · rw [List.mem_singleton] at hx; subst hx; exact ⟨lor_lt h1 hbit, h2⟩
    · exact ⟨⟨h1, h2⟩, h3⟩
  exact key2 _ (key _ h)
theorem foldM_ok {b : Mc} : ∀ (l : List Nat) (st : Mc × List Mc), (∀ r ∈ l, r < 64) → (McOk st.1 ∧ ∀ x ∈ st.2, McOk x) → McOk (l.foldl (minusGoM b) st).1 ∧ ∀ x ∈ (l.foldl (minusGoM b) st).2, McOk x
  | [], st, _, h => h
  | r :: l, st, hl, h => foldM_ok l _ (fun x hx => hl x (by simp [hx])) (minusGoM_ok (hl r (by simp)) h)
theorem minusM_ok {a b : Mc} (ha : McOk a) : ∀ x ∈ minusM a b, McOk x := by
  intro x hx
  unfold minusM at hx
  split at hx
  · simp at hx
  · split at hx
    · rw [List.mem_singleton] at hx; subst hx; exact ha
    · exact (foldM_ok (List.range 64) (a, []) (fun r hr => List.mem_range.1 hr) ⟨ha, fun x hx => by simp at hx⟩).2 x hx
theorem flat_cuM {b : Mc} (hb : McOk b) : ∀ (out : List Mc), (∀ x ∈ out, McOk x) → (out.map cuM).flatMap (fun x => minusC x (cuM b)) = (out.flatMap fun x => minusM x b).map cuM ∧ ∀ x ∈ out.flatMap fun x => minusM x b, McOk x
  | [], _ => ⟨rfl, fun x hx => by simp at hx⟩
  | y :: out, h => by
    obtain ⟨h1, h2⟩ := flat_cuM hb out fun x hx => h x (by simp [hx])
    constructor
    · rw [List.map_cons, List.flatMap_cons, List.flatMap_cons, List.map_append, h1, minus_cuM (h y (by simp)) hb]
    · intro x hx
      rw [List.flatMap_cons, List.mem_append] at hx
      rcases hx with hx | hx
      · exact minusM_ok (h y (by simp)) x hx
      · exact h2 x hx
theorem splitGo_cuM : ∀ (l out : List Mc), (∀ x ∈ l, McOk x) → (∀ x ∈ out, McOk x) → splitGo (out.map cuM) (l.map cuM) = (splitGoM out l).map (List.map cuM)
  | [], out, _, _ => rfl
  | b :: l, out, hl, ho => by
    obtain ⟨h1, h2⟩ := flat_cuM (hl b (by simp)) out ho
    rw [List.map_cons]
    unfold splitGo splitGoM
    rw [h1, List.length_map]
    split
    · rfl
    · exact splitGo_cuM l _ (fun x hx => hl x (by simp [hx])) h2
theorem split_cuM {c : Mc} {l : List Mc} (hc : McOk c) (hl : ∀ x ∈ l, McOk x) : splitC (cuM c) (l.map cuM) = (splitM c l).map (List.map cuM) := by
  unfold splitC splitM
  rw [empty_cuM hc]
  cases emptyM c with
  | true => exact splitGo_cuM l [] hl (fun x hx => by simp at hx)
  | false => exact splitGo_cuM l [c] hl (fun x hx => by rw [List.mem_singleton] at hx; subst hx; exact hc)
end Go.Proofs.YtadomogbakcokaaGreatDoor
end

section
/- Cubes: their order, the simple ones, and the counted sets, in plain words. No program in sight. -/
namespace Go.Proofs.YtadomogbakcokaaGreatDoor
open Go.RowKit Go.PlainAid
set_option linter.unusedVariables false

def cmpC (a b : Cu) : Int := if cmpL a.1 b.1 = 0 then cmpL a.2 b.2 else cmpL a.1 b.1
theorem cmpC_neg (a b : Cu) : cmpC b a = - cmpC a b := by
  unfold cmpC
  rw [cmpL_neg a.1 b.1, cmpL_neg a.2 b.2]
  by_cases h : cmpL a.1 b.1 = 0
  · rw [if_pos (by omega), if_pos h]
  · rw [if_neg (by omega), if_neg h]
theorem cmpC_zero {a b : Cu} : cmpC a b = 0 ↔ a = b := by
  unfold cmpC
  constructor
  · intro h
    split at h
    · rename_i h1
      exact Prod.ext (cmpL_zero _ _ h1) (cmpL_zero _ _ h)
    · rename_i h1; exact absurd h h1
  · rintro rfl
    rw [if_pos (cmpL_self _), cmpL_self]
theorem cmpL_cases' : ∀ l r, cmpL l r = 0 ∨ cmpL l r = 1 ∨ cmpL l r = -1
  | [], [] => .inl rfl
  | [], _ :: _ => .inr (.inr rfl)
  | _ :: _, [] => .inr (.inl rfl)
  | x :: l, y :: r => by
    unfold cmpL
    split
    · exact .inr (.inr rfl)
    · split
      · exact .inr (.inl rfl)
      · exact cmpL_cases' l r
theorem cmpL_tr : ∀ l m k, cmpL l m < 0 → cmpL m k ≤ 0 → cmpL l k < 0
  | [], [], _, h, _ => by simp [cmpL] at h
  | [], _ :: _, [], _, h => by simp [cmpL] at h
  | [], _, _ :: _, _, _ => by simp [cmpL]
  | _ :: _, [], _, h, _ => by simp [cmpL] at h
  | _ :: _, _ :: _, [], _, h => by simp [cmpL] at h
  | x :: l, y :: m, z :: k, h1, h2 => by
    unfold cmpL at h1 h2 ⊢
    have ih := cmpL_tr l m k
    split at h1 <;> split at h2 <;> (try split at h1) <;> (try split at h2) <;> (try (exfalso; omega)) <;> split <;> (try omega) <;> split <;> (try omega) <;> exact ih h1 h2
theorem cmpC_cases (a b : Cu) : cmpC a b = 0 ∨ cmpC a b = 1 ∨ cmpC a b = -1 := by
  unfold cmpC
  split
  · exact cmpL_cases' _ _
  · exact cmpL_cases' _ _
theorem cmpC_tr {a b c : Cu} (h : cmpC a b < 0) (k : cmpC b c ≤ 0) : cmpC a c < 0 := by
  unfold cmpC at *
  by_cases h1 : cmpL a.1 b.1 = 0
  · rw [if_pos h1] at h
    have e1 := cmpL_zero _ _ h1
    rw [e1]
    by_cases h2 : cmpL b.1 c.1 = 0
    · rw [if_pos h2] at k ⊢
      exact cmpL_tr _ _ _ h k
    · rw [if_neg h2] at k ⊢
      omega
  · rw [if_neg h1] at h
    by_cases h2 : cmpL b.1 c.1 = 0
    · rw [← cmpL_zero _ _ h2, if_neg h1]; exact h
    · rw [if_neg h2] at k
      have := cmpL_tr _ _ _ h k
      rw [if_neg (by omega)]; exact this
theorem cmpC_le {a b c : Cu} (h : cmpC a b ≤ 0) (k : cmpC b c ≤ 0) : cmpC a c ≤ 0 := by
  by_cases h0 : cmpC a b = 0
  · rw [cmpC_zero.1 h0]; exact k
  · have := cmpC_tr (a := a) (b := b) (c := c) (by omega) k; omega
theorem cmpC_tr2 {a b c : Cu} (h : cmpC a b ≤ 0) (k : cmpC b c < 0) : cmpC a c < 0 := by
  by_cases h0 : cmpC a b = 0
  · rw [cmpC_zero.1 h0]; exact k
  · exact cmpC_tr (b := b) (by omega) (by omega)

/-- Strictly ascending lists with the same members are equal. -/
def SortC (l : List Cu) : Prop := l.Pairwise fun a b => cmpC a b < 0
theorem sortC_ext : ∀ {a b : List Cu}, SortC a → SortC b → (∀ x, x ∈ a ↔ x ∈ b) → a = b
  | [], [], _, _, _ => rfl
  | [], y :: b, _, _, h => by have := (h y).2 (by simp); simp at this
  | x :: a, [], _, _, h => by have := (h x).1 (by simp); simp at this
  | x :: a, y :: b, ha, hb, h => by
    obtain ⟨ha1, ha2⟩ := List.pairwise_cons.1 ha
    obtain ⟨hb1, hb2⟩ := List.pairwise_cons.1 hb
    have irr : ∀ c : Cu, ¬ cmpC c c < 0 := fun c => by rw [cmpC_zero.2 rfl]; omega
    have asy : ∀ c d : Cu, cmpC c d < 0 → ¬ cmpC d c < 0 := fun c d h => by rw [cmpC_neg c d]; omega
    have hxy : x = y := by
      have h1 := (h x).1 (by simp)
      have h2 := (h y).2 (by simp)
      simp only [List.mem_cons] at h1 h2
      rcases h1 with h1 | h1
      · exact h1
      · rcases h2 with h2 | h2
        · exact h2.symm
        · exact absurd (hb1 _ h1) (asy _ _ (ha1 _ h2))
    subst hxy
    congr 1
    refine sortC_ext ha2 hb2 fun z => ⟨fun hz => ?_, fun hz => ?_⟩
    · have := (h z).1 (List.mem_cons_of_mem _ hz)
      simp only [List.mem_cons] at this
      rcases this with rfl | h'
      · exact absurd (ha1 _ hz) (irr _)
      · exact h'
    · have := (h z).2 (List.mem_cons_of_mem _ hz)
      simp only [List.mem_cons] at this
      rcases this with rfl | h'
      · exact absurd (hb1 _ hz) (irr _)
      · exact h'
/-- Neighbours that are equal are taken together. -/
def dedup : List Cu → List Cu
  | [] => []
  | [x] => [x]
  | x :: y :: l => if x = y then dedup (y :: l) else x :: dedup (y :: l)
theorem mem_dedup : ∀ (l : List Cu) (z : Cu), z ∈ dedup l ↔ z ∈ l
  | [], z => Iff.rfl
  | [x], z => Iff.rfl
  | x :: y :: l, z => by
    unfold dedup
    have ih := mem_dedup (y :: l) z
    split
    · rename_i h; subst h
      rw [ih, List.mem_cons (b := x) (l := x :: l)]
      constructor
      · exact fun h => .inr h
      · rintro (rfl | h)
        · simp
        · exact h
    · rw [List.mem_cons, ih, List.mem_cons (b := x) (l := y :: l)]
theorem sort_dedup : ∀ (l : List Cu), (l.Pairwise fun a b => cmpC a b ≤ 0) → SortC (dedup l)
  | [], _ => List.Pairwise.nil
  | [x], _ => List.pairwise_singleton _ _
  | x :: y :: l, h => by
    obtain ⟨h1, h2⟩ := List.pairwise_cons.1 h
    have ih := sort_dedup (y :: l) h2
    unfold dedup
    split
    · exact ih
    · rename_i hne
      refine List.pairwise_cons.2 ⟨fun z hz => ?_, ih⟩
      have hz := (mem_dedup _ _).1 hz
      have hxy : cmpC x y < 0 := by
        have := h1 y (by simp)
        have : cmpC x y ≠ 0 := fun e => hne (cmpC_zero.1 e)
        have := h1 y (by simp)
        omega
      rcases List.mem_cons.1 hz with rfl | hz
      · exact hxy
      · exact cmpC_tr hxy ((List.pairwise_cons.1 h2).1 z hz)
/-- No other one that is not empty holds all its sets. -/
def keepC (l : List Cu) (c : Cu) : Bool := !emptyC c && l.all fun d => decide (d = c) || emptyC d || !withinC c d
theorem keepC_ext {l r : List Cu} (h : ∀ x, x ∈ l ↔ x ∈ r) (c : Cu) : keepC l c = keepC r c := by
  unfold keepC
  congr 1
  rw [Bool.eq_iff_iff, List.all_eq_true, List.all_eq_true]
  exact ⟨fun k x hx => k x ((h x).2 hx), fun k x hx => k x ((h x).1 hx)⟩
def litN (c : Cu) : Nat := c.1.length + c.2.length
theorem sub_len {a b : List Nat} (ha : Asc a) (hb : Asc b) (h : ∀ x ∈ a, x ∈ b) : a.length ≤ b.length ∧ (a.length = b.length → a = b) := by
  have hs : a.Sublist b := by
    have e : a = b.filter fun x => decide (x ∈ a) := asc_ext ha (asc_filter hb _) fun x => by
      rw [List.mem_filter, decide_eq_true_eq]; exact ⟨fun hx => ⟨h x hx, hx⟩, fun hx => hx.2⟩
    rw [e]; exact List.filter_sublist
  exact ⟨hs.length_le, hs.eq_of_length⟩
theorem some_keep {l : List Cu} (hl : ∀ x ∈ l, CuOk x) (S : Nat → Bool) : sats (l.filter (keepC l)) S = sats l S := by
  rw [Bool.eq_iff_iff]
  unfold sats
  rw [List.any_eq_true, List.any_eq_true]
  constructor
  · rintro ⟨c, hc, hs⟩
    exact ⟨c, (List.mem_filter.1 hc).1, hs⟩
  · rintro ⟨c0, hc0, hs0⟩
    have key : ∀ n (c : Cu), litN c = n → c ∈ l → sat c S = true → ∃ c ∈ l.filter (keepC l), sat c S = true := by
      intro n
      induction n using Nat.strongRecOn with
      | _ n ih =>
        intro c hn hc hs
        have hne : emptyC c = false := by
          rw [← Bool.not_eq_true]; intro he; rw [empty_sat he S] at hs; cases hs
        by_cases hk : keepC l c = true
        · exact ⟨c, List.mem_filter.2 ⟨hc, hk⟩, hs⟩
        · unfold keepC at hk
          rw [hne] at hk
          simp only [Bool.not_false, Bool.true_and, List.all_eq_false, Bool.not_eq_true] at hk
          obtain ⟨d, hd, hd2⟩ := hk
          simp only [Bool.or_eq_false_iff, decide_eq_false_iff_not, Bool.not_eq_false'] at hd2
          obtain ⟨⟨h1, h2⟩, h3⟩ := hd2
          have hf := (withinC_iff hne).1 h3
          obtain ⟨a1, a2⟩ := sub_len (hl d hd).1 (hl c hc).1 hf.1
          obtain ⟨b1, b2⟩ := sub_len (hl d hd).2 (hl c hc).2 hf.2
          have hlt : litN d < n := by
            unfold litN at hn ⊢
            rcases Nat.lt_or_ge (d.1.length + d.2.length) n with h | h
            · exact h
            · exact absurd (Prod.ext (a2 (by omega)) (b2 (by omega))) h1
          exact ih _ hlt d rfl hd (hf.sat hs)
    exact key _ c0 rfl hc0 hs0

/-- The members whose place is in a mask. -/
def pickL : List Nat → Nat → List Nat
  | [], _ => []
  | r :: l, m => (if m.testBit 0 then [r] else []) ++ pickL l (m / 2)
theorem mem_pick : ∀ (l : List Nat) (m x : Nat), x ∈ pickL l m ↔ ∃ i, l[i]? = some x ∧ m.testBit i = true
  | [], m, x => by simp [pickL]
  | r :: l, m, x => by
    unfold pickL
    rw [List.mem_append, mem_pick l (m / 2) x]
    constructor
    · rintro (h | ⟨i, h1, h2⟩)
      · split at h
        · rename_i hb
          rw [List.mem_singleton] at h
          subst h
          exact ⟨0, rfl, hb⟩
        · simp at h
      · exact ⟨i + 1, by simpa using h1, by rw [Nat.testBit_succ]; exact h2⟩
    · rintro ⟨i, h1, h2⟩
      match i, h1, h2 with
      | 0, h1, h2 =>
        left
        rw [if_pos h2]
        simpa using h1.symm
      | i + 1, h1, h2 =>
        right
        exact ⟨i, by simpa using h1, by rw [Nat.testBit_succ] at h2; exact h2⟩
theorem asc_pick : ∀ {l : List Nat} (m : Nat), Asc l → Asc (pickL l m)
  | [], m, _ => ⟨List.Pairwise.nil, fun x hx => by simp [pickL] at hx⟩
  | r :: l, m, h => by
    have h2 : Asc l := ⟨(List.pairwise_cons.1 h.1).2, fun x hx => h.2 x (by simp [hx])⟩
    have ih := asc_pick (l := l) (m / 2) h2
    refine ⟨?_, fun x hx => ?_⟩
    · unfold pickL
      split
      · refine List.pairwise_cons.2 ⟨fun x hx => ?_, ih.1⟩
        obtain ⟨i, hi, _⟩ := (mem_pick _ _ _).1 hx
        exact (List.pairwise_cons.1 h.1).1 x (List.mem_of_getElem? hi)
      · exact ih.1
    · obtain ⟨i, hi, _⟩ := (mem_pick _ _ _).1 hx
      exact h.2 x (List.mem_of_getElem? hi)
def countC (l : List Cu) (ms : List Nat) : Nat := ((List.range (2 ^ ms.length)).filter fun m => someC l (pickL ms m)).length
def countM (l : List Mc) (over : Nat) : Nat := ((List.range 256).filter fun s => (s &&& over == s) && someM l s).length
/-- The mask with the bits of m at the places l. -/
def depN : List Nat → Nat → Nat
  | [], _ => 0
  | r :: l, m => (if m % 2 = 1 then 2 ^ r else 0) ||| depN l (m / 2)
theorem dep_bit : ∀ (l : List Nat) (m x : Nat), (depN l m).testBit x = true ↔ ∃ i, l[i]? = some x ∧ m.testBit i = true
  | [], m, x => by simp [depN]
  | r :: l, m, x => by
    unfold depN
    rw [Nat.testBit_or, Bool.or_eq_true, dep_bit l (m / 2) x]
    have h0 : m.testBit 0 = true ↔ m % 2 = 1 := by rw [Nat.testBit_zero]; simp
    constructor
    · rintro (h | ⟨i, h1, h2⟩)
      · split at h
        · rename_i hb
          rw [Nat.testBit_two_pow] at h
          simp at h
          subst h
          exact ⟨0, rfl, h0.2 hb⟩
        · simp at h
      · exact ⟨i + 1, by simpa using h1, by rw [Nat.testBit_succ]; exact h2⟩
    · rintro ⟨i, h1, h2⟩
      match i, h1, h2 with
      | 0, h1, h2 =>
        left
        rw [if_pos (h0.1 h2), Nat.testBit_two_pow]
        simpa using h1
      | i + 1, h1, h2 =>
        right
        exact ⟨i, by simpa using h1, by rw [Nat.testBit_succ] at h2; exact h2⟩
theorem depN_lt : ∀ (l : List Nat) (m : Nat), (∀ x ∈ l, x < 64) → depN l m < 18446744073709551616
  | [], m, _ => by simp [depN]
  | r :: l, m, h => by
    unfold depN
    refine lor_lt ?_ (depN_lt l _ fun x hx => h x (by simp [hx]))
    split
    · exact bit_lt (h r (by simp))
    · omega
def low8 (n : Nat) : List Nat := (List.range 8).filter fun i => n.testBit i
theorem low8_bits {n : Nat} (h : n < 256) : bitsL n = low8 n := asc_ext (asc_bits _) ⟨(pw_range 8).filter _, fun x hx => by have := (List.mem_filter.1 hx).1; simp at this; omega⟩ fun x => by
  unfold low8
  rw [mem_bits (by omega), List.mem_filter, List.mem_range]
  refine ⟨fun hx => ⟨?_, hx⟩, fun hx => hx.2⟩
  by_cases h8 : x < 8
  · exact h8
  · rw [tb_256 h h8] at hx; cases hx
def depOk (over : Nat) : Bool := (List.range (2 ^ (low8 over).length)).map (depN (low8 over)) == (List.range 256).filter fun s => s &&& over == s
set_option maxRecDepth 100000 in
theorem dep_all : (List.range 256).all depOk = true := by decide +kernel
theorem pick_dep {ms : List Nat} (hm : Asc ms) (h64 : ∀ x ∈ ms, x < 64) (m : Nat) : pickL ms m = bitsL (depN ms m) := asc_ext (asc_pick m hm) (asc_bits _) fun x => by
  rw [mem_pick, mem_bits (depN_lt ms m h64), dep_bit]
theorem count_cuM {l : List Mc} {over : Nat} (hl : ∀ c ∈ l, McOk c) (ho : over < 256) : countC (l.map cuM) (bitsL over) = countM l over := by
  unfold countC countM
  rw [low8_bits ho]
  have h1 : (List.range (2 ^ (low8 over).length)).map (depN (low8 over)) = (List.range 256).filter fun s => s &&& over == s := by
    have := List.all_eq_true.1 dep_all over (List.mem_range.2 ho)
    exact eq_of_beq this
  have hA : Asc (low8 over) := by rw [← low8_bits ho]; exact asc_bits _
  have h64 : ∀ x ∈ low8 over, x < 64 := by rw [← low8_bits ho]; exact fun x hx => (mem_bitsL.1 hx).1
  have h2 : ∀ m, someC (l.map cuM) (pickL (low8 over) m) = someM l (depN (low8 over) m) := fun m => by
    rw [pick_dep hA h64, some_cuM hl (depN_lt _ _ h64)]
  have h3 : ((List.range (2 ^ (low8 over).length)).filter fun m => someC (l.map cuM) (pickL (low8 over) m)).length = (((List.range (2 ^ (low8 over).length)).map (depN (low8 over))).filter (someM l)).length := by
    rw [List.filter_map, List.length_map]
    congr 1
    apply List.filter_congr
    intro m _
    rw [h2]; rfl
  rw [h3, h1, List.filter_filter]
  congr 1
  apply List.filter_congr
  intro s _
  rw [Bool.and_comm]
end Go.Proofs.YtadomogbakcokaaGreatDoor
end

section
/- A region that asks the tape, walked in ONE order: one closed check of the whole region shows that any other order comes to the same. -/
namespace Go.Proofs.YtadomogbakcokaaGreatDoor
open Go
set_option linter.unusedVariables false
set_option linter.unusedSimpArgs false

section
variable {P : Program} {l : List Oper} {Q : Exit → Act → World → Prop} {S : World → Prop}

/-- Operations that yield a value and change nothing. -/
def lightOp (o : Oper) : Bool := match o.op with
  | .load .. => true
  | .move .. => true
  | .pick .. => true
  | .unOp .. => true
  | .binOp .. => true
  | .fieldAddr .. => true
  | .indexAddr .. => true
  | .build .. => true
  | .convert .. => true
  | .assign .. => true
  | .call c => match c.callee with
    | .builtin .len => true
    | .builtin .min => true
    | .builtin .max => true
    | _ => false
  | _ => false

def waitsOn (o : Oper) (l : List Nat) : Bool := o.after.toList.any fun e => Region.binds .any e && l.any fun x => Nat.beq x e.on
def paidBy (o : Oper) (l : List Nat) : Bool := o.after.toList.all fun e => !Region.binds .any e || l.any fun x => Nat.beq x e.on

theorem waitsOn_spec {o : Oper} {x : List Nat} : waitsOn o x = true ↔ ∃ e ∈ o.after, Region.binds .any e = true ∧ e.on ∈ x := by
  unfold waitsOn
  rw [List.any_eq_true]
  constructor
  · rintro ⟨e, he, h⟩
    rw [Bool.and_eq_true, List.any_eq_true] at h
    obtain ⟨hb, y, hy, h⟩ := h
    exact ⟨e, by simpa using he, hb, by rw [← Nat.eq_of_beq_eq_true h]; exact hy⟩
  · rintro ⟨e, he, hb, hy⟩
    refine ⟨e, by simpa using he, ?_⟩
    rw [Bool.and_eq_true, List.any_eq_true]
    exact ⟨hb, e.on, hy, Nat.beq_refl _⟩

theorem paidBy_spec {o : Oper} {x : List Nat} (h : paidBy o x = true) : ∀ e ∈ o.after, Region.binds .any e = true → e.on ∈ x := by
  unfold paidBy at h
  rw [List.all_eq_true] at h
  intro e he hb
  have := h e (by simpa using he)
  rw [hb, Bool.not_true, Bool.false_or, List.any_eq_true] at this
  obtain ⟨y, hy, h⟩ := this
  rw [← Nat.eq_of_beq_eq_true h]
  exact hy

theorem waitsOn_mono {o : Oper} {x y : List Nat} (h : ∀ i ∈ x, i ∈ y) (hw : waitsOn o x = true) : waitsOn o y = true := by
  obtain ⟨e, he, hb, hx⟩ := waitsOn_spec.1 hw
  exact waitsOn_spec.2 ⟨e, he, hb, h _ hx⟩

def orderOk (l : List Oper) : List Nat → List Nat → List Nat → Bool
  | _, _, [] => true
  | done, cur, i :: rest => match l[i]? with
    | none => false
    | some o => paidBy o done && (cur.isEmpty || waitsOn o cur) && !(rest.any fun j => Nat.beq j i) &&
      (match lightOp o with
       | true => (rest.all fun j => match l[j]? with
          | none => false
          | some oj => waitsOn oj [i] || o.apart l.toArray oj) && orderOk l (i :: done) (match cur.isEmpty with | true => [] | false => i :: cur) rest
       | false => orderOk l (i :: done) [i] rest)

theorem orderOk_cons {done cur : List Nat} {i : Nat} {rest : List Nat} (h : orderOk l done cur (i :: rest) = true) :
    ∃ o, l[i]? = some o ∧ (∀ e ∈ o.after, Region.binds .any e = true → e.on ∈ done) ∧ (cur = [] ∨ waitsOn o cur = true) ∧ i ∉ rest ∧
      ((lightOp o = true ∧ (∀ j ∈ rest, ∀ oj, l[j]? = some oj → waitsOn oj [i] = true ∨ o.apart l.toArray oj = true) ∧ orderOk l (i :: done) (match cur.isEmpty with | true => [] | false => i :: cur) rest = true) ∨
       (lightOp o = false ∧ orderOk l (i :: done) [i] rest = true)) := by
  unfold orderOk at h
  split at h
  · exact absurd h (by simp)
  · rename_i o ho
    rw [Bool.and_eq_true, Bool.and_eq_true, Bool.and_eq_true] at h
    obtain ⟨⟨⟨h1, h2⟩, h3⟩, h4⟩ := h
    refine ⟨o, ho, paidBy_spec h1, ?_, ?_, ?_⟩
    · rw [Bool.or_eq_true] at h2
      exact h2.imp (fun h => List.isEmpty_iff.1 h) id
    · intro hi
      rw [Bool.not_eq_true', List.any_eq_false] at h3
      exact h3 i hi (Nat.beq_refl _)
    · cases hl : lightOp o with
      | true =>
        rw [hl] at h4
        simp only [Bool.and_eq_true, List.all_eq_true] at h4
        refine .inl ⟨rfl, fun j hj oj hoj => ?_, h4.2⟩
        have := h4.1 j hj
        rw [hoj] at this
        simpa using this
      | false =>
        rw [hl] at h4
        exact .inr ⟨rfl, h4⟩

theorem order_wait {X : List Nat} : ∀ (L done cur : List Nat), orderOk l done cur L = true → cur ≠ [] → (∀ x ∈ cur, x ∈ X) → (∀ x ∈ L, x ∈ X) →
    ∀ j ∈ L, ∀ oj, l[j]? = some oj → waitsOn oj X = true := by
  intro L
  induction L with
  | nil => intro _ _ _ _ _ _ j hj; cases hj
  | cons i rest ih =>
    intro done cur h hne hc hL j hj oj hoj
    obtain ⟨o, ho, hp, hw, hni, hh⟩ := orderOk_cons h
    rcases List.mem_cons.1 hj with rfl | hj
    · have : oj = o := by rw [ho] at hoj; exact (Option.some.inj hoj).symm
      subst this
      rcases hw with hw | hw
      · exact absurd hw hne
      · exact waitsOn_mono hc hw
    · have hX : ∀ x ∈ rest, x ∈ X := fun x hx => hL x (List.mem_cons_of_mem _ hx)
      have hiX : i ∈ X := hL i (List.mem_cons_self ..)
      rcases hh with ⟨-, -, h'⟩ | ⟨-, h'⟩
      · cases cur with
        | nil => exact absurd rfl hne
        | cons c cs =>
          refine ih _ _ h' (by simp) ?_ hX j hj oj hoj
          intro x hx
          rcases List.mem_cons.1 hx with rfl | hx
          · exact hiX
          · exact hc x hx
      · refine ih _ _ h' (by simp) ?_ hX j hj oj hoj
        intro x hx
        rw [List.mem_singleton] at hx
        rw [hx]; exact hiX

/-- The operations in the given order: a light one yields its value from S; behind any other S is shown anew. -/
def wpOrd (P : Program) (l : List Oper) (Q : Exit → Act → World → Prop) (S : World → Prop) : List Nat → Act → World → Prop
  | [], a, w => Q .normal a w
  | i :: rest, a, w => match l[i]? with
    | none => True
    | some o => match lightOp o with
      | true => ∃ v, YieldsIf P l.toArray S o v a ∧ wpOrd P l Q S rest (a.put o.dst v) w
      | false => wpOp P l.toArray Q i (fun a' w' => S w' ∧ wpOrd P l Q S rest a' w') a w

theorem ord_nil {a : Act} {w : World} (h : Q .normal a w) : wpOrd P l Q S [] a w := h

theorem ord_light {i : Nat} {o : Oper} {rest : List Nat} {a : Act} {w : World} {v : Value} (ho : l[i]? = some o) (hl : lightOp o = true)
    (hw : Region.wanted o (yielded l.toArray a.tmps) = true) (hv : ∀ w, S w → (execOp a.eval o).run P w = .ok (.value v) w)
    (h : wpOrd P l Q S rest (a.put o.dst v) w) : wpOrd P l Q S (i :: rest) a w := by
  unfold wpOrd
  rw [ho]
  show (match lightOp o with
      | true => ∃ v, YieldsIf P l.toArray S o v a ∧ wpOrd P l Q S rest (a.put o.dst v) w
      | false => wpOp P l.toArray Q i (fun a' w' => S w' ∧ wpOrd P l Q S rest a' w') a w)
  rw [hl]
  exact ⟨v, .inl ⟨hw, hv⟩, h⟩

/-- A light operation that its guard leaves out. -/
theorem ord_skip {i : Nat} {o : Oper} {rest : List Nat} {a : Act} {w : World} (ho : l[i]? = some o) (hl : lightOp o = true)
    (hw : Region.wanted o (yielded l.toArray a.tmps) = false)
    (h : wpOrd P l Q S rest (a.put o.dst undef) w) : wpOrd P l Q S (i :: rest) a w := by
  unfold wpOrd
  rw [ho]
  show (match lightOp o with
      | true => ∃ v, YieldsIf P l.toArray S o v a ∧ wpOrd P l Q S rest (a.put o.dst v) w
      | false => wpOp P l.toArray Q i (fun a' w' => S w' ∧ wpOrd P l Q S rest a' w') a w)
  rw [hl]
  exact ⟨undef, .inr ⟨hw, rfl⟩, h⟩

theorem ord_heavy {i : Nat} {o : Oper} {rest : List Nat} {a : Act} {w : World} (ho : l[i]? = some o) (hl : lightOp o = false)
    (h : ∀ K' : Act → World → Prop, Shut (∀ a w, S w → wpOrd P l Q S rest a w → K' a w) → if Region.wanted o (yielded l.toArray a.tmps) = true then Oper.wp P o a w K' Q else K' (a.put o.dst undef) w) :
    wpOrd P l Q S (i :: rest) a w := by
  unfold wpOrd
  rw [ho]
  show (match lightOp o with
      | true => ∃ v, YieldsIf P l.toArray S o v a ∧ wpOrd P l Q S rest (a.put o.dst v) w
      | false => wpOp P l.toArray Q i (fun a' w' => S w' ∧ wpOrd P l Q S rest a' w') a w)
  rw [hl]
  exact wpOp_step (by simpa using ho) (fun K' hK => h K' (fun a w hS hW => hK a w ⟨hS, hW⟩))

theorem getD_set_self {listed : Array Bool} {i : Nat} : (listed.setIfInBounds i true).getD i true = true := by
  by_cases h : i < listed.size
  · simp [Array.getD, h]
  · simp [Array.getD, h]

theorem getD_in {listed : Array Bool} {i : Nat} (h : listed.getD i true = false) : (listed.setIfInBounds i true).getD i false = true := by
  by_cases h' : i < listed.size
  · simp [Array.getD, h']
  · simp [Array.getD, h'] at h

theorem getD_not {listed : Array Bool} {i : Nat} (h : listed.getD i true = false) : ¬ listed.getD i false = true := by
  by_cases h' : i < listed.size
  · simp [Array.getD, h'] at h ⊢; exact h
  · simp [Array.getD, h'] at h

theorem any_of_ord (hsel : Region.noSelect l.toArray = true) (hQ : ∀ c a d v w, Q (.panic c) (a.put d v) w → Q (.panic c) a w) :
    ∀ (L done cur : List Nat) (listed : Array Bool) (a : Act) (w : World), orderOk l done cur L = true →
      (∀ j, listed.getD j true = false ↔ j ∈ L) → (∀ j ∈ done, listed.getD j false = true) → S w →
      wpOrd P l Q S L a w → wpAnyH P .any l.toArray Q S L.length listed a w := by
  intro L
  induction L with
  | nil =>
    intro done cur listed a w _ hr _ _ h
    refine wpAnyH_done ?_ h _
    rw [List.eq_nil_iff_forall_not_mem]
    intro j hj
    have := (hr j).1 (mem_ready.1 hj).1
    cases this
  | cons i rest ih =>
    intro done cur listed a w hok hr hd hS h
    obtain ⟨o, ho, hp, hw, hni, hh⟩ := orderOk_cons hok
    have hoA : l.toArray[i]? = some o := by simpa using ho
    have hi0 : listed.getD i true = false := (hr i).2 (List.mem_cons_self ..)
    have hready : i ∈ Region.ready .any l.toArray listed := mem_ready.2 ⟨hi0, o, hoA, fun e he hb => hd _ (hp e he hb)⟩
    have hr' : ∀ j, (listed.setIfInBounds i true).getD j true = false ↔ j ∈ rest := by
      intro j
      by_cases hij : i = j
      · subst hij
        rw [getD_set_self]
        exact ⟨fun h => (by cases h), fun h => absurd h hni⟩
      · rw [getD_set_ne true hij, hr j, List.mem_cons]
        exact ⟨fun h => h.resolve_left (fun h => hij h.symm), .inr⟩
    have hd' : ∀ j ∈ i :: done, (listed.setIfInBounds i true).getD j false = true := by
      intro j hj
      rcases List.mem_cons.1 hj with rfl | hj
      · exact getD_in hi0
      · exact getD_set_true (hd j hj)
    unfold wpOrd at h
    rw [ho] at h
    rcases hh with ⟨hl, hfree, hrest⟩ | ⟨hl, hrest⟩
    · simp only [hl] at h
      obtain ⟨v, hy, h⟩ := h
      refine wpAnyH_first hoA (Region.noSelect_spec hsel) (fun c a w => hQ c a _ v w) rest.length listed a w ?_ hready hy hS (ih _ _ _ _ _ hrest hr' hd' hS h)
      intro j oj hoj hji hun hno
      have hj : j ∈ rest := by
        have := (hr j).1 hun
        exact (List.mem_cons.1 this).resolve_left hji
      rcases hfree j hj oj (by simpa using hoj) with hwt | hap
      · obtain ⟨e, he, hb, hx⟩ := waitsOn_spec.1 hwt
        exact absurd (List.mem_singleton.1 hx) (hno e he hb)
      · exact hap
    · simp only [hl] at h
      refine ⟨fun h0 => (by rw [h0] at hready; cases hready), fun j hj => ?_⟩
      have hjeq : j = i := by
        obtain ⟨hj0, oj, hoj, hall⟩ := mem_ready.1 hj
        by_cases hji : j = i
        · exact hji
        · exfalso
          have hjr : j ∈ rest := (List.mem_cons.1 ((hr j).1 hj0)).resolve_left hji
          have hwt := order_wait (X := i :: rest) rest _ _ hrest (by simp) (fun x hx => by rw [List.mem_singleton] at hx; rw [hx]; exact List.mem_cons_self ..)
            (fun x hx => List.mem_cons_of_mem _ hx) j hjr oj (by simpa using hoj)
          obtain ⟨e, he, hb, hx⟩ := waitsOn_spec.1 hwt
          exact getD_not ((hr e.on).2 hx) (hall e he hb)
      subst hjeq
      exact wpOp_mono (fun a' w' h' => ⟨h'.1, ih _ _ _ _ _ hrest hr' hd' h'.1 h'.2⟩) h

/-- The closed check of the whole region. -/
def regionOk (l : List Oper) (order : List Nat) : Bool :=
  orderOk l [] [] order && Region.noSelect l.toArray && Nat.beq order.length l.length && (List.range l.length).all fun i => order.any fun j => Nat.beq j i

theorem orderOk_lt : ∀ (L done cur : List Nat), orderOk l done cur L = true → ∀ j ∈ L, j < l.length := by
  intro L
  induction L with
  | nil => intro _ _ _ j hj; cases hj
  | cons i rest ih =>
    intro done cur h j hj
    obtain ⟨o, ho, -, -, -, hh⟩ := orderOk_cons h
    rcases List.mem_cons.1 hj with rfl | hj
    · exact (List.getElem?_eq_some_iff.1 ho).1
    · rcases hh with ⟨-, -, h'⟩ | ⟨-, h'⟩
      · exact ih _ _ h' j hj
      · exact ih _ _ h' j hj

theorem region_ord {id : Nat} {a : Act} {w : World} (order : List Nat) (hm : P.follows .mixedOrders = true) (hok : regionOk l order = true)
    (hQ : ∀ c a d v w, Q (.panic c) (a.put d v) w → Q (.panic c) a w) (hS : S w.drew) (h : S w.drew → wpOrd P l Q S order a w.drew) :
    (Code.region id l.toArray true).wp P Q a w := by
  unfold regionOk at hok
  rw [Bool.and_eq_true, Bool.and_eq_true, Bool.and_eq_true] at hok
  obtain ⟨⟨⟨h1, h2⟩, h3⟩, h4⟩ := hok
  refine wp_region_held (S := S) hm ?_
  have hlen : l.toArray.size = order.length := by
    rw [List.size_toArray]; exact (Nat.eq_of_beq_eq_true h3).symm
  rw [hlen]
  refine any_of_ord h2 hQ order [] [] _ a _ h1 ?_ (fun j hj => by cases hj) hS (h hS)
  intro j
  rw [← hlen, List.size_toArray]
  constructor
  · intro hj
    have hlt : j < l.length := by
      by_cases hlt : j < l.length
      · exact hlt
      · simp [Array.getD, hlt] at hj
    rw [List.all_eq_true] at h4
    have := h4 j (List.mem_range.2 hlt)
    rw [List.any_eq_true] at this
    obtain ⟨y, hy, he⟩ := this
    rw [← Nat.eq_of_beq_eq_true he]; exact hy
  · intro hj
    have hlt := orderOk_lt order [] [] h1 j hj
    simp [Array.getD, hlt]
end
end Go.Proofs.YtadomogbakcokaaGreatDoor
end
