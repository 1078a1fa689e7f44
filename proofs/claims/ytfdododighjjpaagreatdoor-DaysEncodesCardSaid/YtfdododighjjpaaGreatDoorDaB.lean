/- Days, in plain words: what the steps of join, And and Not keep. No program in sight. -/
import Derived.Test.YtfdododighjjpaaGreatDoorDaSpec
namespace Go.Proofs.YtfdododighjjpaaGreatDoor.Dy
set_option linter.unusedVariables false

theorem bool_ext {a b : Bool} (h : a = true ↔ b = true) : a = b := by cases a <;> cases b <;> simp_all
theorem dm_cons_iff {p : Int × Int} {l : List (Int × Int)} {d : Int} : Dm (p :: l) d = true ↔ (p.1 ≤ d ∧ d ≤ p.2) ∨ Dm l d = true := by
  rw [dm_cons, Bool.or_eq_true, Bool.and_eq_true, decide_eq_true_eq, decide_eq_true_eq]
theorem dm_app_iff {l r : List (Int × Int)} {d : Int} : Dm (l ++ r) d = true ↔ Dm l d = true ∨ Dm r d = true := by
  rw [dm_append, Bool.or_eq_true]
theorem dm_snoc_iff {p : Int × Int} {l : List (Int × Int)} {d : Int} : Dm (l ++ [p]) d = true ↔ Dm l d = true ∨ (p.1 ≤ d ∧ d ≤ p.2) := by
  rw [dm_app_iff, dm_cons_iff, dm_nil]; simp
theorem dm_not {l : List (Int × Int)} {d : Int} (h : ∀ p ∈ l, d < p.1) : ¬ Dm l d = true := by
  intro e
  obtain ⟨p, hp, h1, h2⟩ := dm_iff.1 e
  have := h p hp
  omega
theorem dm_perm {l r : List (Int × Int)} (h : l.Perm r) (d : Int) : Dm l d = Dm r d := by
  unfold Dm; exact h.any_eq
theorem can_init {p : Int × Int} {l : List (Int × Int)} (h : Can (l ++ [p])) : Can l ∧ Okp p ∧ ∀ q ∈ l, q.2 + 1 < p.1 := by
  obtain ⟨h1, h2⟩ := h
  rw [List.pairwise_append] at h2
  exact ⟨⟨fun q hq => h1 q (List.mem_append_left _ hq), h2.1⟩, h1 p (by simp), fun q hq => h2.2.2 q hq p (by simp)⟩

/-- One step of And. -/
structure AndI (l r acc l' r' : List (Int × Int)) : Prop where
  ca : Can acc
  cl : Can l'
  cr : Can r'
  gap : ∀ p ∈ acc, (∀ x ∈ l', p.2 + 1 < x.1) ∨ (∀ y ∈ r', p.2 + 1 < y.1)
  mem : ∀ d, (Dm acc d = true ∨ (Dm l' d = true ∧ Dm r' d = true)) ↔ (Dm l d = true ∧ Dm r d = true)
theorem AndI.start {l r : List (Int × Int)} (hl : Can l) (hr : Can r) : AndI l r [] l r :=
  ⟨can_nil, hl, hr, fun p hp => (by cases hp), fun d => by simp⟩
theorem AndI.stop {l r acc l' r' : List (Int × Int)} (h : AndI l r acc l' r') (he : l' = [] ∨ r' = []) : Can acc ∧ ∀ d, Dm acc d = (Dm l d && Dm r d) := by
  refine ⟨h.ca, fun d => bool_ext ?_⟩
  rw [Bool.and_eq_true, ← h.mem d]
  rcases he with rfl | rfl <;> simp
theorem AndI.put {l r acc l' r' : List (Int × Int)} {a b : Int × Int} (h : AndI l r acc (a :: l') (b :: r')) (hx : max a.1 b.1 ≤ min a.2 b.2) : Can (acc ++ [(max a.1 b.1, min a.2 b.2)]) := by
  have ha := h.cl.head
  have hb := h.cr.head
  unfold Okp at ha hb
  refine can_snoc (by unfold Okp; dsimp only; omega) h.ca fun q hq => ?_
  dsimp only
  rcases h.gap q hq with g | g
  · have := g a (List.mem_cons_self ..); omega
  · have := g b (List.mem_cons_self ..); omega
theorem AndI.left {l r acc l' r' : List (Int × Int)} {a b : Int × Int} (h : AndI l r acc (a :: l') (b :: r')) (hlt : a.2 < b.2) :
    AndI l r (if max a.1 b.1 ≤ min a.2 b.2 then acc ++ [(max a.1 b.1, min a.2 b.2)] else acc) l' (b :: r') := by
  have ha := h.cl.head
  have hb := h.cr.head
  unfold Okp at ha hb
  have hpost : ∀ d, a.2 ≥ d → ¬ Dm r' d = true := fun d hd => dm_not fun p hp => by have := h.cr.after p hp; omega
  refine ⟨?_, h.cl.tail, h.cr, ?_, fun d => ?_⟩
  · split
    · exact h.put ‹_›
    · exact h.ca
  · intro p hp
    split at hp
    · rcases List.mem_append.1 hp with hp | hp
      · rcases h.gap p hp with g | g
        · exact .inl fun x hx => g x (List.mem_cons_of_mem _ hx)
        · exact .inr g
      · rw [List.mem_singleton.1 hp]
        exact .inl fun x hx => by have := h.cl.after x hx; dsimp only; omega
    · rcases h.gap p hp with g | g
      · exact .inl fun x hx => g x (List.mem_cons_of_mem _ hx)
      · exact .inr g
  · rw [← h.mem d, dm_cons_iff (p := a), dm_cons_iff (p := b)]
    have h1 := hpost d
    split
    · rw [dm_snoc_iff]
      dsimp only
      constructor
      · rintro ((e | e) | ⟨e1, e2⟩)
        · exact .inl e
        · exact .inr ⟨.inl (by omega), .inl (by omega)⟩
        · exact .inr ⟨.inr e1, e2⟩
      · rintro (e | ⟨e1 | e1, e2 | e2⟩)
        · exact .inl (.inl e)
        · exact .inl (.inr (by omega))
        · exact absurd e2 (h1 (by omega))
        · exact .inr ⟨e1, .inl e2⟩
        · exact .inr ⟨e1, .inr e2⟩
    · constructor
      · rintro (e | ⟨e1, e2⟩)
        · exact .inl e
        · exact .inr ⟨.inr e1, e2⟩
      · rintro (e | ⟨e1 | e1, e2 | e2⟩)
        · exact .inl e
        · omega
        · exact absurd e2 (h1 (by omega))
        · exact .inr ⟨e1, .inl e2⟩
        · exact .inr ⟨e1, .inr e2⟩
theorem AndI.right {l r acc l' r' : List (Int × Int)} {a b : Int × Int} (h : AndI l r acc (a :: l') (b :: r')) (hlt : ¬ a.2 < b.2) :
    AndI l r (if max a.1 b.1 ≤ min a.2 b.2 then acc ++ [(max a.1 b.1, min a.2 b.2)] else acc) (a :: l') r' := by
  have ha := h.cl.head
  have hb := h.cr.head
  unfold Okp at ha hb
  have hpost : ∀ d, b.2 ≥ d → ¬ Dm l' d = true := fun d hd => dm_not fun p hp => by have := h.cl.after p hp; omega
  refine ⟨?_, h.cl, h.cr.tail, ?_, fun d => ?_⟩
  · split
    · exact h.put ‹_›
    · exact h.ca
  · intro p hp
    split at hp
    · rcases List.mem_append.1 hp with hp | hp
      · rcases h.gap p hp with g | g
        · exact .inl g
        · exact .inr fun x hx => g x (List.mem_cons_of_mem _ hx)
      · rw [List.mem_singleton.1 hp]
        exact .inr fun x hx => by have := h.cr.after x hx; dsimp only; omega
    · rcases h.gap p hp with g | g
      · exact .inl g
      · exact .inr fun x hx => g x (List.mem_cons_of_mem _ hx)
  · rw [← h.mem d, dm_cons_iff (p := a), dm_cons_iff (p := b)]
    have h1 := hpost d
    split
    · rw [dm_snoc_iff]
      dsimp only
      constructor
      · rintro ((e | e) | ⟨e1, e2⟩)
        · exact .inl e
        · exact .inr ⟨.inl (by omega), .inl (by omega)⟩
        · exact .inr ⟨e1, .inr e2⟩
      · rintro (e | ⟨e1 | e1, e2 | e2⟩)
        · exact .inl (.inl e)
        · exact .inl (.inr (by omega))
        · exact .inr ⟨.inl e1, e2⟩
        · exact absurd e1 (h1 (by omega))
        · exact .inr ⟨.inr e1, e2⟩
    · constructor
      · rintro (e | ⟨e1, e2⟩)
        · exact .inl e
        · exact .inr ⟨e1, .inr e2⟩
      · rintro (e | ⟨e1 | e1, e2 | e2⟩)
        · exact .inl e
        · omega
        · exact .inr ⟨.inl e1, e2⟩
        · exact absurd e1 (h1 (by omega))
        · exact .inr ⟨.inr e1, e2⟩

/-- One step of Not. -/
structure NotI (l acc : List (Int × Int)) (f : Int) (l' : List (Int × Int)) : Prop where
  ca : Can acc
  cl : Can l'
  lo : 0 ≤ f ∧ f ≤ 30001
  gap : ∀ p ∈ acc, p.2 + 1 < f
  ge : ∀ x ∈ l', f ≤ x.1
  mem : ∀ d, Dm acc d = true ↔ (0 ≤ d ∧ d < f ∧ ¬ Dm l d = true)
  rest : ∀ d, f ≤ d → (Dm l d = true ↔ Dm l' d = true)
theorem NotI.start {l : List (Int × Int)} (hl : Can l) : NotI l [] 0 l :=
  ⟨can_nil, hl, by omega, fun p hp => (by cases hp), fun x hx => (hl.1 x hx).1, fun d => by simp; omega, fun d _ => Iff.rfl⟩
theorem NotI.step {l acc l' : List (Int × Int)} {f : Int} {x : Int × Int} (h : NotI l acc f (x :: l')) :
    NotI l (if f < x.1 then acc ++ [(f, x.1 - 1)] else acc) (x.2 + 1) l' := by
  have hx := h.cl.head
  unfold Okp at hx
  have hlo := h.lo
  have hge := h.ge x (List.mem_cons_self ..)
  have hin : ∀ d, f ≤ d → d ≤ x.2 → (Dm l d = true ↔ x.1 ≤ d) := fun d h1 h2 => by
    rw [h.rest d h1, dm_cons_iff]
    have : ¬ Dm l' d = true := dm_not fun p hp => by have := h.cl.after p hp; omega
    constructor
    · rintro (e | e)
      · exact e.1
      · exact absurd e this
    · intro e; exact .inl ⟨e, h2⟩
  refine ⟨?_, h.cl.tail, by omega, ?_, fun y hy => by have := h.cl.after y hy; omega, fun d => ?_, fun d hd => ?_⟩
  · split
    · refine can_snoc (by unfold Okp; dsimp only; omega) h.ca fun q hq => ?_
      have := h.gap q hq
      dsimp only; omega
    · exact h.ca
  · intro p hp
    split at hp
    · rcases List.mem_append.1 hp with hp | hp
      · have := h.gap p hp; omega
      · rw [List.mem_singleton.1 hp]; dsimp only; omega
    · have := h.gap p hp; omega
  · have hm := h.mem d
    have hi := hin d
    split
    · rw [dm_snoc_iff, hm]
      dsimp only
      constructor
      · rintro (⟨e1, e2, e3⟩ | e)
        · exact ⟨e1, by omega, e3⟩
        · exact ⟨by omega, by omega, fun k => by have := (hi (by omega) (by omega)).1 k; omega⟩
      · rintro ⟨e1, e2, e3⟩
        by_cases hd : d < f
        · exact .inl ⟨e1, hd, e3⟩
        · refine .inr ⟨by omega, ?_⟩
          apply Int.not_lt.1
          intro k
          exact e3 ((hi (by omega) (by omega)).2 (by omega))
    · rw [hm]
      constructor
      · rintro ⟨e1, e2, e3⟩; exact ⟨e1, by omega, e3⟩
      · rintro ⟨e1, e2, e3⟩
        refine ⟨e1, ?_, e3⟩
        apply Int.not_le.1
        intro k
        exact e3 ((hi k (by omega)).2 (by omega))
  · rw [h.rest d (by omega), dm_cons_iff]
    constructor
    · rintro (e | e)
      · omega
      · exact e
    · exact .inr
theorem NotI.stop {l acc : List (Int × Int)} {f : Int} (h : NotI l acc f []) :
    Can (if f ≤ 30000 then acc ++ [(f, 30000)] else acc) ∧ ∀ d, Dm (if f ≤ 30000 then acc ++ [(f, 30000)] else acc) d = (inD d && !Dm l d) := by
  have hlo := h.lo
  constructor
  · split
    · exact can_snoc (by unfold Okp; dsimp only; omega) h.ca fun q hq => h.gap q hq
    · exact h.ca
  · intro d
    apply bool_ext
    rw [Bool.and_eq_true, inD_iff, Bool.not_eq_true', ← Bool.not_eq_true]
    have hm := h.mem d
    have hr := h.rest d
    split
    · rw [dm_snoc_iff, hm]
      dsimp only
      constructor
      · rintro (⟨e1, e2, e3⟩ | e)
        · exact ⟨by omega, e3⟩
        · exact ⟨by omega, fun k => by have := (hr (by omega)).1 k; simp at this⟩
      · rintro ⟨e1, e2⟩
        by_cases hd : d < f
        · exact .inl ⟨by omega, hd, e2⟩
        · exact .inr (by omega)
    · rw [hm]
      constructor
      · rintro ⟨e1, e2, e3⟩; exact ⟨by omega, e3⟩
      · rintro ⟨e1, e2⟩; exact ⟨by omega, by omega, e2⟩

/-- One step of join: ys is sorted by From. -/
structure JoinI (ys acc rest : List (Int × Int)) : Prop where
  ca : Can acc
  ok : ∀ x ∈ rest, Okp x
  so : rest.Pairwise fun p q => p.1 ≤ q.1
  le : ∀ p ∈ acc, ∀ x ∈ rest, p.1 ≤ x.1
  mem : ∀ d, (Dm acc d = true ∨ Dm rest d = true) ↔ Dm ys d = true
theorem JoinI.start {ys : List (Int × Int)} (h : ∀ x ∈ ys, Okp x) (hs : ys.Pairwise fun p q => p.1 ≤ q.1) : JoinI ys [] ys :=
  ⟨can_nil, h, hs, fun p hp => (by cases hp), fun d => by simp⟩
theorem JoinI.stop {ys acc : List (Int × Int)} (h : JoinI ys acc []) : Can acc ∧ ∀ d, Dm acc d = Dm ys d :=
  ⟨h.ca, fun d => bool_ext (by rw [← h.mem d]; simp)⟩
theorem JoinI.first {ys rest : List (Int × Int)} {x : Int × Int} (h : JoinI ys [] (x :: rest)) : JoinI ys [x] rest := by
  have hx := h.ok x (List.mem_cons_self ..)
  have hs := List.pairwise_cons.1 h.so
  refine ⟨can_cons hx can_nil (fun q hq => (by cases hq)), fun y hy => h.ok y (List.mem_cons_of_mem _ hy), hs.2, ?_, fun d => ?_⟩
  · intro p hp y hy
    rw [List.mem_singleton.1 hp]; exact hs.1 y hy
  · rw [← h.mem d, dm_cons_iff (l := rest), dm_cons_iff]; simp
theorem JoinI.merge {ys acc rest : List (Int × Int)} {p x : Int × Int} (h : JoinI ys (acc ++ [p]) (x :: rest)) (hm : x.1 ≤ p.2 + 1) :
    JoinI ys (acc ++ [(p.1, max p.2 x.2)]) rest := by
  have hx := h.ok x (List.mem_cons_self ..)
  have hs := List.pairwise_cons.1 h.so
  obtain ⟨c1, c2, c3⟩ := can_init h.ca
  have hpx := h.le p (by simp) x (List.mem_cons_self ..)
  unfold Okp at hx c2
  refine ⟨can_snoc (by unfold Okp; dsimp only; omega) c1 (by dsimp only; exact c3), fun y hy => h.ok y (List.mem_cons_of_mem _ hy), hs.2, ?_, fun d => ?_⟩
  · intro q hq y hy
    rcases List.mem_append.1 hq with hq | hq
    · exact h.le q (List.mem_append_left _ hq) y (List.mem_cons_of_mem _ hy)
    · rw [List.mem_singleton.1 hq]
      exact h.le p (by simp) y (List.mem_cons_of_mem _ hy)
  · rw [← h.mem d, dm_cons_iff, dm_snoc_iff, dm_snoc_iff]
    dsimp only
    constructor
    · rintro ((e | e) | e)
      · exact .inl (.inl e)
      · by_cases hd : d ≤ p.2
        · exact .inl (.inr ⟨e.1, hd⟩)
        · exact .inr (.inl (by omega))
      · exact .inr (.inr e)
    · rintro ((e | e) | e | e)
      · exact .inl (.inl e)
      · exact .inl (.inr (by omega))
      · exact .inl (.inr (by omega))
      · exact .inr e
theorem JoinI.next {ys acc rest : List (Int × Int)} {p x : Int × Int} (h : JoinI ys (acc ++ [p]) (x :: rest)) (hm : ¬ x.1 ≤ p.2 + 1) :
    JoinI ys ((acc ++ [p]) ++ [x]) rest := by
  have hx := h.ok x (List.mem_cons_self ..)
  have hs := List.pairwise_cons.1 h.so
  obtain ⟨c1, c2, c3⟩ := can_init h.ca
  unfold Okp at c2
  refine ⟨can_snoc hx h.ca fun q hq => ?_, fun y hy => h.ok y (List.mem_cons_of_mem _ hy), hs.2, ?_, fun d => ?_⟩
  · rcases List.mem_append.1 hq with hq | hq
    · have := c3 q hq; omega
    · rw [List.mem_singleton.1 hq]; omega
  · intro q hq y hy
    rcases List.mem_append.1 hq with hq | hq
    · exact h.le q hq y (List.mem_cons_of_mem _ hy)
    · rw [List.mem_singleton.1 hq]; exact hs.1 y hy
  · rw [← h.mem d, dm_cons_iff, dm_snoc_iff (p := x), or_assoc]

/-- One step of the reference's Spans: the flags below k. -/
structure SpI (S : Int → Bool) (acc : List (Int × Int)) (k : Nat) : Prop where
  ca : Can acc
  lt : ∀ p ∈ acc, p.2 < k
  mem : ∀ d : Int, Dm acc d = true ↔ (0 ≤ d ∧ d < k ∧ S d = true)
theorem SpI.start (S : Int → Bool) : SpI S [] 0 := ⟨can_nil, fun p hp => (by cases hp), fun d => by simp; omega⟩
theorem SpI.skip {S : Int → Bool} {acc : List (Int × Int)} {k : Nat} (h : SpI S acc k) (hk : S k = false) : SpI S acc (k + 1) := by
  refine ⟨h.ca, fun p hp => by have := h.lt p hp; omega, fun d => ?_⟩
  rw [h.mem d]
  constructor
  · rintro ⟨e1, e2, e3⟩; exact ⟨e1, by omega, e3⟩
  · rintro ⟨e1, e2, e3⟩
    refine ⟨e1, ?_, e3⟩
    have : d ≠ k := by rintro rfl; rw [hk] at e3; cases e3
    omega
theorem SpI.new {S : Int → Bool} {acc : List (Int × Int)} {k : Nat} (h : SpI S acc k) (hk : S k = true) (hp : k = 0 ∨ S ((k : Int) - 1) = false) (h3 : k ≤ 30000) : SpI S (acc ++ [((k : Int), (k : Int))]) (k + 1) := by
  refine ⟨can_snoc (by unfold Okp; dsimp only; omega) h.ca fun q hq => ?_, fun p hp => ?_, fun d => ?_⟩
  · have h1 := h.lt q hq
    dsimp only
    have hq1 := h.ca.1 q hq
    unfold Okp at hq1
    have h2 := (h.mem q.2).1 (dm_iff.2 ⟨q, hq, by omega, by omega⟩)
    have : q.2 ≠ (k : Int) - 1 := by
      rintro e
      rcases hp with hp | hp
      · omega
      · rw [← e, h2.2.2] at hp; cases hp
    omega
  · rcases List.mem_append.1 hp with hp | hp
    · have := h.lt p hp; omega
    · rw [List.mem_singleton.1 hp]; dsimp only; omega
  · rw [dm_snoc_iff, h.mem d]
    dsimp only
    constructor
    · rintro (⟨e1, e2, e3⟩ | e)
      · exact ⟨e1, by omega, e3⟩
      · obtain rfl : d = k := by omega
        exact ⟨by omega, by omega, hk⟩
    · rintro ⟨e1, e2, e3⟩
      by_cases hd : d < k
      · exact .inl ⟨e1, hd, e3⟩
      · exact .inr (by omega)
theorem SpI.more {S : Int → Bool} {acc : List (Int × Int)} {k : Nat} (h : SpI S acc k) (hk : S k = true) (h0 : 0 < k) (hp : S ((k : Int) - 1) = true) (h3 : k ≤ 30000) :
    ∃ acc' a, acc = acc' ++ [(a, (k : Int) - 1)] ∧ SpI S (acc' ++ [(a, (k : Int))]) (k + 1) := by
  obtain ⟨q, hq, q1, q2⟩ := dm_iff.1 ((h.mem ((k : Int) - 1)).2 ⟨by omega, by omega, hp⟩)
  have hq3 := h.lt q hq
  rcases List.eq_nil_or_concat acc with rfl | ⟨acc', p, hc⟩
  · cases hq
  rw [List.concat_eq_append] at hc
  subst hc
  obtain ⟨c1, c2, c3⟩ := can_init h.ca
  have hpl := h.lt p (by simp)
  unfold Okp at c2
  have hqp : q = p := by
    rcases List.mem_append.1 hq with hq | hq
    · have := c3 q hq; omega
    · exact List.mem_singleton.1 hq
  subst hqp
  obtain ⟨a, b⟩ := q
  dsimp only at *
  obtain rfl : b = (k : Int) - 1 := by omega
  refine ⟨acc', a, rfl, can_snoc (by unfold Okp; dsimp only; omega) c1 c3, fun p hp => ?_, fun d => ?_⟩
  · rcases List.mem_append.1 hp with hp | hp
    · have := h.lt p (List.mem_append_left _ hp); omega
    · rw [List.mem_singleton.1 hp]; dsimp only; omega
  · have hm := h.mem d
    rw [dm_snoc_iff] at hm ⊢
    dsimp only at hm ⊢
    by_cases hd : d = k
    · subst hd
      constructor
      · intro _; exact ⟨by omega, by omega, hk⟩
      · intro _; exact .inr (by omega)
    · rw [show (a ≤ d ∧ d ≤ (k : Int)) ↔ (a ≤ d ∧ d ≤ (k : Int) - 1) from by omega, hm]
      constructor
      · rintro ⟨e1, e2, e3⟩; exact ⟨e1, by omega, e3⟩
      · rintro ⟨e1, e2, e3⟩; exact ⟨e1, by omega, e3⟩
theorem SpI.stop {S : Int → Bool} {acc : List (Int × Int)} (h : SpI S acc 30001) : Can acc ∧ ∀ d, Dm acc d = (inD d && S d) :=
  ⟨h.ca, fun d => bool_ext (by
    rw [h.mem d, Bool.and_eq_true, inD_iff]
    constructor
    · rintro ⟨e1, e2, e3⟩; exact ⟨by omega, e3⟩
    · rintro ⟨e1, e2⟩; exact ⟨by omega, by omega, e2⟩)⟩
end Go.Proofs.YtfdododighjjpaaGreatDoor.Dy
