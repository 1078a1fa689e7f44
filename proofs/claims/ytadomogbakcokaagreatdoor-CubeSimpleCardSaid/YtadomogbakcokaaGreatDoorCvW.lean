/- Plain: what the reference's Simple computes is what the program's Simple computes; the roles of all literals. -/
import Derived.Test.YtadomogbakcokaaGreatDoorCvS
namespace Go.Proofs.YtadomogbakcokaaGreatDoor
open Go.RowKit Go.PlainAid
set_option linter.unusedVariables false
set_option linter.unusedSimpArgs false

/-- The reference's mark of the cube c at place i, after k cubes. -/
def keepN (l : List Mc) (i : Nat) (c : Mc) : Nat → Bool
  | 0 => !emptyM c
  | k + 1 => match l[k]? with
    | none => keepN l i c k
    | some d => if emptyM d || !withinM c d then keepN l i c k else if !withinM d c || decide (k < i) then false else keepN l i c k
def lessM (c d : Mc) : Bool := decide (cmpC (cuM d) (cuM c) < 0)
def insM (out : List Mc) (c : Mc) : List Mc := out.takeWhile (lessM c) ++ c :: out.dropWhile (lessM c)
def simpN (l : List Mc) : Nat → List Mc
  | 0 => []
  | n + 1 => match l[n]? with
    | none => simpN l n
    | some c => if keepN l n c l.length then insM (simpN l n) c else simpN l n
theorem keepN_at {l : List Mc} {i k : Nat} {c d : Mc} (h : l[k]? = some d) : keepN l i c (k + 1) = if emptyM d || !withinM c d then keepN l i c k else if !withinM d c || decide (k < i) then false else keepN l i c k := by
  rw [keepN, h]
theorem simpN_at {l : List Mc} {n : Nat} {c : Mc} (h : l[n]? = some c) : simpN l (n + 1) = if keepN l n c l.length then insM (simpN l n) c else simpN l n := by
  rw [simpN, h]
theorem keepN_iff (l : List Mc) (i : Nat) (c : Mc) : ∀ k, keepN l i c k = true ↔ emptyM c = false ∧ ∀ j d, j < k → l[j]? = some d → emptyM d = false → withinM c d = true → withinM d c = true ∧ i ≤ j
  | 0 => by
    rw [keepN]
    constructor
    · intro h
      exact ⟨by simpa using h, fun j d hj => absurd hj (by omega)⟩
    · intro h
      simpa using h.1
  | k + 1 => by
    have ih := keepN_iff l i c k
    cases hd : l[k]? with
    | none =>
      rw [keepN, hd]
      dsimp only
      rw [ih]
      constructor
      · rintro ⟨h1, h2⟩
        refine ⟨h1, fun j d hj hjd => ?_⟩
        by_cases e : j = k
        · rw [e, hd] at hjd; cases hjd
        · exact h2 j d (by omega) hjd
      · rintro ⟨h1, h2⟩
        exact ⟨h1, fun j d hj => h2 j d (by omega)⟩
    | some d =>
      rw [keepN_at hd]
      have key : (∀ j e, j < k + 1 → l[j]? = some e → emptyM e = false → withinM c e = true → withinM e c = true ∧ i ≤ j) ↔
          (∀ j e, j < k → l[j]? = some e → emptyM e = false → withinM c e = true → withinM e c = true ∧ i ≤ j) ∧ (emptyM d = false → withinM c d = true → withinM d c = true ∧ i ≤ k) := by
        constructor
        · intro h
          exact ⟨fun j e hj => h j e (by omega), h k d (by omega) hd⟩
        · rintro ⟨h1, h2⟩ j e hj hje
          by_cases ej : j = k
          · subst ej
            rw [hd] at hje
            cases hje
            exact h2
          · exact h1 j e (by omega) hje
      rw [key]
      cases he : emptyM d
      · cases hw : withinM c d
        · rw [if_pos (by rfl), ih]
          exact ⟨fun h => ⟨h.1, h.2, fun _ h => by cases h⟩, fun h => ⟨h.1, h.2.1⟩⟩
        · rw [if_neg (by decide)]
          cases hv : withinM d c
          · rw [if_pos (by rfl)]
            exact ⟨fun h => (by cases h), fun h => by have := (h.2.2 rfl rfl).1; cases this⟩
          · by_cases hk : k < i
            · rw [if_pos (by simp [hk])]
              exact ⟨fun h => (by cases h), fun h => by have := (h.2.2 rfl rfl).2; omega⟩
            · rw [if_neg (by simp [hk]), ih]
              exact ⟨fun h => ⟨h.1, h.2, fun _ _ => ⟨rfl, by omega⟩⟩, fun h => ⟨h.1, h.2.1⟩⟩
      · rw [if_pos (by rfl), ih]
        exact ⟨fun h => ⟨h.1, h.2, fun h => by cases h⟩, fun h => ⟨h.1, h.2.1⟩⟩
theorem mem_insM {out : List Mc} {c x : Mc} : x ∈ insM out c ↔ x = c ∨ x ∈ out := by
  unfold insM
  rw [List.mem_append, List.mem_cons]
  conv => rhs; rw [← List.takeWhile_append_dropWhile (p := lessM c) (l := out), List.mem_append]
  constructor
  · rintro (h | h | h)
    · exact .inr (.inl h)
    · exact .inl h
    · exact .inr (.inr h)
  · rintro (h | h | h)
    · exact .inr (.inl h)
    · exact .inl h
    · exact .inr (.inr h)
theorem mem_simpN (l : List Mc) (x : Mc) : ∀ n, x ∈ simpN l n ↔ ∃ i, i < n ∧ l[i]? = some x ∧ keepN l i x l.length = true
  | 0 => by
    rw [simpN]
    exact ⟨fun h => (by cases h), fun ⟨i, h, _⟩ => absurd h (by omega)⟩
  | n + 1 => by
    have ih := mem_simpN l x n
    cases hc : l[n]? with
    | none =>
      rw [simpN, hc]
      dsimp only
      rw [ih]
      constructor
      · rintro ⟨i, h1, h2⟩
        exact ⟨i, by omega, h2⟩
      · rintro ⟨i, h1, h2, h3⟩
        by_cases e : i = n
        · rw [e, hc] at h2; cases h2
        · exact ⟨i, by omega, h2, h3⟩
    | some c =>
      rw [simpN_at hc]
      cases hk : keepN l n c l.length
      · rw [if_neg (by decide), ih]
        constructor
        · rintro ⟨i, h1, h2⟩
          exact ⟨i, by omega, h2⟩
        · rintro ⟨i, h1, h2, h3⟩
          by_cases e : i = n
          · subst e
            rw [hc] at h2
            cases h2
            rw [hk] at h3; cases h3
          · exact ⟨i, by omega, h2, h3⟩
      · rw [if_pos rfl, mem_insM, ih]
        constructor
        · rintro (rfl | ⟨i, h1, h2⟩)
          · exact ⟨n, by omega, hc, hk⟩
          · exact ⟨i, by omega, h2⟩
        · rintro ⟨i, h1, h2, h3⟩
          by_cases e : i = n
          · subst e
            rw [hc] at h2
            cases h2
            exact .inl rfl
          · exact .inr ⟨i, by omega, h2, h3⟩
/-- Ascending. -/
def SortM (l : List Mc) : Prop := l.Pairwise fun a b => cmpC (cuM a) (cuM b) < 0
theorem sort_insM (c : Mc) : ∀ (out : List Mc), SortM out → (∀ d ∈ out, cmpC (cuM d) (cuM c) ≠ 0) → SortM (insM out c)
  | [], _, _ => List.pairwise_singleton _ _
  | d :: out, h, hne => by
    obtain ⟨h1, h2⟩ := List.pairwise_cons.1 h
    by_cases hl : cmpC (cuM d) (cuM c) < 0
    · have e : insM (d :: out) c = d :: insM out c := by
        unfold insM
        rw [List.takeWhile_cons_of_pos (by unfold lessM; simpa using hl), List.dropWhile_cons_of_pos (by unfold lessM; simpa using hl)]
        rfl
      rw [e]
      refine List.pairwise_cons.2 ⟨fun z hz => ?_, sort_insM c out h2 (fun x hx => hne x (by simp [hx]))⟩
      rcases mem_insM.1 hz with rfl | hz
      · exact hl
      · exact h1 z hz
    · have e : insM (d :: out) c = c :: d :: out := by
        unfold insM
        rw [List.takeWhile_cons_of_neg (by unfold lessM; simpa using hl), List.dropWhile_cons_of_neg (by unfold lessM; simpa using hl)]
        rfl
      rw [e]
      have h0 := hne d (by simp)
      have h3 : cmpC (cuM c) (cuM d) < 0 := by rw [cmpC_neg (cuM d) (cuM c)]; omega
      refine List.pairwise_cons.2 ⟨fun z hz => ?_, h⟩
      rcases List.mem_cons.1 hz with rfl | hz
      · exact h3
      · exact cmpC_tr h3 (by have := h1 z hz; omega)
theorem withinM_self (c : Mc) : withinM c c = true := by
  unfold withinM
  rw [List.all_eq_true]
  intro s _
  cases holdsM c s <;> rfl
theorem sort_simpN {l : List Mc} (hl : ∀ c ∈ l, Mc8 c) : ∀ n, n ≤ l.length → SortM (simpN l n)
  | 0, _ => List.Pairwise.nil
  | n + 1, hn => by
    have ih := sort_simpN hl n (by omega)
    have hc : l[n]? = some l[n] := List.getElem?_eq_getElem (by omega)
    rw [simpN_at hc]
    split
    · rename_i hk
      refine sort_insM _ _ ih fun d hd he => ?_
      obtain ⟨j, hj, hjd, -⟩ := (mem_simpN l d n).1 hd
      have e1 := cuM_inj (hl d (List.mem_of_getElem? hjd)).ok (hl _ (List.mem_of_getElem? hc)).ok (cmpC_zero.1 he)
      obtain ⟨h1, h2⟩ := (keepN_iff l n _ l.length).1 hk
      have := (h2 j d (by omega) hjd (by rw [e1]; exact h1) (by rw [e1]; exact withinM_self _)).2
      omega
    · exact ih
theorem within_eq {a b : Cu} (ha : CuOk a) (hb : CuOk b) (e1 : emptyC a = false) (e2 : emptyC b = false) (h : withinC a b = true) (k : withinC b a = true) : a = b := by
  unfold withinC at h k
  rw [e1, Bool.false_or, Bool.and_eq_true, subB_iff, subB_iff] at h
  rw [e2, Bool.false_or, Bool.and_eq_true, subB_iff, subB_iff] at k
  exact Prod.ext (asc_ext ha.1 hb.1 fun x => ⟨k.1 x, h.1 x⟩) (asc_ext ha.2 hb.2 fun x => ⟨k.2 x, h.2 x⟩)
theorem least_at {P : Nat → Prop} : ∀ n, P n → ∃ i, P i ∧ ∀ j, j < i → ¬ P j := by
  intro n
  induction n using Nat.strongRecOn with
  | ind n ih =>
    intro h
    by_cases hx : ∃ j, j < n ∧ P j
    · obtain ⟨j, hj, hp⟩ := hx
      exact ih j hj hp
    · exact ⟨n, h, fun j hj hp => hx ⟨j, hj, hp⟩⟩
theorem simple_law {l : List Mc} (hl : ∀ c ∈ l, Mc8 c) {ds : List Cu} (hs : SortC ds) (hm : ∀ x, x ∈ ds ↔ x ∈ l.map cuM) : ds.filter (keepC ds) = (simpN l l.length).map cuM := by
  refine sortC_ext (hs.filter _) (List.pairwise_map.2 (sort_simpN hl _ (Nat.le_refl _))) fun x => ?_
  rw [List.mem_filter, List.mem_map]
  constructor
  · rintro ⟨hx, hk⟩
    obtain ⟨c, hc, rfl⟩ := List.mem_map.1 ((hm x).1 hx)
    obtain ⟨n, hn, hnc⟩ := List.getElem_of_mem hc
    obtain ⟨i, hi, hmin⟩ := least_at (P := fun i => l[i]? = some c) n (by rw [List.getElem?_eq_getElem hn, hnc])
    have h8 := hl c hc
    unfold keepC at hk
    rw [Bool.and_eq_true, List.all_eq_true] at hk
    refine ⟨c, (mem_simpN l c l.length).2 ⟨i, (List.getElem?_eq_some_iff.1 hi).1, hi, (keepN_iff l i c l.length).2 ⟨?_, fun j d hj hjd he hw => ?_⟩⟩, rfl⟩
    · have := hk.1
      rw [empty_cuM h8.ok] at this
      simpa using this
    · have hd := List.mem_of_getElem? hjd
      have d8 := hl d hd
      have := hk.2 (cuM d) ((hm _).2 (List.mem_map.2 ⟨d, hd, rfl⟩))
      rw [empty_cuM d8.ok, within_cuM h8 d8, he, hw] at this
      have e : cuM d = cuM c := by simpa using this
      have e2 := cuM_inj d8.ok h8.ok e
      subst e2
      refine ⟨withinM_self d, ?_⟩
      by_cases hij : i ≤ j
      · exact hij
      · exact absurd hjd (hmin j (by omega))
  · rintro ⟨c, hc, rfl⟩
    obtain ⟨i, hi, hic, hk⟩ := (mem_simpN l c _).1 hc
    obtain ⟨h1, h2⟩ := (keepN_iff l i c _).1 hk
    have hcl := List.mem_of_getElem? hic
    have h8 := hl c hcl
    refine ⟨(hm _).2 (List.mem_map.2 ⟨c, hcl, rfl⟩), ?_⟩
    unfold keepC
    rw [Bool.and_eq_true, List.all_eq_true, empty_cuM h8.ok, h1]
    refine ⟨rfl, fun y hy => ?_⟩
    obtain ⟨d, hd, rfl⟩ := List.mem_map.1 ((hm y).1 hy)
    have d8 := hl d hd
    cases he : emptyC (cuM d)
    · cases hw : withinC (cuM c) (cuM d)
      · simp
      · obtain ⟨j, hj, hjd⟩ := List.getElem_of_mem hd
        have hv := (h2 j d hj (by rw [List.getElem?_eq_getElem hj, hjd]) (by rw [← empty_cuM d8.ok]; exact he) (by rw [← within_cuM h8 d8]; exact hw)).1
        rw [← within_cuM d8 h8] at hv
        have := within_eq (cuM_ok d) (cuM_ok c) he (by rw [empty_cuM h8.ok]; exact h1) hv hw
        rw [this]; simp
    · simp
/-- All roles of all literals. -/
def menC (l : List Cu) : List Nat := l.foldl (fun o c => orL (orL o c.1) c.2) []
def menM (l : List Mc) : Nat := l.foldl (fun n c => n ||| (c.1 ||| c.2)) 0
theorem men_go : ∀ (l : List Mc) (o : Nat), (l.map cuM).foldl (fun o c => orL (orL o c.1) c.2) (bitsL o) = bitsL (l.foldl (fun n c => n ||| (c.1 ||| c.2)) o)
  | [], o => rfl
  | c :: l, o => by
    rw [List.map_cons, List.foldl_cons, List.foldl_cons]
    show (l.map cuM).foldl _ (orL (orL (bitsL o) (bitsL c.1)) (bitsL c.2)) = _
    rw [or_bits, or_bits, Nat.or_assoc]
    exact men_go l _
theorem men_cuM (l : List Mc) : menC (l.map cuM) = bitsL (menM l) := men_go l 0
theorem menM_lt {l : List Mc} (h : ∀ c ∈ l, McOk c) : menM l < 18446744073709551616 := by
  unfold menM
  have key : ∀ (l : List Mc) (o : Nat), (∀ c ∈ l, McOk c) → o < 18446744073709551616 → l.foldl (fun n c => n ||| (c.1 ||| c.2)) o < 18446744073709551616 := by
    intro l
    induction l with
    | nil => exact fun o _ h => h
    | cons c l ih => exact fun o h ho => ih _ (fun x hx => h x (by simp [hx])) (lor_lt ho (lor_lt (h c (by simp)).1 (h c (by simp)).2))
  exact key l 0 h (by decide)
end Go.Proofs.YtadomogbakcokaaGreatDoor
