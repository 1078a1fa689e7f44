/- Days, in plain words: what the laws need of canonical lists. No program in sight. -/
import Derived.Test.YtfdododighjjpaaGreatDoorDaB
import Derived.Test.YtfdododighjjpaaGreatDoorDaA
namespace Go.Proofs.YtfdododighjjpaaGreatDoor.Dy
set_option linter.unusedVariables false

/-- The days beside a span of a canonical list. -/
theorem can_ends : ∀ {l : List (Int × Int)}, Can l → ∀ p ∈ l, Dm l p.1 = true ∧ Dm l p.2 = true ∧ Dm l (p.1 - 1) = false ∧ Dm l (p.2 + 1) = false := by
  intro l
  induction l with
  | nil => intro _ p hp; cases hp
  | cons q l ih =>
    intro h p hp
    have hq := h.head
    unfold Okp at hq
    rcases List.mem_cons.1 hp with rfl | hp
    · have n1 : ¬ Dm l (p.1 - 1) = true := dm_not fun x hx => by have := h.after x hx; omega
      have n2 : ¬ Dm l (p.2 + 1) = true := dm_not fun x hx => by have := h.after x hx; omega
      refine ⟨dm_cons_iff.2 (.inl (by omega)), dm_cons_iff.2 (.inl (by omega)), ?_, ?_⟩
      · rw [← Bool.not_eq_true, dm_cons_iff]; rintro (e | e)
        · omega
        · exact n1 e
      · rw [← Bool.not_eq_true, dm_cons_iff]; rintro (e | e)
        · omega
        · exact n2 e
    · obtain ⟨h1, h2, h3, h4⟩ := ih h.tail p hp
      have ha := h.after p hp
      have hok := h.1 p (List.mem_cons_of_mem _ hp)
      unfold Okp at hok
      refine ⟨dm_cons_iff.2 (.inr h1), dm_cons_iff.2 (.inr h2), ?_, ?_⟩
      · rw [← Bool.not_eq_true, dm_cons_iff]; rintro (e | e)
        · omega
        · rw [h3] at e; cases e
      · rw [← Bool.not_eq_true, dm_cons_iff]; rintro (e | e)
        · omega
        · rw [h4] at e; cases e

/-- Two lists of one set of flags. -/
theorem can_flags {l r : List (Int × Int)} {S : Int → Bool} (hl : Can l) (hr : Can r) (h1 : ∀ d, Dm r d = (inD d && S d)) (h2 : ∀ d : Int, 0 ≤ d → d ≤ 30000 → S d = Dm l d) : r = l := by
  refine can_ext hr hl fun d => ?_
  rw [h1]
  cases h : inD d with
  | true => have := inD_iff.1 h; rw [h2 d this.1 this.2]; rfl
  | false =>
    cases h3 : Dm l d with
    | false => rfl
    | true => have := inD_iff.2 (hl.day h3); rw [h] at this; cases this
theorem dm_in {l : List (Int × Int)} (h : Can l) (d : Int) : (inD d && Dm l d) = Dm l d := by
  cases h3 : Dm l d with
  | false => simp
  | true => rw [inD_iff.2 (h.day h3)]; rfl
theorem cnt_flags {l : List (Int × Int)} {S : Int → Bool} (hl : Can l) (h2 : ∀ d : Int, 0 ≤ d → d ≤ 30000 → S d = Dm l d) : cntN S 30001 = lenD l := by
  rw [len_cnt hl]; exact cntN_congr _ fun d hd => h2 d (by omega) (by omega)
/-- Next against the first flag. -/
theorem next_flags : ∀ {l : List (Int × Int)}, Can l → ∀ d : Int,
    ((nextP l d).2 = true ∧ d ≤ (nextP l d).1 ∧ Dm l (nextP l d).1 = true ∧ ∀ x, d ≤ x → x < (nextP l d).1 → Dm l x = false) ∨ ((nextP l d).2 = false ∧ (nextP l d).1 = 0 ∧ ∀ x, d ≤ x → Dm l x = false) := by
  intro l
  induction l with
  | nil => intro _ d; exact .inr ⟨rfl, rfl, fun _ _ => rfl⟩
  | cons p l ih =>
    intro h d
    obtain ⟨p1, p2⟩ := p
    have hp := h.head
    unfold Okp at hp
    dsimp only at hp
    by_cases hd : d ≤ p2
    · rw [nextP_yes hd]
      dsimp only
      refine .inl ⟨rfl, by omega, dm_cons_iff.2 (.inl (by dsimp only; omega)), fun x h1 h2 => ?_⟩
      rw [← Bool.not_eq_true]
      refine dm_not fun q hq => ?_
      rcases List.mem_cons.1 hq with rfl | hq
      · dsimp only; omega
      · have := h.after q hq; dsimp only at this; omega
    · rw [nextP_no hd]
      have hc : ∀ x, d ≤ x → Dm ((p1, p2) :: l) x = Dm l x := fun x hx => by
        rw [dm_cons, decide_eq_false (show ¬ x ≤ p2 by omega)]; simp
      rcases ih h.tail d with ⟨h1, h2, h3, h4⟩ | ⟨h1, h2, h3⟩
      · exact .inl ⟨h1, h2, by rw [hc _ h2]; exact h3, fun x e1 e2 => by rw [hc x e1]; exact h4 x e1 e2⟩
      · exact .inr ⟨h1, h2, fun x e1 => by rw [hc x e1]; exact h3 x e1⟩
theorem next_law {l : List (Int × Int)} (h : Can l) {S : Int → Bool} (h2 : ∀ d : Int, 0 ≤ d → d ≤ 30000 → S d = Dm l d) {d r : Int} (hr : (r = -1 ∧ ∀ x : Int, d ≤ x → 0 ≤ x → x ≤ 30000 → S x = false) ∨ (d ≤ r ∧ 0 ≤ r ∧ r ≤ 30000 ∧ S r = true ∧ ∀ x : Int, d ≤ x → 0 ≤ x → x < r → S x = false)) :
    (nextP l d).2 = decide (0 ≤ r) ∧ (nextP l d).1 = max r 0 := by
  rcases next_flags h d with ⟨h3, h4, h5, h6⟩ | ⟨h3, h4, h5⟩
  · have hday := h.day h5
    rcases hr with ⟨rfl, e⟩ | ⟨e1, e2, e3, e4, e5⟩
    · have := e _ h4 hday.1 hday.2
      rw [h2 _ hday.1 hday.2, h5] at this; cases this
    · have : (nextP l d).1 = r := by
        rcases Int.lt_trichotomy (nextP l d).1 r with g | g | g
        · have := e5 _ h4 hday.1 g
          rw [h2 _ hday.1 hday.2, h5] at this; cases this
        · exact g
        · have := h6 r e1 g
          rw [h2 _ e2 e3, this] at e4; cases e4
      rw [h3, this, decide_eq_true e2]
      exact ⟨rfl, by omega⟩
  · rcases hr with ⟨rfl, e⟩ | ⟨e1, e2, e3, e4, e5⟩
    · rw [h3, h4]; exact ⟨rfl, by omega⟩
    · rw [h2 _ e2 e3, h5 r e1] at e4; cases e4
/-- The error of one span: 0, ErrArg (1), ErrRange (2). -/
def errP (p : Int × Int) : Int := if p.1 < 0 ∨ 30000 < p.1 ∨ p.2 < 0 ∨ 30000 < p.2 then 2 else if p.2 < p.1 then 1 else 0
def errL : List (Int × Int) → Int
  | [] => 0
  | p :: l => if errP p = 0 then errL l else errP p
theorem errP_ok {p : Int × Int} (h : errP p = 0) : Okp p := by
  unfold errP at h
  split at h
  · omega
  · split at h
    · omega
    · unfold Okp; omega
theorem okp_err {p : Int × Int} (h : Okp p) : errP p = 0 := by
  unfold Okp at h
  unfold errP
  rw [if_neg (by omega), if_neg (by omega)]
theorem errL_ok : ∀ {l : List (Int × Int)}, errL l = 0 → ∀ p ∈ l, Okp p
  | [], _, p, hp => by cases hp
  | q :: l, h, p, hp => by
    unfold errL at h
    split at h
    · rcases List.mem_cons.1 hp with rfl | hp
      · exact errP_ok ‹_›
      · exact errL_ok h p hp
    · exact absurd h ‹_›
theorem ok_errL : ∀ {l : List (Int × Int)}, (∀ p ∈ l, Okp p) → errL l = 0
  | [], _ => rfl
  | q :: l, h => by
    unfold errL
    rw [if_pos (okp_err (h q (List.mem_cons_self ..)))]
    exact ok_errL fun p hp => h p (List.mem_cons_of_mem _ hp)
theorem errL_step {l : List (Int × Int)} {j : Nat} {p : Int × Int} (hp : l[j]? = some p) : errL (l.drop j) = if errP p = 0 then errL (l.drop (j + 1)) else errP p := by
  rw [drop_at hp]; rfl

theorem errL_here {l : List (Int × Int)} {j : Nat} {p : Int × Int} (h : errL l = errL (l.drop j)) (hp : l[j]? = some p) (hx : errP p ≠ 0) : errL l = errP p := by
  rw [h, errL_step hp, if_neg hx]
end Go.Proofs.YtfdododighjjpaaGreatDoor.Dy
