/- A region that asks the tape, walked by what each operation leaves: each operation once, whichever order is drawn. -/
import Derived.Deep.RegionHeld3
namespace Go.Proofs.YtfdododighjjpaaGreatDoor
open Go
set_option linter.unusedVariables false
set_option linter.unusedSimpArgs false

section
variable {P : Program} {Q : Exit → Act → World → Prop}

/-- Each edge leads to an earlier operation. -/
def downOk : Nat → List Oper → Bool
  | _, [] => true
  | k, o :: r => (o.after.toList.all fun e => !Region.binds .any e || Nat.blt e.on k) && downOk (k + 1) r
theorem downOk_spec : ∀ (l : List Oper) (k : Nat), downOk k l = true → ∀ (i : Nat) o, l[i]? = some o → ∀ e ∈ o.after, Region.binds .any e = true → e.on < k + i
  | [], _, _, i, o, h, _, _, _ => by simp at h
  | x :: l, k, hd, i, o, h, e, he, hb => by
    unfold downOk at hd
    rw [Bool.and_eq_true, List.all_eq_true] at hd
    match i, h with
    | 0, h =>
      simp at h
      subst h
      have := hd.1 e (by simpa using he)
      rw [hb, Bool.not_true, Bool.false_or] at this
      rw [Nat.add_zero]
      exact Nat.le_of_ble_eq_true this
    | i + 1, h =>
      have := downOk_spec l (k + 1) hd.2 i o (by simpa using h) e he hb
      omega
theorem least_of {p : Nat → Prop} : ∀ n, p n → ∃ m, p m ∧ ∀ j, j < m → ¬ p j := by
  intro n
  induction n using Nat.strongRecOn with
  | _ n ih =>
    intro hp
    by_cases h : ∃ j, j < n ∧ p j
    · obtain ⟨j, hj, hpj⟩ := h
      exact ih j hj hpj
    · exact ⟨n, hp, fun j hj hpj => h ⟨j, hj, hpj⟩⟩
theorem getD_tf {listed : Array Bool} {j : Nat} (hj : j < listed.size) (h : ¬ listed.getD j true = false) : listed.getD j false = true := by
  simp [Array.getD, hj] at h ⊢; exact h
theorem ready_some {l : List Oper} {listed : Array Bool} (hd : downOk 0 l = true) (hs : listed.size = l.length) (i : Nat) (h : listed.getD i true = false) : Region.ready .any l.toArray listed ≠ [] := by
  obtain ⟨m, hm, hlt⟩ := least_of (p := fun j => listed.getD j true = false) i h
  have hms : m < listed.size := by
    by_cases hx : m < listed.size
    · exact hx
    · simp [Array.getD, hx] at hm
  have hml : m < l.length := by rw [← hs]; exact hms
  intro e
  have : m ∈ Region.ready .any l.toArray listed := mem_ready.2 ⟨hm, l[m], by simp [hml], fun e he hb => by
    have h1 := downOk_spec l 0 hd m l[m] (List.getElem?_eq_getElem hml) e he hb
    exact getD_tf (by omega) (hlt e.on (by omega))⟩
  rw [e] at this
  cases this

theorem any_of_inv {l : List Oper} (hd : downOk 0 l = true) (Inv : (Nat → Bool) → Act → World → Prop)
    (hstep : ∀ (i : Nat) o, l[i]? = some o → ∀ f a w, (∀ e ∈ o.after, Region.binds .any e = true → f e.on = true) → Inv f a w → wpOp P l.toArray Q i (fun a' w' => Inv (fun j => f j || Nat.beq j i) a' w') a w)
    (hend : ∀ f a w, (∀ i, i < l.length → f i = true) → Inv f a w → Q .normal a w) :
    ∀ (fuel : Nat) (unl : List Nat) (listed : Array Bool) (a : Act) (w : World), unl.Nodup → unl.length = fuel → listed.size = l.length → (∀ j, listed.getD j true = false ↔ j ∈ unl) → Inv (fun j => listed.getD j false) a w → wpAny P .any l.toArray Q fuel listed a w := by
  intro fuel
  induction fuel with
  | zero =>
    intro unl listed a w hn hf hs hu hI
    have hnil : unl = [] := List.eq_nil_of_length_eq_zero hf
    subst hnil
    refine ⟨?_, hend _ a w (fun i hi => getD_tf (by omega) (fun h => by have := (hu i).1 h; cases this)) hI⟩
    rw [List.eq_nil_iff_forall_not_mem]
    intro j hj
    have := (hu j).1 (mem_ready.1 hj).1
    cases this
  | succ fuel ih =>
    intro unl listed a w hn hf hs hu hI
    have hne : ∃ i, i ∈ unl := by
      cases unl with
      | nil => simp at hf
      | cons x r => exact ⟨x, by simp⟩
    obtain ⟨i0, hi0⟩ := hne
    refine ⟨fun h => absurd h (ready_some hd hs i0 ((hu i0).2 hi0)), fun i hi => ?_⟩
    obtain ⟨h0, o, ho, hall⟩ := mem_ready.1 hi
    have hiu := (hu i).1 h0
    refine wpOp_mono (fun a' w' h' => ?_) (hstep i o (by simpa using ho) _ a w hall hI)
    refine ih (unl.erase i) (listed.setIfInBounds i true) a' w' (hn.erase _) (by rw [List.length_erase_of_mem hiu, hf]; rfl) (by simpa using hs) (fun j => ?_) ?_
    · rw [hn.mem_erase_iff]
      by_cases hij : i = j
      · subst hij
        constructor
        · intro h
          exfalso
          by_cases hx : i < listed.size
          · simp [Array.getD, hx] at h
          · simp [Array.getD, hx] at h
        · exact fun h => absurd rfl h.1
      · rw [getD_set_ne true hij, hu j]
        exact ⟨fun h => ⟨fun e => hij e.symm, h⟩, fun h => h.2⟩
    · have e : (fun j => (listed.setIfInBounds i true).getD j false) = fun j => listed.getD j false || Nat.beq j i := by
        funext j
        by_cases hij : i = j
        · subst hij
          have hx : i < listed.size := by
            by_cases hx : i < listed.size
            · exact hx
            · simp [Array.getD, hx] at h0
          rw [Nat.beq_refl, Bool.or_true]
          simp [Array.getD, hx]
        · rw [getD_set_ne false hij]
          have : Nat.beq j i = false := by
            rw [← Bool.not_eq_true]
            intro h
            exact hij (Nat.eq_of_beq_eq_true h).symm
          rw [this, Bool.or_false]
      rw [e]
      exact h'

/-- What the operations have left: vs are their values. -/
def InvL (Ds : List (Value → World → Prop)) (mk : List Value → Act) (R : World → Prop) (f : Nat → Bool) (a : Act) (w : World) : Prop :=
  ∃ vs : List Value, a = mk vs ∧ vs.length = Ds.length ∧ R w ∧ ∀ j, f j = true → ∀ D, Ds[j]? = some D → D (vs.getD j undef) w
def depsOk (o : Oper) (deps : List Nat) : Bool := deps.all fun d => o.after.toList.any fun e => Region.binds .any e && Nat.beq e.on d
/-- One operation. -/
def StepL (P : Program) (l : List Oper) (Q : Exit → Act → World → Prop) (Ds : List (Value → World → Prop)) (mk : List Value → Act) (R : World → Prop) (T : World → World → Prop) (i : Nat) (o : Oper) : Prop :=
  ∃ deps, depsOk o deps = true ∧ ∀ vs w, vs.length = Ds.length → R w → (∀ j ∈ deps, ∀ D, Ds[j]? = some D → D (vs.getD j undef) w) →
    ∀ K : Act → World → Prop, Shut (∀ v w', T w w' → R w' → (∀ D, Ds[i]? = some D → D v w') → K (mk (vs.set i v)) w') →
      if Region.wanted o (yielded l.toArray (mk vs).tmps) = true then Oper.wp P o (mk vs) w K Q else K ((mk vs).put o.dst undef) w
def StepsL (P : Program) (l : List Oper) (Q : Exit → Act → World → Prop) (Ds : List (Value → World → Prop)) (mk : List Value → Act) (R : World → Prop) (T : World → World → Prop) : Nat → List Oper → Prop
  | _, [] => True
  | k, o :: r => StepL P l Q Ds mk R T k o ∧ StepsL P l Q Ds mk R T (k + 1) r
theorem stepsL_at {l : List Oper} {Ds : List (Value → World → Prop)} {mk : List Value → Act} {R : World → Prop} {T : World → World → Prop} : ∀ (r : List Oper) (k : Nat), StepsL P l Q Ds mk R T k r → ∀ (i : Nat) o, r[i]? = some o → StepL P l Q Ds mk R T (k + i) o
  | [], _, _, i, o, h => by simp at h
  | x :: r, k, hs, i, o, h => by
    match i, h with
    | 0, h =>
      simp at h
      subst h
      exact hs.1
    | i + 1, h =>
      have := stepsL_at r (k + 1) hs.2 i o (by simpa using h)
      rwa [show k + 1 + i = k + (i + 1) by omega] at this
theorem region_inv {l : List Oper} {id : Nat} {a : Act} {w : World} (Ds : List (Value → World → Prop)) (mk : List Value → Act) (R : World → Prop) (T : World → World → Prop) (hm : P.follows .mixedOrders = true) (hd : downOk 0 l = true) (hlen : l.length = Ds.length)
    (vs0 : List Value) (ha : a = mk vs0) (hl0 : vs0.length = Ds.length) (hR : R w.drew)
    (hst : ∀ (j : Nat) D, Ds[j]? = some D → ∀ v w w', T w w' → D v w → D v w')
    (hsteps : StepsL P l Q Ds mk R T 0 l)
    (hend : ∀ vs w, vs.length = Ds.length → R w → (∀ (j : Nat) D, Ds[j]? = some D → D (vs.getD j undef) w) → Q .normal (mk vs) w) :
    (Code.region id l.toArray true).wp P Q a w := by
  refine wp_region_any hm ?_
  refine any_of_inv hd (InvL Ds mk R) ?_ ?_ _ (List.range l.length) _ a _ List.nodup_range (by simp) (by simp) (fun j => ?_) ?_
  · intro i o ho f a w hf hI
    obtain ⟨vs, rfl, hvl, hRw, hD⟩ := hI
    have hsi := stepsL_at l 0 hsteps i o ho
    rw [Nat.zero_add] at hsi
    obtain ⟨deps, hdp, hh⟩ := hsi
    have hil : i < vs.length := by rw [hvl, ← hlen]; exact (List.getElem?_eq_some_iff.1 ho).1
    refine wpOp_step (by simpa using ho) (fun K' hK => hh vs w hvl hRw (fun j hj D hDj => ?_) K' (fun v w' hT hR' hDi => hK _ _ ⟨vs.set i v, rfl, by rw [List.length_set]; exact hvl, hR', fun j hj D hDj => ?_⟩))
    · unfold depsOk at hdp
      rw [List.all_eq_true] at hdp
      have h1 := hdp j hj
      rw [List.any_eq_true] at h1
      obtain ⟨e, he, hb⟩ := h1
      rw [Bool.and_eq_true] at hb
      have h2 := hf e (by simpa using he) hb.1
      rw [Nat.eq_of_beq_eq_true hb.2] at h2
      exact hD j h2 D hDj
    · by_cases hij : j = i
      · subst hij
        rw [List.getD_eq_getElem?_getD, List.getElem?_set_self hil]
        exact hDi D hDj
      · rw [List.getD_eq_getElem?_getD, List.getElem?_set_ne (fun e => hij e.symm), ← List.getD_eq_getElem?_getD]
        have hbf : Nat.beq j i = false := by
          rw [← Bool.not_eq_true]
          intro h
          exact hij (Nat.eq_of_beq_eq_true h)
        dsimp only at hj
        rw [hbf, Bool.or_false] at hj
        exact hst j D hDj _ _ _ hT (hD j hj D hDj)
  · intro f a w hf hI
    obtain ⟨vs, rfl, hvl, hRw, hD⟩ := hI
    exact hend vs w hvl hRw (fun j D hDj => hD j (hf j (by rw [hlen]; exact (List.getElem?_eq_some_iff.1 hDj).1)) D hDj)
  · rw [List.mem_range]
    by_cases hj : j < l.length
    · simp [Array.getD, hj]
    · simp [Array.getD, hj]
  · refine ⟨vs0, ha, hl0, hR, fun j hj => ?_⟩
    exfalso
    by_cases hx : j < l.length
    · simp [Array.getD, hx] at hj
    · simp [Array.getD, hx] at hj

/-- The slots of the operations, filled. -/
def puts : Act → List Nat → List Value → Act
  | a, d :: ds, v :: vs => puts (a.put (some d) v) ds vs
  | a, _, _ => a
theorem len_succ {vs : List Value} {n : Nat} (h : vs.length = n + 1) : ∃ v r, vs = v :: r ∧ r.length = n := by
  cases vs with
  | nil => simp at h
  | cons v r => exact ⟨v, r, rfl, by simpa using h⟩
theorem len_zero {vs : List Value} (h : vs.length = 0) : vs = [] := List.eq_nil_of_length_eq_zero h
/-- The region, its slots named. -/
theorem region_slots {l : List Oper} {id : Nat} {a : Act} {w : World} (dsts : List Nat) (Ds : List (Value → World → Prop)) (R : World → Prop) (T : World → World → Prop) (hm : P.follows .mixedOrders = true) (hd : downOk 0 l = true) (hlen : l.length = Ds.length)
    (vs0 : List Value) (ha : a = puts a dsts vs0) (hl0 : vs0.length = Ds.length) (hR : R w.drew)
    (hst : ∀ (j : Nat) D, Ds[j]? = some D → ∀ v w w', T w w' → D v w → D v w')
    (hsteps : StepsL P l Q Ds (puts a dsts) R T 0 l)
    (hend : ∀ vs w, vs.length = Ds.length → R w → (∀ (j : Nat) D, Ds[j]? = some D → D (vs.getD j undef) w) → Q .normal (puts a dsts vs) w) :
    (Code.region id l.toArray true).wp P Q a w :=
  region_inv Ds (puts a dsts) R T hm hd hlen vs0 ha hl0 hR hst hsteps hend
end
end Go.Proofs.YtfdododighjjpaaGreatDoor
