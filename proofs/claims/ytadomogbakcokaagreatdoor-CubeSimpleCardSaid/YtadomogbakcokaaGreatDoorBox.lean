/- A region that asks the tape and makes boxes of two cells that it fills: each operation once, whichever order is drawn. -/
import Derived.Test.YtadomogbakcokaaGreatDoorQgs
namespace Go.Proofs.YtadomogbakcokaaGreatDoor
open Go Go.RowKit
set_option linter.unusedVariables false
set_option linter.unusedSimpArgs false

/-- A box: the operation that makes it, the one that fills it, and with what. -/
structure Bx where
  al : Nat
  st : Nat
  x : Value
  y : Value
def BxOk (T : TypeId) (z : Value) (N : Nat) (b : Bx) (f : Nat → Bool) (vs : List Value) (w : World) : Prop :=
  f b.al = true → ∃ g, vs.getD b.al undef = .pointer (some ⟨g, 0, none⟩) ∧ N ≤ g ∧ w.heap[g]? = some (.cells (match f b.st with | true => #[b.x, b.y] | false => #[z, z]) T (0, 0))
structure BxI (T : TypeId) (z : Value) (N : Nat) (bx : List Bx) (f : Nat → Bool) (vs : List Value) (w : World) : Prop where
  ok : ∀ b ∈ bx, BxOk T z N b f vs w
  ne : ∀ b ∈ bx, ∀ c ∈ bx, b.al ≠ c.al → f b.al = true → f c.al = true → vs.getD b.al undef ≠ vs.getD c.al undef
  dep : ∀ b ∈ bx, f b.st = true → f b.al = true
def orAt (f : Nat → Bool) (i : Nat) : Nat → Bool := fun j => f j || Nat.beq j i
theorem orAt_ne {f : Nat → Bool} {i j : Nat} (h : j ≠ i) : orAt f i j = f j := by
  unfold orAt
  have : Nat.beq j i = false := by
    rw [← Bool.not_eq_true]
    intro h2
    exact h (Nat.eq_of_beq_eq_true h2)
  rw [this, Bool.or_false]
theorem orAt_self {f : Nat → Bool} {i : Nat} : orAt f i i = true := by unfold orAt; rw [Nat.beq_refl, Bool.or_true]
theorem getD_set_o {vs : List Value} {i j : Nat} {v : Value} (h : j ≠ i) : (vs.set i v).getD j undef = vs.getD j undef := by
  rw [List.getD_eq_getElem?_getD, List.getElem?_set_ne (fun e => h e.symm), ← List.getD_eq_getElem?_getD]
theorem getD_set_s {vs : List Value} {i : Nat} {v : Value} (h : i < vs.length) : (vs.set i v).getD i undef = v := by
  rw [List.getD_eq_getElem?_getD, List.getElem?_set_self h]; rfl
section
variable {T : TypeId} {z : Value} {N : Nat} {bx : List Bx} {f : Nat → Bool} {vs : List Value} {w w' : World}
theorem BxI.plain (h : BxI T z N bx f vs w) {i : Nat} (hi : ∀ b ∈ bx, b.al ≠ i ∧ b.st ≠ i) (hb : Below w.heap.size w w') (v : Value) : BxI T z N bx (orAt f i) (vs.set i v) w' where
  ok b hbm := by
    obtain ⟨h1, h2⟩ := hi b hbm
    have := h.ok b hbm
    unfold BxOk at this ⊢
    rw [orAt_ne h1, orAt_ne h2, getD_set_o h1]
    intro hf
    obtain ⟨g, a1, a2, a3⟩ := this hf
    exact ⟨g, a1, a2, (hb.block g (Array.getElem?_eq_some_iff.1 a3).1).trans a3⟩
  ne b hbm c hcm hne := by
    rw [orAt_ne (hi b hbm).1, orAt_ne (hi c hcm).1, getD_set_o (hi b hbm).1, getD_set_o (hi c hcm).1]
    exact h.ne b hbm c hcm hne
  dep b hbm := by
    rw [orAt_ne (hi b hbm).1, orAt_ne (hi b hbm).2]
    exact h.dep b hbm
theorem BxI.alloc (h : BxI T z N bx f vs w) {b0 : Bx} (hb0 : b0 ∈ bx) (hf : f b0.al = false) (hN : N ≤ w.heap.size) (hl : b0.al < vs.length) (hu : ∀ b ∈ bx, b.st ≠ b0.al) :
    BxI T z N bx (orAt f b0.al) (vs.set b0.al (.pointer (some ⟨w.heap.size, 0, none⟩))) (w.alloc (.cells #[z, z] T)) where
  ok b hbm := by
    unfold BxOk
    rw [orAt_ne (hu b hbm)]
    by_cases hbe : b.al = b0.al
    · intro _
      rw [hbe, getD_set_s hl]
      refine ⟨_, rfl, hN, ?_⟩
      have hst : f b.st = false := by
        cases hs : f b.st with
        | false => rfl
        | true => have := h.dep b hbm hs; rw [hbe, hf] at this; cases this
      rw [hst]
      exact World.alloc_heap_new w _
    · have := h.ok b hbm
      unfold BxOk at this
      rw [orAt_ne hbe, getD_set_o hbe]
      intro hfb
      obtain ⟨g, a1, a2, a3⟩ := this hfb
      have hlt := (Array.getElem?_eq_some_iff.1 a3).1
      exact ⟨g, a1, a2, (((Below.refl w.heap.size w).alloc (Nat.le_refl _) _).block g hlt).trans a3⟩
  ne b hbm c hcm hne := by
    have key : ∀ b ∈ bx, b.al ≠ b0.al → f b.al = true → vs.getD b.al undef ≠ .pointer (some ⟨w.heap.size, 0, none⟩) := by
      intro b hbm hbe hfb e
      obtain ⟨g, a1, a2, a3⟩ := h.ok b hbm hfb
      have hlt := (Array.getElem?_eq_some_iff.1 a3).1
      rw [a1] at e
      injection e with e
      injection e with e
      injection e with e
      omega
    by_cases hbe : b.al = b0.al
    · have hce : c.al ≠ b0.al := fun e => hne (hbe.trans e.symm)
      rw [hbe, getD_set_s hl, getD_set_o hce, orAt_ne hce]
      intro _ hfc e
      exact key c hcm hce hfc e.symm
    · rw [getD_set_o hbe, orAt_ne hbe]
      by_cases hce : c.al = b0.al
      · rw [hce, getD_set_s hl]
        intro hfb _
        exact key b hbm hbe hfb
      · rw [getD_set_o hce, orAt_ne hce]
        exact h.ne b hbm c hcm hne
  dep b hbm := by
    rw [orAt_ne (hu b hbm)]
    intro hs
    by_cases hbe : b.al = b0.al
    · rw [hbe]; exact orAt_self
    · rw [orAt_ne hbe]; exact h.dep b hbm hs
theorem set_cell1 {w : World} {g j : Nat} {cs : Array Value} {x : Value} {fz : Nat × Nat} (hg : w.heap[g]? = some (.cells cs T fz)) : (w.setCell ⟨g, j, none⟩ x).heap[g]? = some (.cells (cs.setIfInBounds j x) T fz) := by
  obtain ⟨hlt, hk⟩ := Array.getElem?_eq_some_iff.1 hg
  show (w.heap.modify g _)[g]? = _
  rw [Array.getElem?_eq_getElem (by rw [Array.size_modify]; exact hlt), Array.getElem_modify_self, hk]
  rfl
theorem set_two {w : World} {g : Nat} {x y z : Value} (hg : w.heap[g]? = some (.cells #[z, z] T (0, 0))) : ((w.setCell ⟨g, 0, none⟩ x).setCell ⟨g, 1, none⟩ y).heap[g]? = some (.cells #[x, y] T (0, 0)) :=
  set_cell1 (set_cell1 hg)
theorem BxI.store (h : BxI T z N bx f vs w) {b0 : Bx} (hb0 : b0 ∈ bx) (hf : f b0.al = true) (hu : ∀ b ∈ bx, b.al ≠ b0.st) (hv : ∀ b ∈ bx, b.st = b0.st → b = b0) (hq : ∀ b ∈ bx, b.al = b0.al → b = b0) {g : Nat} (hg : vs.getD b0.al undef = .pointer (some ⟨g, 0, none⟩)) (hs : f b0.st = false) (v : Value) :
    BxI T z N bx (orAt f b0.st) (vs.set b0.st v) ((w.setCell ⟨g, 0, none⟩ b0.x).setCell ⟨g, 1, none⟩ b0.y) where
  ok b hbm := by
    obtain ⟨g0, e1, e2, e3⟩ := h.ok b0 hb0 hf
    rw [hg] at e1
    injection e1 with e1
    injection e1 with e1
    injection e1 with e1
    subst e1
    rw [hs] at e3
    unfold BxOk
    rw [orAt_ne (hu b hbm), getD_set_o (hu b hbm)]
    by_cases hbe : b = b0
    · subst hbe
      intro _
      rw [orAt_self]
      exact ⟨g, hg, e2, set_two e3⟩
    · intro hfb
      obtain ⟨g1, a1, a2, a3⟩ := h.ok b hbm hfb
      have hst : b.st ≠ b0.st := fun e => hbe (hv b hbm e)
      rw [orAt_ne hst]
      refine ⟨g1, a1, a2, ?_⟩
      have hne := h.ne b hbm b0 hb0 (fun e => hbe (hq b hbm e)) hfb hf
      rw [a1, hg] at hne
      have hgg : g1 ≠ g := fun e => hne (by rw [e])
      rw [Below.heap_setCell _ _ _ g1 (by dsimp only; omega), Below.heap_setCell _ _ _ g1 (by dsimp only; omega)]
      exact a3
  ne b hbm c hcm hne := by
    rw [orAt_ne (hu b hbm), orAt_ne (hu c hcm), getD_set_o (hu b hbm), getD_set_o (hu c hcm)]
    exact h.ne b hbm c hcm hne
  dep b hbm := by
    rw [orAt_ne (hu b hbm)]
    intro hs2
    by_cases hbe : b.st = b0.st
    · rw [hv b hbm hbe]; exact hf
    · rw [orAt_ne hbe] at hs2; exact h.dep b hbm hs2
end

def putsO : Act → List (Option Nat) → List Value → Act
  | a, d :: ds, v :: vs => putsO (a.put d v) ds vs
  | a, _, _ => a
section
variable {P : Program} {Q : Exit → Act → World → Prop}
inductive Kind | plain | box (b : Bx) | fill (b : Bx)
def InvB (T : TypeId) (z : Value) (N : Nat) (bx : List Bx) (Ds : List (Value → World → Prop)) (a0 : Act) (dsts : List (Option Nat)) (w0 : World) (f : Nat → Bool) (a : Act) (w : World) : Prop :=
  ∃ vs : List Value, a = putsO a0 dsts vs ∧ vs.length = Ds.length ∧ Below N w0 w ∧ (∀ j, f j = true → ∀ D, Ds[j]? = some D → D (vs.getD j undef) w) ∧ BxI T z N bx f vs w
/-- One operation of the region. -/
def StepB (P : Program) (l : List Oper) (Q : Exit → Act → World → Prop) (T : TypeId) (z : Value) (N : Nat) (bx : List Bx) (Ds : List (Value → World → Prop)) (a0 : Act) (dsts : List (Option Nat)) (w0 : World) (i : Nat) (o : Oper) : Prop :=
  ∃ (k : Kind) (deps : List Nat), depsOk o deps = true ∧ (match k with
    | .plain => (∀ b ∈ bx, b.al ≠ i ∧ b.st ≠ i) ∧ ∀ vs w, vs.length = Ds.length → Below N w0 w → (∀ j ∈ deps, ∀ D, Ds[j]? = some D → D (vs.getD j undef) w) →
        ∀ K : Act → World → Prop, Shut (∀ v w', Below w.heap.size w w' → (∀ D, Ds[i]? = some D → D v w') → K (putsO a0 dsts (vs.set i v)) w') →
          if Region.wanted o (yielded l.toArray (putsO a0 dsts vs).tmps) = true then Oper.wp P o (putsO a0 dsts vs) w K Q else K ((putsO a0 dsts vs).put o.dst undef) w
    | .box b => b ∈ bx ∧ b.al = i ∧ (∀ c ∈ bx, c.st ≠ i) ∧ (∀ D, Ds[i]? = some D → ∀ v w, D v w) ∧ ∀ vs w, vs.length = Ds.length → 
        ∀ K : Act → World → Prop, Shut (K (putsO a0 dsts (vs.set i (.pointer (some ⟨w.heap.size, 0, none⟩)))) (w.alloc (.cells #[z, z] T))) →
          if Region.wanted o (yielded l.toArray (putsO a0 dsts vs).tmps) = true then Oper.wp P o (putsO a0 dsts vs) w K Q else K ((putsO a0 dsts vs).put o.dst undef) w
    | .fill b => b ∈ bx ∧ b.st = i ∧ b.al ∈ deps ∧ (∀ c ∈ bx, c.al ≠ i) ∧ (∀ c ∈ bx, c.st = i → c = b) ∧ (∀ c ∈ bx, c.al = b.al → c = b) ∧ (∀ D, Ds[i]? = some D → ∀ v w, D v w) ∧ ∀ vs w g, vs.length = Ds.length → (∀ j ∈ deps, ∀ D, Ds[j]? = some D → D (vs.getD j undef) w) →
        vs.getD b.al undef = .pointer (some ⟨g, 0, none⟩) → w.cell? ⟨g, 0, none⟩ = some z → w.cell? ⟨g, 1, none⟩ = some z → w.frozen? ⟨g, 0, none⟩ = false → w.frozen? ⟨g, 1, none⟩ = false →
        ∀ K : Act → World → Prop, Shut (∀ v, K (putsO a0 dsts (vs.set i v)) ((w.setCell ⟨g, 0, none⟩ b.x).setCell ⟨g, 1, none⟩ b.y)) →
          if Region.wanted o (yielded l.toArray (putsO a0 dsts vs).tmps) = true then Oper.wp P o (putsO a0 dsts vs) w K Q else K ((putsO a0 dsts vs).put o.dst undef) w)
def StepsB (P : Program) (l : List Oper) (Q : Exit → Act → World → Prop) (T : TypeId) (z : Value) (N : Nat) (bx : List Bx) (Ds : List (Value → World → Prop)) (a0 : Act) (dsts : List (Option Nat)) (w0 : World) : Nat → List Oper → Prop
  | _, [] => True
  | k, o :: r => StepB P l Q T z N bx Ds a0 dsts w0 k o ∧ StepsB P l Q T z N bx Ds a0 dsts w0 (k + 1) r
theorem stepsB_at {l : List Oper} {T : TypeId} {z : Value} {N : Nat} {bx : List Bx} {Ds : List (Value → World → Prop)} {a0 : Act} {dsts : List (Option Nat)} {w0 : World} : ∀ (r : List Oper) (k : Nat), StepsB P l Q T z N bx Ds a0 dsts w0 k r → ∀ (i : Nat) o, r[i]? = some o → StepB P l Q T z N bx Ds a0 dsts w0 (k + i) o
  | [], _, _, i, o, h => by simp at h
  | x :: r, k, hs, i, o, h => by
    match i, h with
    | 0, h =>
      simp at h
      subst h
      exact hs.1
    | i + 1, h =>
      have := stepsB_at r (k + 1) hs.2 i o (by simpa using h)
      rwa [show k + 1 + i = k + (i + 1) by omega] at this
theorem inv_plain {Ds : List (Value → World → Prop)} {f : Nat → Bool} {vs : List Value} {i : Nat} {v : Value} {w w' : World} (hil : i < vs.length) (hst : ∀ (j : Nat) D, Ds[j]? = some D → ∀ v, D v w → D v w') (hD : ∀ j, f j = true → ∀ D, Ds[j]? = some D → D (vs.getD j undef) w) (hDi : ∀ D, Ds[i]? = some D → D v w') :
    ∀ j, orAt f i j = true → ∀ D, Ds[j]? = some D → D ((vs.set i v).getD j undef) w' := by
  intro j hj D hDj
  by_cases hij : j = i
  · subst hij
    rw [getD_set_s hil]
    exact hDi D hDj
  · rw [orAt_ne hij] at hj
    rw [getD_set_o hij]
    exact hst j D hDj _ (hD j hj D hDj)
theorem deps_done {o : Oper} {deps : List Nat} {f : Nat → Bool} (h : depsOk o deps = true) (hf : ∀ e ∈ o.after, Region.binds .any e = true → f e.on = true) : ∀ j ∈ deps, f j = true := by
  intro j hj
  unfold depsOk at h
  rw [List.all_eq_true] at h
  have h1 := h j hj
  rw [List.any_eq_true] at h1
  obtain ⟨e, he, hb⟩ := h1
  rw [Bool.and_eq_true] at hb
  have h2 := hf e (by simpa using he) hb.1
  rwa [Nat.eq_of_beq_eq_true hb.2] at h2
theorem any_of_inv2 {l : List Oper} (hd : downOk 0 l = true) (Inv : (Nat → Bool) → Act → World → Prop)
    (hstep : ∀ (i : Nat) o, l[i]? = some o → ∀ f a w, f i = false → (∀ e ∈ o.after, Region.binds .any e = true → f e.on = true) → Inv f a w → wpOp P l.toArray Q i (fun a' w' => Inv (fun j => f j || Nat.beq j i) a' w') a w)
    (hend : ∀ f a w, (∀ i, i < l.length → f i = true) → Inv f a w → Q .normal a w) :
    ∀ (fuel : Nat) (unl : List Nat) (listed : Array Bool) (a : Act) (w : World), unl.Nodup → unl.length = fuel → listed.size = l.length → (∀ j, listed.getD j true = false ↔ j ∈ unl) → Inv (fun j => listed.getD j false) a w → wpAny P .any l.toArray Q fuel listed a w := by
  intro fuel
  induction fuel with
  | zero =>
    intro unl listed a w hn hf hs hu hI
    have hnil : unl = [] := List.eq_nil_of_length_eq_zero hf
    subst hnil
    refine ⟨?_, hend _ a w (fun i hi => getD_tf (by omega) (fun h => by have := (hu i).1 h; cases this)) hI⟩
    rw [List.eq_nil_iff_forall_not_mem]
    intro j hj
    have := (hu j).1 (mem_ready.1 hj).1
    cases this
  | succ fuel ih =>
    intro unl listed a w hn hf hs hu hI
    have hne : ∃ i, i ∈ unl := by
      cases unl with
      | nil => simp at hf
      | cons x r => exact ⟨x, by simp⟩
    obtain ⟨i0, hi0⟩ := hne
    refine ⟨fun h => absurd h (ready_some hd hs i0 ((hu i0).2 hi0)), fun i hi => ?_⟩
    obtain ⟨h0, o, ho, hall⟩ := mem_ready.1 hi
    have hiu := (hu i).1 h0
    refine wpOp_mono (fun a' w' h' => ?_) (hstep i o (by simpa using ho) _ a w (by
      by_cases hx : i < listed.size
      · simp [Array.getD, hx] at h0 ⊢; exact h0
      · simp [Array.getD, hx]) hall hI)
    refine ih (unl.erase i) (listed.setIfInBounds i true) a' w' (hn.erase _) (by rw [List.length_erase_of_mem hiu, hf]; rfl) (by simpa using hs) (fun j => ?_) ?_
    · rw [hn.mem_erase_iff]
      by_cases hij : i = j
      · subst hij
        constructor
        · intro h
          exfalso
          by_cases hx : i < listed.size
          · simp [Array.getD, hx] at h
          · simp [Array.getD, hx] at h
        · exact fun h => absurd rfl h.1
      · rw [getD_set_ne true hij, hu j]
        exact ⟨fun h => ⟨fun e => hij e.symm, h⟩, fun h => h.2⟩
    · have e : (fun j => (listed.setIfInBounds i true).getD j false) = fun j => listed.getD j false || Nat.beq j i := by
        funext j
        by_cases hij : i = j
        · subst hij
          have hx : i < listed.size := by
            by_cases hx : i < listed.size
            · exact hx
            · simp [Array.getD, hx] at h0
          rw [Nat.beq_refl, Bool.or_true]
          simp [Array.getD, hx]
        · rw [getD_set_ne false hij]
          have : Nat.beq j i = false := by
            rw [← Bool.not_eq_true]
            intro h
            exact hij (Nat.eq_of_beq_eq_true h).symm
          rw [this, Bool.or_false]
      rw [e]
      exact h'

/-- The region. -/
theorem region_boxes {l : List Oper} {id : Nat} {a : Act} {w : World} (T : TypeId) (z : Value) (N : Nat) (bx : List Bx) (dsts : List (Option Nat)) (Ds : List (Value → World → Prop)) (hm : P.follows .mixedOrders = true) (hd : downOk 0 l = true) (hlen : l.length = Ds.length)
    (vs0 : List Value) (ha : a = putsO a dsts vs0) (hl0 : vs0.length = Ds.length) (hN : w.heap.size = N) (hb1 : ∀ b ∈ bx, b.al < Ds.length)
    (hst1 : ∀ (j : Nat) D, Ds[j]? = some D → ∀ v w w', Below w.heap.size w w' → D v w → D v w')
    (hst2 : ∀ (j : Nat) D, Ds[j]? = some D → ∀ v w g k u, w.cell? ⟨g, k, none⟩ = some z → D v w → D v (w.setCell ⟨g, k, none⟩ u))
    (hsteps : StepsB P l Q T z N bx Ds a dsts w 0 l)
    (hend : ∀ vs w', vs.length = Ds.length → Below N w w' → (∀ (j : Nat) D, Ds[j]? = some D → D (vs.getD j undef) w') →
      (∀ b ∈ bx, b.al < l.length → b.st < l.length → ∃ g, vs.getD b.al undef = .pointer (some ⟨g, 0, none⟩) ∧ N ≤ g ∧ w'.heap[g]? = some (.cells #[b.x, b.y] T (0, 0))) →
      (∀ b ∈ bx, ∀ c ∈ bx, b.al ≠ c.al → b.al < l.length → c.al < l.length → vs.getD b.al undef ≠ vs.getD c.al undef) → Q .normal (putsO a dsts vs) w') :
    (Code.region id l.toArray true).wp P Q a w := by
  refine wp_region_any hm ?_
  refine any_of_inv2 hd (fun f a' w' => InvB T z N bx Ds a dsts w f a' w') ?_ ?_ _ (List.range l.length) _ a _ List.nodup_range (by simp) (by simp) (fun j => ?_) ?_
  · intro i o ho f a' w' hfi hf hI
    obtain ⟨vs, rfl, hvl, hRw, hD, hB⟩ := hI
    have hsi := stepsB_at l 0 hsteps i o ho
    rw [Nat.zero_add] at hsi
    obtain ⟨k, deps, hdp, hh⟩ := hsi
    have hil : i < vs.length := by rw [hvl, ← hlen]; exact (List.getElem?_eq_some_iff.1 ho).1
    have hdone := deps_done hdp hf
    have hdd : ∀ j ∈ deps, ∀ D, Ds[j]? = some D → D (vs.getD j undef) w' := fun j hj D hDj => hD j (hdone j hj) D hDj
    cases k with
    | plain =>
      obtain ⟨hi, hh⟩ := hh
      exact wpOp_step (by simpa using ho) (fun K' hK => hh vs w' hvl hRw hdd K' (fun v w2 hT hDi => hK _ _ ⟨vs.set i v, rfl, by rw [List.length_set]; exact hvl, hRw.trans (hT.mono (by rw [← hN]; exact hRw.size)), inv_plain hil (fun j D hDj v hv => hst1 j D hDj v _ _ hT hv) hD hDi, hB.plain hi hT v⟩))
    | box b =>
      obtain ⟨hbm, rfl, hu, hDt, hh⟩ := hh
      refine wpOp_step (by simpa using ho) (fun K' hK => hh vs w' hvl K' (hK _ _ ⟨_, rfl, by rw [List.length_set]; exact hvl, hRw.alloc (by rw [← hN]; exact hRw.size) _, inv_plain hil (fun j D hDj v hv => hst1 j D hDj v _ _ ((Below.refl _ _).alloc (Nat.le_refl _) _) hv) hD (fun D hDi => hDt D hDi _ _), hB.alloc hbm hfi (by rw [← hN]; exact hRw.size) hil hu⟩))
    | fill b =>
      obtain ⟨hbm, rfl, hbd, hu, hv, hq, hDt, hh⟩ := hh
      have hfa := hdone _ hbd
      obtain ⟨g, e1, e2, e3⟩ := hB.ok b hbm hfa
      rw [hfi] at e3
      have hlt := (Array.getElem?_eq_some_iff.1 e3).1
      have c0 : w'.cell? ⟨g, 0, none⟩ = some z := by simp [World.cell?, e3]
      have c1 : w'.cell? ⟨g, 1, none⟩ = some z := by simp [World.cell?, e3]
      have f0 : w'.frozen? ⟨g, 0, none⟩ = false := by simp [World.frozen?, e3]
      have f1 : w'.frozen? ⟨g, 1, none⟩ = false := by simp [World.frozen?, e3]
      refine wpOp_step (by simpa using ho) (fun K' hK => hh vs w' g hvl hdd e1 c0 c1 f0 f1 K' (fun v => hK _ _ ⟨_, rfl, by rw [List.length_set]; exact hvl, (hRw.setCell (p := ⟨g, 0, none⟩) e2 _).setCell (p := ⟨g, 1, none⟩) e2 _, inv_plain hil (fun j D hDj v hv => hst2 j D hDj v _ g 1 _ ((World.cell?_setCell_other _ _ _ _ (fun e => by injection e with e1 e2; omega)).trans c1) (hst2 j D hDj v _ g 0 _ c0 hv)) hD (fun D hDi => hDt D hDi _ _), hB.store hbm hfa hu hv hq e1 hfi v⟩))
  · intro f a' w' hf hI
    obtain ⟨vs, rfl, hvl, hRw, hD, hB⟩ := hI
    refine hend vs w' hvl hRw (fun j D hDj => hD j (hf j (by rw [hlen]; exact (List.getElem?_eq_some_iff.1 hDj).1)) D hDj) (fun b hbm h1 h2 => ?_) (fun b hbm c hcm hne h1 h2 => hB.ne b hbm c hcm hne (hf _ h1) (hf _ h2))
    obtain ⟨g, e1, e2, e3⟩ := hB.ok b hbm (hf _ h1)
    rw [hf _ h2] at e3
    exact ⟨g, e1, e2, e3⟩
  · rw [List.mem_range]
    by_cases hj : j < l.length
    · simp [Array.getD, hj]
    · simp [Array.getD, hj]
  · have hfalse : ∀ j, ¬ ((Array.replicate l.length false).getD j false = true) := fun j h => by
      by_cases hx : j < l.length
      · simp [Array.getD, hx] at h
      · simp [Array.getD, hx] at h
    refine ⟨vs0, ha, hl0, by rw [← hN]; exact (Below.refl _ w).drew, fun j hj => absurd hj (by simpa using hfalse j), ⟨fun b _ hf => absurd hf (by simpa using hfalse b.al), fun b _ c _ _ hf => absurd hf (by simpa using hfalse b.al), fun b _ hf => absurd hf (by simpa using hfalse b.st)⟩⟩
end
end Go.Proofs.YtadomogbakcokaaGreatDoor
