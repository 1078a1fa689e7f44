/- Several of the texts below, joined: BoxK RxF RwH. -/
import Derived.Test.YtfjpbkmnlmecgaaGreatDoorQge
import Derived.Test.YtfjpbkmnlmecgaaGreatDoorQgr
import Derived.Test.YtfjpbkmnlmecgaaGreatDoorQgv
import Derived.Test.YtfjpbkmnlmecgaaGreatDoorQgw
import Derived.Test.YtfjpbkmnlmecgaaGreatDoorQgs
section
/- A region that asks the tape and makes boxes of several cells that it fills: each operation once, whichever order is drawn. -/
namespace Go.Proofs.YtfjpbkmnlmecgaaGreatDoor.Bk
open Go Go.RowKit
set_option linter.unusedVariables false
set_option linter.unusedSimpArgs false

/-- The first cells of a block are written. -/
def fillC : World → Nat → Nat → List Value → World
  | w, _, _, [] => w
  | w, g, i, v :: vs => fillC (w.setCell ⟨g, i, none⟩ v) g (i + 1) vs
theorem fillC_heap {g b : Nat} (h : b ≠ g) : ∀ (vs : List Value) (w : World) (i : Nat), (fillC w g i vs).heap[b]? = w.heap[b]?
  | [], _, _ => rfl
  | v :: vs, w, i => (fillC_heap h vs _ _).trans (Below.heap_setCell _ _ _ b (by dsimp only; omega))
theorem set_cell1 {T : TypeId} {w : World} {g j : Nat} {cs : Array Value} {x : Value} {fz : Nat × Nat} (hg : w.heap[g]? = some (.cells cs T fz)) : (w.setCell ⟨g, j, none⟩ x).heap[g]? = some (.cells (cs.setIfInBounds j x) T fz) := by
  obtain ⟨hlt, hk⟩ := Array.getElem?_eq_some_iff.1 hg
  show (w.heap.modify g _)[g]? = _
  rw [Array.getElem?_eq_getElem (by rw [Array.size_modify]; exact hlt), Array.getElem_modify_self, hk]
  rfl
theorem fillC_at {T : TypeId} {g : Nat} {fz : Nat × Nat} : ∀ (vs zs pre : List Value) (w : World), vs.length = zs.length → w.heap[g]? = some (.cells (pre ++ zs).toArray T fz) → (fillC w g pre.length vs).heap[g]? = some (.cells (pre ++ vs).toArray T fz)
  | [], zs, pre, w, hl, hw => by
    have : zs = [] := List.eq_nil_of_length_eq_zero hl.symm
    subst this; exact hw
  | v :: vs, [], pre, w, hl, hw => by simp at hl
  | v :: vs, z :: zs, pre, w, hl, hw => by
    have h1 := set_cell1 (j := pre.length) (x := v) hw
    have e : (pre ++ z :: zs).toArray.setIfInBounds pre.length v = ((pre ++ [v]) ++ zs).toArray := by
      rw [List.setIfInBounds_toArray]
      congr 1
      rw [List.set_append_right _ _ (Nat.le_refl _), Nat.sub_self, List.set_cons_zero, List.append_assoc]
      rfl
    rw [e] at h1
    have h2 := fillC_at vs zs (pre ++ [v]) _ (by simpa using hl) h1
    rw [List.length_append, List.append_assoc] at h2
    exact h2
theorem fillC_below {N g : Nat} {w0 : World} (hg : N ≤ g) : ∀ (vs : List Value) (w : World) (i : Nat), Below N w0 w → Below N w0 (fillC w g i vs)
  | [], _, _, h => h
  | v :: vs, w, i, h => fillC_below hg vs _ _ (h.setCell (p := ⟨g, i, none⟩) hg _)
/-- A box: the operation that makes it, the one that fills it, and with what. -/
structure Bx where
  al : Nat
  st : Nat
  P : List Value → World → Prop
/-- What a box holds stays so. -/
def BxSt (T : TypeId) (zs : List Value) (bx : List Bx) : Prop := ∀ b ∈ bx, (∀ cs w w', Below w.heap.size w w' → b.P cs w → b.P cs w') ∧ ∀ cs w g us, w.heap[g]? = some (.cells zs.toArray T (0, 0)) → b.P cs w → b.P cs (fillC w g 0 us)
/-- A box's contents. -/
def Cont (T : TypeId) (zs : List Value) (P : List Value → World → Prop) (s : Bool) (g : Nat) (w : World) : Prop := match s with | true => ∃ cs, w.heap[g]? = some (.cells cs.toArray T (0, 0)) ∧ P cs w | false => w.heap[g]? = some (.cells zs.toArray T (0, 0))
def BxOk (T : TypeId) (zs : List Value) (N : Nat) (b : Bx) (f : Nat → Bool) (vs : List Value) (w : World) : Prop :=
  f b.al = true → ∃ g, vs.getD b.al undef = .pointer (some ⟨g, 0, none⟩) ∧ N ≤ g ∧ Cont T zs b.P (f b.st) g w
structure BxI (T : TypeId) (zs : List Value) (N : Nat) (bx : List Bx) (f : Nat → Bool) (vs : List Value) (w : World) : Prop where
  ok : ∀ b ∈ bx, BxOk T zs N b f vs w
  ne : ∀ b ∈ bx, ∀ c ∈ bx, b.al ≠ c.al → f b.al = true → f c.al = true → vs.getD b.al undef ≠ vs.getD c.al undef
  dep : ∀ b ∈ bx, f b.st = true → f b.al = true
def orAt (f : Nat → Bool) (i : Nat) : Nat → Bool := fun j => f j || Nat.beq j i
theorem orAt_ne {f : Nat → Bool} {i j : Nat} (h : j ≠ i) : orAt f i j = f j := by
  unfold orAt
  have : Nat.beq j i = false := by
    rw [← Bool.not_eq_true]
    intro h2
    exact h (Nat.eq_of_beq_eq_true h2)
  rw [this, Bool.or_false]
theorem orAt_self {f : Nat → Bool} {i : Nat} : orAt f i i = true := by unfold orAt; rw [Nat.beq_refl, Bool.or_true]
theorem getD_set_o {vs : List Value} {i j : Nat} {v : Value} (h : j ≠ i) : (vs.set i v).getD j undef = vs.getD j undef := by
  rw [List.getD_eq_getElem?_getD, List.getElem?_set_ne (fun e => h e.symm), ← List.getD_eq_getElem?_getD]
theorem getD_set_s {vs : List Value} {i : Nat} {v : Value} (h : i < vs.length) : (vs.set i v).getD i undef = v := by
  rw [List.getD_eq_getElem?_getD, List.getElem?_set_self h]; rfl
section
variable {T : TypeId} {zs : List Value} {N : Nat} {bx : List Bx} {f : Nat → Bool} {vs : List Value} {w w' : World}
theorem Cont.lt {P : List Value → World → Prop} {s : Bool} {g : Nat} (h : Cont T zs P s g w) : g < w.heap.size := by
  cases s with
  | true => obtain ⟨cs, h, _⟩ := h; exact (Array.getElem?_eq_some_iff.1 h).1
  | false => exact (Array.getElem?_eq_some_iff.1 h).1
theorem Cont.below {P : List Value → World → Prop} {s : Bool} {g : Nat} (h : Cont T zs P s g w) (hp : ∀ cs w w', Below w.heap.size w w' → P cs w → P cs w') (hb : Below w.heap.size w w') : Cont T zs P s g w' := by
  have hlt := h.lt
  cases s with
  | true => obtain ⟨cs, h, k⟩ := h; exact ⟨cs, (hb.block g hlt).trans h, hp _ _ _ hb k⟩
  | false => exact (hb.block g hlt).trans h
theorem BxI.plain (h : BxI T zs N bx f vs w) {i : Nat} (hi : ∀ b ∈ bx, b.al ≠ i ∧ b.st ≠ i) (hp : BxSt T zs bx) (hb : Below w.heap.size w w') (v : Value) : BxI T zs N bx (orAt f i) (vs.set i v) w' where
  ok b hbm := by
    obtain ⟨h1, h2⟩ := hi b hbm
    have := h.ok b hbm
    unfold BxOk at this ⊢
    rw [orAt_ne h1, orAt_ne h2, getD_set_o h1]
    intro hf
    obtain ⟨g, a1, a2, a3⟩ := this hf
    exact ⟨g, a1, a2, a3.below (hp b hbm).1 hb⟩
  ne b hbm c hcm hne := by
    rw [orAt_ne (hi b hbm).1, orAt_ne (hi c hcm).1, getD_set_o (hi b hbm).1, getD_set_o (hi c hcm).1]
    exact h.ne b hbm c hcm hne
  dep b hbm := by
    rw [orAt_ne (hi b hbm).1, orAt_ne (hi b hbm).2]
    exact h.dep b hbm
theorem BxI.alloc (h : BxI T zs N bx f vs w) {b0 : Bx} (hb0 : b0 ∈ bx) (hf : f b0.al = false) (hN : N ≤ w.heap.size) (hl : b0.al < vs.length) (hu : ∀ b ∈ bx, b.st ≠ b0.al) (hp : BxSt T zs bx) :
    BxI T zs N bx (orAt f b0.al) (vs.set b0.al (.pointer (some ⟨w.heap.size, 0, none⟩))) (w.alloc (.cells zs.toArray T)) where
  ok b hbm := by
    unfold BxOk
    rw [orAt_ne (hu b hbm)]
    by_cases hbe : b.al = b0.al
    · intro _
      rw [hbe, getD_set_s hl]
      refine ⟨_, rfl, hN, ?_⟩
      have hst : f b.st = false := by
        cases hs : f b.st with
        | false => rfl
        | true => have := h.dep b hbm hs; rw [hbe, hf] at this; cases this
      rw [hst]
      exact heap_alloc_new w _
    · have := h.ok b hbm
      unfold BxOk at this
      rw [orAt_ne hbe, getD_set_o hbe]
      intro hfb
      obtain ⟨g, a1, a2, a3⟩ := this hfb
      exact ⟨g, a1, a2, a3.below (hp b hbm).1 ((Below.refl w.heap.size w).alloc (Nat.le_refl _) _)⟩
  ne b hbm c hcm hne := by
    have key : ∀ b ∈ bx, b.al ≠ b0.al → f b.al = true → vs.getD b.al undef ≠ .pointer (some ⟨w.heap.size, 0, none⟩) := by
      intro b hbm hbe hfb e
      obtain ⟨g, a1, a2, a3⟩ := h.ok b hbm hfb
      have hlt := a3.lt
      rw [a1] at e
      injection e with e
      injection e with e
      injection e with e
      omega
    by_cases hbe : b.al = b0.al
    · have hce : c.al ≠ b0.al := fun e => hne (hbe.trans e.symm)
      rw [hbe, getD_set_s hl, getD_set_o hce, orAt_ne hce]
      intro _ hfc e
      exact key c hcm hce hfc e.symm
    · rw [getD_set_o hbe, orAt_ne hbe]
      by_cases hce : c.al = b0.al
      · rw [hce, getD_set_s hl]
        intro hfb _
        exact key b hbm hbe hfb
      · rw [getD_set_o hce, orAt_ne hce]
        exact h.ne b hbm c hcm hne
  dep b hbm := by
    rw [orAt_ne (hu b hbm)]
    intro hs
    by_cases hbe : b.al = b0.al
    · rw [hbe]; exact orAt_self
    · rw [orAt_ne hbe]; exact h.dep b hbm hs
theorem BxI.store (h : BxI T zs N bx f vs w) {b0 : Bx} (hb0 : b0 ∈ bx) (hf : f b0.al = true) (hu : ∀ b ∈ bx, b.al ≠ b0.st) (hv : ∀ b ∈ bx, b.st = b0.st → b = b0) (hq : ∀ b ∈ bx, b.al = b0.al → b = b0) {g : Nat} (hg : vs.getD b0.al undef = .pointer (some ⟨g, 0, none⟩)) (hs : f b0.st = false) (hp : BxSt T zs bx) {cs : List Value} (hl : cs.length = zs.length) (hx0 : b0.P cs w) (v : Value) :
    BxI T zs N bx (orAt f b0.st) (vs.set b0.st v) (fillC w g 0 cs) where
  ok b hbm := by
    obtain ⟨g0, e1, e2, e3⟩ := h.ok b0 hb0 hf
    rw [hg] at e1
    injection e1 with e1
    injection e1 with e1
    injection e1 with e1
    subst e1
    rw [hs] at e3
    have e3 : w.heap[g]? = some (.cells zs.toArray T (0, 0)) := e3
    have keep : ∀ {b : Bx}, b ∈ bx → ∀ {ds : List Value}, b.P ds w → b.P ds (fillC w g 0 cs) := fun hbm _ hP => (hp _ hbm).2 _ _ g _ e3 hP
    unfold BxOk
    rw [orAt_ne (hu b hbm), getD_set_o (hu b hbm)]
    by_cases hbe : b = b0
    · subst hbe
      intro _
      rw [orAt_self]
      exact ⟨g, hg, e2, cs, fillC_at (fz := (0, 0)) cs zs [] w hl e3, keep hbm hx0⟩
    · intro hfb
      obtain ⟨g1, a1, a2, a3⟩ := h.ok b hbm hfb
      have hst : b.st ≠ b0.st := fun e => hbe (hv b hbm e)
      rw [orAt_ne hst]
      refine ⟨g1, a1, a2, ?_⟩
      have hne := h.ne b hbm b0 hb0 (fun e => hbe (hq b hbm e)) hfb hf
      rw [a1, hg] at hne
      have hgg : g1 ≠ g := fun e => hne (by rw [e])
      have hblk : (fillC w g 0 cs).heap[g1]? = w.heap[g1]? := fillC_heap hgg _ _ _
      cases hfs : f b.st with
      | true =>
        rw [hfs] at a3
        obtain ⟨ds, a3, a4⟩ := a3
        exact ⟨ds, hblk.trans a3, keep hbm a4⟩
      | false =>
        rw [hfs] at a3
        exact hblk.trans a3
  ne b hbm c hcm hne := by
    rw [orAt_ne (hu b hbm), orAt_ne (hu c hcm), getD_set_o (hu b hbm), getD_set_o (hu c hcm)]
    exact h.ne b hbm c hcm hne
  dep b hbm := by
    rw [orAt_ne (hu b hbm)]
    intro hs2
    by_cases hbe : b.st = b0.st
    · rw [hv b hbm hbe]; exact hf
    · rw [orAt_ne hbe] at hs2; exact h.dep b hbm hs2
end

def putsO : Act → List (Option Nat) → List Value → Act
  | a, d :: ds, v :: vs => putsO (a.put d v) ds vs
  | a, _, _ => a
section
variable {P : Program} {Q : Exit → Act → World → Prop}
inductive Kind | plain | box (b : Bx) | fill (b : Bx)
def InvB (T : TypeId) (zs : List Value) (N : Nat) (bx : List Bx) (Ds : List (Value → World → Prop)) (a0 : Act) (dsts : List (Option Nat)) (w0 : World) (f : Nat → Bool) (a : Act) (w : World) : Prop :=
  ∃ vs : List Value, a = putsO a0 dsts vs ∧ vs.length = Ds.length ∧ Below N w0 w ∧ (∀ j, f j = true → ∀ D, Ds[j]? = some D → D (vs.getD j undef) w) ∧ BxI T zs N bx f vs w
/-- One operation of the region. -/
def StepB (P : Program) (l : List Oper) (Q : Exit → Act → World → Prop) (T : TypeId) (zs : List Value) (N : Nat) (bx : List Bx) (Ds : List (Value → World → Prop)) (a0 : Act) (dsts : List (Option Nat)) (w0 : World) (i : Nat) (o : Oper) : Prop :=
  ∃ (k : Kind) (deps : List Nat), depsOk o deps = true ∧ (match k with
    | .plain => (∀ b ∈ bx, b.al ≠ i ∧ b.st ≠ i) ∧ ∀ vs w, vs.length = Ds.length → Below N w0 w → (∀ j ∈ deps, ∀ D, Ds[j]? = some D → D (vs.getD j undef) w) →
        ∀ K : Act → World → Prop, Shut (∀ v w', Below w.heap.size w w' → (∀ D, Ds[i]? = some D → D v w') → K (putsO a0 dsts (vs.set i v)) w') →
          if Region.wanted o (yielded l.toArray (putsO a0 dsts vs).tmps) = true then Oper.wp P o (putsO a0 dsts vs) w K Q else K ((putsO a0 dsts vs).put o.dst undef) w
    | .box b => b ∈ bx ∧ b.al = i ∧ (∀ c ∈ bx, c.st ≠ i) ∧ (∀ D, Ds[i]? = some D → ∀ v w, D v w) ∧ ∀ vs w, vs.length = Ds.length → 
        ∀ K : Act → World → Prop, Shut (K (putsO a0 dsts (vs.set i (.pointer (some ⟨w.heap.size, 0, none⟩)))) (w.alloc (.cells zs.toArray T))) →
          if Region.wanted o (yielded l.toArray (putsO a0 dsts vs).tmps) = true then Oper.wp P o (putsO a0 dsts vs) w K Q else K ((putsO a0 dsts vs).put o.dst undef) w
    | .fill b => b ∈ bx ∧ b.st = i ∧ b.al ∈ deps ∧ (∀ c ∈ bx, c.al ≠ i) ∧ (∀ c ∈ bx, c.st = i → c = b) ∧ (∀ c ∈ bx, c.al = b.al → c = b) ∧ (∀ D, Ds[i]? = some D → ∀ v w, D v w) ∧ ∀ vs w g, vs.length = Ds.length → (∀ j ∈ deps, ∀ D, Ds[j]? = some D → D (vs.getD j undef) w) →
        vs.getD b.al undef = .pointer (some ⟨g, 0, none⟩) → w.heap[g]? = some (.cells zs.toArray T (0, 0)) →
        ∀ K : Act → World → Prop, Shut (∀ v cs, cs.length = zs.length → b.P cs w → K (putsO a0 dsts (vs.set i v)) (fillC w g 0 cs)) →
          if Region.wanted o (yielded l.toArray (putsO a0 dsts vs).tmps) = true then Oper.wp P o (putsO a0 dsts vs) w K Q else K ((putsO a0 dsts vs).put o.dst undef) w)
def StepsB (P : Program) (l : List Oper) (Q : Exit → Act → World → Prop) (T : TypeId) (zs : List Value) (N : Nat) (bx : List Bx) (Ds : List (Value → World → Prop)) (a0 : Act) (dsts : List (Option Nat)) (w0 : World) : Nat → List Oper → Prop
  | _, [] => True
  | k, o :: r => StepB P l Q T zs N bx Ds a0 dsts w0 k o ∧ StepsB P l Q T zs N bx Ds a0 dsts w0 (k + 1) r
theorem stepsB_at {l : List Oper} {T : TypeId} {zs : List Value} {N : Nat} {bx : List Bx} {Ds : List (Value → World → Prop)} {a0 : Act} {dsts : List (Option Nat)} {w0 : World} : ∀ (r : List Oper) (k : Nat), StepsB P l Q T zs N bx Ds a0 dsts w0 k r → ∀ (i : Nat) o, r[i]? = some o → StepB P l Q T zs N bx Ds a0 dsts w0 (k + i) o
  | [], _, _, i, o, h => by simp at h
  | x :: r, k, hs, i, o, h => by
    match i, h with
    | 0, h =>
      simp at h
      subst h
      exact hs.1
    | i + 1, h =>
      have := stepsB_at r (k + 1) hs.2 i o (by simpa using h)
      rwa [show k + 1 + i = k + (i + 1) by omega] at this
theorem inv_plain {Ds : List (Value → World → Prop)} {f : Nat → Bool} {vs : List Value} {i : Nat} {v : Value} {w w' : World} (hil : i < vs.length) (hst : ∀ (j : Nat) D, Ds[j]? = some D → ∀ v, D v w → D v w') (hD : ∀ j, f j = true → ∀ D, Ds[j]? = some D → D (vs.getD j undef) w) (hDi : ∀ D, Ds[i]? = some D → D v w') :
    ∀ j, orAt f i j = true → ∀ D, Ds[j]? = some D → D ((vs.set i v).getD j undef) w' := by
  intro j hj D hDj
  by_cases hij : j = i
  · subst hij
    rw [getD_set_s hil]
    exact hDi D hDj
  · rw [orAt_ne hij] at hj
    rw [getD_set_o hij]
    exact hst j D hDj _ (hD j hj D hDj)
theorem deps_done {o : Oper} {deps : List Nat} {f : Nat → Bool} (h : depsOk o deps = true) (hf : ∀ e ∈ o.after, Region.binds .any e = true → f e.on = true) : ∀ j ∈ deps, f j = true := by
  intro j hj
  unfold depsOk at h
  rw [List.all_eq_true] at h
  have h1 := h j hj
  rw [List.any_eq_true] at h1
  obtain ⟨e, he, hb⟩ := h1
  rw [Bool.and_eq_true] at hb
  have h2 := hf e (by simpa using he) hb.1
  rwa [Nat.eq_of_beq_eq_true hb.2] at h2
theorem any_of_inv2 {l : List Oper} (hd : downOk 0 l = true) (Inv : (Nat → Bool) → Act → World → Prop)
    (hstep : ∀ (i : Nat) o, l[i]? = some o → ∀ f a w, f i = false → (∀ e ∈ o.after, Region.binds .any e = true → f e.on = true) → Inv f a w → wpOp P l.toArray Q i (fun a' w' => Inv (fun j => f j || Nat.beq j i) a' w') a w)
    (hend : ∀ f a w, (∀ i, i < l.length → f i = true) → Inv f a w → Q .normal a w) :
    ∀ (fuel : Nat) (unl : List Nat) (listed : Array Bool) (a : Act) (w : World), unl.Nodup → unl.length = fuel → listed.size = l.length → (∀ j, listed.getD j true = false ↔ j ∈ unl) → Inv (fun j => listed.getD j false) a w → wpAny P .any l.toArray Q fuel listed a w := by
  intro fuel
  induction fuel with
  | zero =>
    intro unl listed a w hn hf hs hu hI
    have hnil : unl = [] := List.eq_nil_of_length_eq_zero hf
    subst hnil
    refine ⟨?_, hend _ a w (fun i hi => getD_tf (by omega) (fun h => by have := (hu i).1 h; cases this)) hI⟩
    rw [List.eq_nil_iff_forall_not_mem]
    intro j hj
    have := (hu j).1 (mem_ready.1 hj).1
    cases this
  | succ fuel ih =>
    intro unl listed a w hn hf hs hu hI
    have hne : ∃ i, i ∈ unl := by
      cases unl with
      | nil => simp at hf
      | cons x r => exact ⟨x, by simp⟩
    obtain ⟨i0, hi0⟩ := hne
    refine ⟨fun h => absurd h (ready_some hd hs i0 ((hu i0).2 hi0)), fun i hi => ?_⟩
    obtain ⟨h0, o, ho, hall⟩ := mem_ready.1 hi
    have hiu := (hu i).1 h0
    refine wpOp_mono (fun a' w' h' => ?_) (hstep i o (by simpa using ho) _ a w (by
      by_cases hx : i < listed.size
      · simp [Array.getD, hx] at h0 ⊢; exact h0
      · simp [Array.getD, hx]) hall hI)
    refine ih (unl.erase i) (listed.setIfInBounds i true) a' w' (hn.erase _) (by rw [List.length_erase_of_mem hiu, hf]; rfl) (by simpa using hs) (fun j => ?_) ?_
    · rw [hn.mem_erase_iff]
      by_cases hij : i = j
      · subst hij
        constructor
        · intro h
          exfalso
          by_cases hx : i < listed.size
          · simp [Array.getD, hx] at h
          · simp [Array.getD, hx] at h
        · exact fun h => absurd rfl h.1
      · rw [getD_set_ne true hij, hu j]
        exact ⟨fun h => ⟨fun e => hij e.symm, h⟩, fun h => h.2⟩
    · have e : (fun j => (listed.setIfInBounds i true).getD j false) = fun j => listed.getD j false || Nat.beq j i := by
        funext j
        by_cases hij : i = j
        · subst hij
          have hx : i < listed.size := by
            by_cases hx : i < listed.size
            · exact hx
            · simp [Array.getD, hx] at h0
          rw [Nat.beq_refl, Bool.or_true]
          simp [Array.getD, hx]
        · rw [getD_set_ne false hij]
          have : Nat.beq j i = false := by
            rw [← Bool.not_eq_true]
            intro h
            exact hij (Nat.eq_of_beq_eq_true h).symm
          rw [this, Bool.or_false]
      rw [e]
      exact h'

/-- The region. -/
theorem region_boxes {l : List Oper} {id : Nat} {a : Act} {w : World} (T : TypeId) (zs : List Value) (N : Nat) (bx : List Bx) (dsts : List (Option Nat)) (Ds : List (Value → World → Prop)) (hm : P.follows .mixedOrders = true) (hd : downOk 0 l = true) (hlen : l.length = Ds.length)
    (vs0 : List Value) (ha : a = putsO a dsts vs0) (hl0 : vs0.length = Ds.length) (hN : w.heap.size = N) (hb1 : ∀ b ∈ bx, b.al < Ds.length)
    (hst1 : ∀ (j : Nat) D, Ds[j]? = some D → ∀ v w w', Below w.heap.size w w' → D v w → D v w')
    (hst2 : ∀ (j : Nat) D, Ds[j]? = some D → ∀ v w g us, w.heap[g]? = some (.cells zs.toArray T (0, 0)) → D v w → D v (fillC w g 0 us))
    (hp : BxSt T zs bx)
    (hsteps : StepsB P l Q T zs N bx Ds a dsts w 0 l)
    (hend : ∀ vs w', vs.length = Ds.length → Below N w w' → (∀ (j : Nat) D, Ds[j]? = some D → D (vs.getD j undef) w') →
      (∀ b ∈ bx, b.al < l.length → b.st < l.length → ∃ g cs, vs.getD b.al undef = .pointer (some ⟨g, 0, none⟩) ∧ N ≤ g ∧ w'.heap[g]? = some (.cells cs.toArray T (0, 0)) ∧ b.P cs w') →
      (∀ b ∈ bx, ∀ c ∈ bx, b.al ≠ c.al → b.al < l.length → c.al < l.length → vs.getD b.al undef ≠ vs.getD c.al undef) → Q .normal (putsO a dsts vs) w') :
    (Code.region id l.toArray true).wp P Q a w := by
  refine wp_region_any hm ?_
  refine any_of_inv2 hd (fun f a' w' => InvB T zs N bx Ds a dsts w f a' w') ?_ ?_ _ (List.range l.length) _ a _ List.nodup_range (by simp) (by simp) (fun j => ?_) ?_
  · intro i o ho f a' w' hfi hf hI
    obtain ⟨vs, rfl, hvl, hRw, hD, hB⟩ := hI
    have hsi := stepsB_at l 0 hsteps i o ho
    rw [Nat.zero_add] at hsi
    obtain ⟨k, deps, hdp, hh⟩ := hsi
    have hil : i < vs.length := by rw [hvl, ← hlen]; exact (List.getElem?_eq_some_iff.1 ho).1
    have hdone := deps_done hdp hf
    have hdd : ∀ j ∈ deps, ∀ D, Ds[j]? = some D → D (vs.getD j undef) w' := fun j hj D hDj => hD j (hdone j hj) D hDj
    cases k with
    | plain =>
      obtain ⟨hi, hh⟩ := hh
      exact wpOp_step (by simpa using ho) (fun K' hK => hh vs w' hvl hRw hdd K' (fun v w2 hT hDi => hK _ _ ⟨vs.set i v, rfl, by rw [List.length_set]; exact hvl, hRw.trans (hT.mono (by rw [← hN]; exact hRw.size)), inv_plain hil (fun j D hDj v hv => hst1 j D hDj v _ _ hT hv) hD hDi, hB.plain hi hp hT v⟩))
    | box b =>
      obtain ⟨hbm, rfl, hu, hDt, hh⟩ := hh
      refine wpOp_step (by simpa using ho) (fun K' hK => hh vs w' hvl K' (hK _ _ ⟨_, rfl, by rw [List.length_set]; exact hvl, hRw.alloc (by rw [← hN]; exact hRw.size) _, inv_plain hil (fun j D hDj v hv => hst1 j D hDj v _ _ ((Below.refl _ _).alloc (Nat.le_refl _) _) hv) hD (fun D hDi => hDt D hDi _ _), hB.alloc hbm hfi (by rw [← hN]; exact hRw.size) hil hu hp⟩))
    | fill b =>
      obtain ⟨hbm, rfl, hbd, hu, hv, hq, hDt, hh⟩ := hh
      have hfa := hdone _ hbd
      obtain ⟨g, e1, e2, e3⟩ := hB.ok b hbm hfa
      rw [hfi] at e3
      have e3 : w'.heap[g]? = some (.cells zs.toArray T (0, 0)) := e3
      refine wpOp_step (by simpa using ho) (fun K' hK => hh vs w' g hvl hdd e1 e3 K' (fun v cs hcl hxy => hK _ _ ⟨_, rfl, by rw [List.length_set]; exact hvl, fillC_below e2 _ _ _ hRw, inv_plain hil (fun j D hDj v hv => hst2 j D hDj v _ g _ e3 hv) hD (fun D hDi => hDt D hDi _ _), hB.store hbm hfa hu hv hq e1 hfi hp hcl hxy v⟩))
  · intro f a' w' hf hI
    obtain ⟨vs, rfl, hvl, hRw, hD, hB⟩ := hI
    refine hend vs w' hvl hRw (fun j D hDj => hD j (hf j (by rw [hlen]; exact (List.getElem?_eq_some_iff.1 hDj).1)) D hDj) (fun b hbm h1 h2 => ?_) (fun b hbm c hcm hne h1 h2 => hB.ne b hbm c hcm hne (hf _ h1) (hf _ h2))
    obtain ⟨g, e1, e2, e3⟩ := hB.ok b hbm (hf _ h1)
    rw [hf _ h2] at e3
    obtain ⟨cs, e3, e4⟩ := e3
    exact ⟨g, cs, e1, e2, e3, e4⟩
  · rw [List.mem_range]
    by_cases hj : j < l.length
    · simp [Array.getD, hj]
    · simp [Array.getD, hj]
  · have hfalse : ∀ j, ¬ ((Array.replicate l.length false).getD j false = true) := fun j h => by
      by_cases hx : j < l.length
      · simp [Array.getD, hx] at h
      · simp [Array.getD, hx] at h
    refine ⟨vs0, ha, hl0, by rw [← hN]; exact (Below.refl _ w).drew, fun j hj => absurd hj (by simpa using hfalse j), ⟨fun b _ hf => absurd hf (by simpa using hfalse b.al), fun b _ c _ _ hf => absurd hf (by simpa using hfalse b.al), fun b _ hf => absurd hf (by simpa using hfalse b.st)⟩⟩
end
end Go.Proofs.YtfjpbkmnlmecgaaGreatDoor.Bk
end

section
/- The laws' values in memory: a rule of the specification, a rule of the program, a set. -/
namespace Go.Proofs.YtfjpbkmnlmecgaaGreatDoor.Ru
open Go.RowKit Go.PlainAid Go.Maps Go.Shelf Go.Proofs.YtfjpbkmnlmecgaaGreatDoor Go.Proofs.YtfjpbkmnlmecgaaGreatDoor.Bz
set_option linter.unusedVariables false
set_option linter.unusedSimpArgs false
set_option maxHeartbeats 4000000
set_option maxRecDepth 20000

/-- Days whose spans lie in a block of pairs. -/
def Dt (w : World) (a : Option Addr) (n cap : Nat) (l : List (Int × Int)) : Prop :=
  Dy.Ds w a n cap l ∧ ∀ p, a = some p → p.block < w.heap.size ∧ ∃ cs fz, w.heap[p.block]? = some (.cells cs 80 fz)
theorem Dt.below {w w' : World} {a : Option Addr} {n cap : Nat} {l : List (Int × Int)} (h : Dt w a n cap l) (hb : Below w.heap.size w w') : Dt w' a n cap l :=
  ⟨h.1.below hb (Nat.le_refl _), fun p hp => by
    obtain ⟨h2, cs, fz, h3⟩ := h.2 p hp
    exact ⟨Nat.lt_of_lt_of_le h2 hb.size, cs, fz, (hb.block _ h2).trans h3⟩⟩
/-- A block of another type is written. -/
theorem Dt.fill {w w' : World} {a : Option Addr} {n cap g : Nat} {l : List (Int × Int)} {cs : Array Value} {T : TypeId} {fz : Nat × Nat} (h : Dt w a n cap l) (hg : w.heap[g]? = some (.cells cs T fz)) (hT : T ≠ 80) (hs : w.heap.size ≤ w'.heap.size) (ho : ∀ b, b ≠ g → w'.heap[b]? = w.heap[b]?) : Dt w' a n cap l := by
  obtain ⟨⟨h1, h2, h3, h4⟩, h5⟩ := h
  have key : ∀ p, a = some p → w'.heap[p.block]? = w.heap[p.block]? := by
    intro p hp
    obtain ⟨_, ds, gz, k3⟩ := h5 p hp
    refine ho _ fun e => ?_
    rw [e, hg] at k3
    injection k3 with k3
    injection k3 with _ k3
    exact hT k3
  refine ⟨⟨h1, h2, h3, ?_⟩, fun p hp => ?_⟩
  · rcases h4 with h4 | ⟨b, o, ha, hlt, hc⟩
    · exact .inl h4
    · have hbk : w'.heap[b]? = w.heap[b]? := key _ ha
      refine .inr ⟨b, o, ha, Nat.lt_of_lt_of_le hlt hs, fun j q hq => ?_⟩
      constructor
      · rw [World.cell?_of_block (w := w) hbk]; exact (hc j q hq).1
      · rw [World.cell?_of_block (w := w) hbk]; exact (hc j q hq).2
  · obtain ⟨k2, ds, gz, k3⟩ := h5 p hp
    exact ⟨Nat.lt_of_lt_of_le k2 hs, ds, gz, (key p hp).trans k3⟩
theorem Os_dt {w : World} {base : Nat} {v : Value} {l : List (Int × Int)} (h : Dy.Os 80 w base v l) : ∃ a n cap, v = .slice a n cap ∧ Dt w a n cap l := by
  obtain ⟨a, n, c, hv, hn, hd⟩ := h.dn
  refine ⟨a, n, c, hv, hd, fun p hp => ?_⟩
  rcases h.2 with ⟨e, _⟩ | ⟨g, cap, cur, e, hg, hh, _⟩
  · rw [hv] at e; injection e with e1; rw [e1] at hp; cases hp
  · rw [hv] at e; injection e with e1; rw [e1] at hp; injection hp with hp; subst hp
    exact ⟨(Array.getElem?_eq_some_iff.1 hh).1, _, _, hh⟩
theorem fillC_size (g : Nat) : ∀ (us : List Value) (w : World) (i : Nat), (Bk.fillC w g i us).heap.size = w.heap.size
  | [], _, _ => rfl
  | v :: us, w, i => by
    show (Bk.fillC (w.setCell ⟨g, i, none⟩ v) g (i + 1) us).heap.size = _
    rw [fillC_size g us]; simp
def frL (f : Fr) (a : Option Addr) (n c : Nat) : List Value := [.bool f.revoke, .int .i64 f.admin, .int .i64 f.target, .int .u64 (f.yes : Nat), .int .u64 (f.no : Nat), .slice a n c, .int .i64 f.longest]
/-- The cells are a rule of the specification. -/
def FrC (w : World) (cs : List Value) (f : Fr) : Prop := ∃ a n c, cs = frL f a n c ∧ Dt w a n c f.days ∧ FrOk f
def FrV (w : World) (v : Value) (f : Fr) : Prop := ∃ cs, v = .agg cs.toArray ∧ FrC w cs f
def RlV (w : World) (v : Value) (r : Rl) : Prop := ∃ h : Hr, v = .agg (hrL h).toArray ∧ Rw 0 w h r
def StV (w : World) (v : Value) (l : List Nat) : Prop := ∃ a n c, v = .agg #[.slice a n c] ∧ Bs w a n c l
theorem FrC.below {w w' : World} {cs : List Value} {f : Fr} (h : FrC w cs f) (hb : Below w.heap.size w w') : FrC w' cs f := by
  obtain ⟨a, n, c, e, hd, hk⟩ := h; exact ⟨a, n, c, e, hd.below hb, hk⟩
theorem FrV.below {w w' : World} {v : Value} {f : Fr} (h : FrV w v f) (hb : Below w.heap.size w w') : FrV w' v f := by
  obtain ⟨cs, e, h⟩ := h; exact ⟨cs, e, h.below hb⟩
theorem FrC.fill {w : World} {cs : List Value} {f : Fr} {g : Nat} {us zs : List Value} (h : FrC w cs f) (hg : w.heap[g]? = some (.cells zs.toArray 35 (0, 0))) : FrC (Bk.fillC w g 0 us) cs f := by
  obtain ⟨a, n, c, e, hd, hk⟩ := h
  exact ⟨a, n, c, e, hd.fill hg (by decide) (Nat.le_of_eq (fillC_size _ _ _ _).symm) (fun b hb => Bk.fillC_heap hb _ _ _), hk⟩
theorem FrV.fill {w : World} {v : Value} {f : Fr} {g : Nat} {us zs : List Value} (h : FrV w v f) (hg : w.heap[g]? = some (.cells zs.toArray 35 (0, 0))) : FrV (Bk.fillC w g 0 us) v f := by
  obtain ⟨cs, e, h⟩ := h; exact ⟨cs, e, h.fill hg⟩
theorem RlV.below {w w' : World} {v : Value} {r : Rl} (h : RlV w v r) (hb : Below w.heap.size w w') : RlV w' v r := by
  obtain ⟨k, e, h⟩ := h; exact ⟨k, e, h.below hb⟩
theorem StV.below {w w' : World} {v : Value} {l : List Nat} (h : StV w v l) (hb : Below w.heap.size w w') : StV w' v l := by
  obtain ⟨a, n, c, e, h⟩ := h; exact ⟨a, n, c, e, h.below hb⟩
end Go.Proofs.YtfjpbkmnlmecgaaGreatDoor.Ru
end

section
/- Raw.plain. -/
namespace Go.Proofs.YtfjpbkmnlmecgaaGreatDoor.Ru
open Go.RowKit Go.PlainAid Go.Maps Go.Shelf Go.Proofs.YtfjpbkmnlmecgaaGreatDoor Go.Proofs.YtfjpbkmnlmecgaaGreatDoor.Bz
set_option linter.unusedVariables false
set_option linter.unusedSimpArgs false
set_option maxHeartbeats 4000000
set_option maxRecDepth 20000

theorem even_ldf (y : Nat) : ldf y 1 % 2 = 0 := by
  have h : (ldf y 1).testBit 0 = false := by
    unfold ldf
    rw [Nat.testBit_and]
    have : (18446744073709551615 - 1 : Nat).testBit 0 = false := by decide
    rw [this, Bool.and_false]
  rw [Nat.testBit_zero] at h
  have := Nat.mod_two_eq_zero_or_one (ldf y 1)
  rcases this with e | e
  · exact e
  · rw [e] at h; cases h
theorem plain_any (rv : Bool) (ad tg lg : Int) (y z : Nat) (a : Option Addr) (n c : Nat) (l : List (Int × Int)) (w : World) (h : Ss w a n c l) (hr : ∀ p ∈ l, -32768 ≤ p.1 ∧ p.1 ≤ 32767 ∧ -32768 ≤ p.2 ∧ p.2 ≤ 32767) (hy : y < 18446744073709551616) (hz : z < 18446744073709551616) :
    Calls Tryz.prog 14 #[.agg #[.bool rv, .int .i64 ad, .int .i64 tg, .int .i64 lg, .int .u64 (y : Nat), .int .u64 (z : Nat), .slice a n c]] w fun e w' => ∃ v f, e = .returned v ∧ FrV w' v f ∧ Below w.heap.size w w' := by
  obtain ⟨i0, hi, hz0', hz1', hz2'⟩ := info_parts infoI2
  have hL : l.length = n := h.1
  have hcap := h.2.1
  have hmx := h.2.2.1
  unfold maxLen at hmx
  have HS := Lib.hid h
  clear h
  obtain ⟨W1, hW1⟩ : ∃ W1, W1 = (w.alloc (.cells #[.bool rv, .int .i64 ad, .int .i64 tg, .int .i64 lg, .int .u64 (y : Nat), .int .u64 (z : Nat), .slice a n c] 32)).alloc (.cells #[.bool false, .int .i64 0, .int .i64 0, .int .u64 0, .int .u64 0, .slice none 0 0, .int .i64 0] 35) := ⟨_, rfl⟩
  have hz1 : W1.heap.size = w.heap.size + 2 := by rw [hW1]; simp
  have hB1 : Below w.heap.size w W1 := by rw [hW1]; exact ((Below.refl _ _).alloc (Nat.le_refl _) _).alloc (by simp) _
  have HQ : Hid (∀ w', Below W1.heap.size W1 w' → w'.cell? ⟨w.heap.size, 0, none⟩ = some (.bool rv) ∧ w'.cell? ⟨w.heap.size, 1, none⟩ = some (.int .i64 ad) ∧ w'.cell? ⟨w.heap.size, 2, none⟩ = some (.int .i64 tg) ∧ w'.cell? ⟨w.heap.size, 3, none⟩ = some (.int .i64 lg) ∧ w'.cell? ⟨w.heap.size, 4, none⟩ = some (.int .u64 (y : Nat)) ∧ w'.cell? ⟨w.heap.size, 5, none⟩ = some (.int .u64 (z : Nat)) ∧ w'.cell? ⟨w.heap.size, 6, none⟩ = some (.slice a n c)) := fun w' hb => by
    rw [hz1, hW1] at hb
    have h1 : Below (w.heap.size + 1) (w.alloc (.cells #[.bool rv, .int .i64 ad, .int .i64 tg, .int .i64 lg, .int .u64 (y : Nat), .int .u64 (z : Nat), .slice a n c] 32)) w' := ((Below.refl _ _).alloc (by simp) _).trans (hb.mono (by omega))
    exact (box7 (Nat.le_refl _) h1).1
  have HB : Hid (∀ w', Below W1.heap.size W1 w' → Below w.heap.size w w') := fun w' hb => hB1.trans (hb.mono (by omega))
  have HR0 : Hid (∀ w', Below W1.heap.size W1 w' → w'.heap[w.heap.size + 1]? = some (.cells #[.bool false, .int .i64 0, .int .i64 0, .int .u64 0, .int .u64 0, .slice none 0 0, .int .i64 0] 35 (0, 0))) := fun w' hb => by
    have h := heap_alloc_new (w.alloc (.cells #[.bool rv, .int .i64 ad, .int .i64 tg, .int .i64 lg, .int .u64 (y : Nat), .int .u64 (z : Nat), .slice a n c] 32)) (.cells #[.bool false, .int .i64 0, .int .i64 0, .int .u64 0, .int .u64 0, .slice none 0 0, .int .i64 0] 35)
    rw [World.size_alloc, ← hW1] at h
    exact (hb.block _ (by omega)).trans h
  have HQ5 : Hid (∀ w', (w'.cell? ⟨w.heap.size, 0, none⟩ = some (.bool rv) ∧ w'.cell? ⟨w.heap.size, 1, none⟩ = some (.int .i64 ad) ∧ w'.cell? ⟨w.heap.size, 2, none⟩ = some (.int .i64 tg) ∧ w'.cell? ⟨w.heap.size, 3, none⟩ = some (.int .i64 lg) ∧ w'.cell? ⟨w.heap.size, 4, none⟩ = some (.int .u64 (y : Nat)) ∧ w'.cell? ⟨w.heap.size, 5, none⟩ = some (.int .u64 (z : Nat)) ∧ w'.cell? ⟨w.heap.size, 6, none⟩ = some (.slice a n c)) → ∀ w'', Below (w.heap.size + 1) w' w'' → w''.cell? ⟨w.heap.size, 0, none⟩ = some (.bool rv) ∧ w''.cell? ⟨w.heap.size, 1, none⟩ = some (.int .i64 ad) ∧ w''.cell? ⟨w.heap.size, 2, none⟩ = some (.int .i64 tg) ∧ w''.cell? ⟨w.heap.size, 3, none⟩ = some (.int .i64 lg) ∧ w''.cell? ⟨w.heap.size, 4, none⟩ = some (.int .u64 (y : Nat)) ∧ w''.cell? ⟨w.heap.size, 5, none⟩ = some (.int .u64 (z : Nat)) ∧ w''.cell? ⟨w.heap.size, 6, none⟩ = some (.slice a n c)) := fun w' h w'' hb => by
    have k := fun i => hb.cell (p := ⟨w.heap.size, i, none⟩) (Nat.lt_succ_self _)
    exact ⟨(k 0).trans h.1, (k 1).trans h.2.1, (k 2).trans h.2.2.1, (k 3).trans h.2.2.2.1, (k 4).trans h.2.2.2.2.1, (k 5).trans h.2.2.2.2.2.1, (k 6).trans h.2.2.2.2.2.2⟩
  have HE1 : Hid (bits .andNot .u64 ((y : Nat) : Int) 1 = ((ldf y 1 : Nat) : Int)) := u64_andNot_nat y 1 hy (by decide)
  have HE2 : Hid (bits .andNot .u64 ((z : Nat) : Int) 1 = ((ldf z 1 : Nat) : Int)) := u64_andNot_nat z 1 hz (by decide)
  have HL1 : Hid (ldf y 1 < 18446744073709551616 ∧ ldf z 1 < 18446744073709551616 ∧ ldf y 1 % 2 = 0 ∧ ldf z 1 % 2 = 0) := ⟨ldf_lt hy, ldf_lt hz, even_ldf y, even_ldf z⟩
  generalize ldf y 1 = yv at *
  generalize ldf z 1 = zv at *
  obtain ⟨k, hk⟩ : ∃ k : Nat, k = min n 6 := ⟨_, rfl⟩
  have hmn : (min (n : Int) 6) = (k : Int) := by omega
  have hmk : (max (k : Int) 0) = (k : Int) := by omega
  have H4 := Lib.hid HS.out.2.2.2
  go_enter Tryz.func14, Tryz.ntmps14
  go_wp2_with fail
  rw [← hW1]
  try simp only [hmn, hmk, Int.toNat_natCast]
  clear hW1
  go_loopw [3, 16] (fun v3 v16 wr => ∃ j : Nat, j ≤ k ∧ v16 = .int .i64 j ∧ Dy.Os 80 wr W1.heap.size v3 ((l.take j).filter keepP) ∧ Below W1.heap.size W1 wr) (fun _ v wr => k - (intOf v).toNat)
  case atStart => exact ⟨0, by omega, rfl, Dy.Os.nil _ _ _, Below.refl _ _⟩
  case round =>
    obtain ⟨j, hj, rfl, hown, hbw⟩ := hrel
    by_cases hjk : j < k
    · rcases H4.out with h0 | ⟨b, o, rfl, hb, hcell⟩
      · omega
      obtain ⟨⟨p1, p2⟩, hp⟩ : ∃ p, l[j]? = some p := ⟨_, List.getElem?_eq_getElem (by omega)⟩
      obtain ⟨x1, x2⟩ := hcell j _ hp
      have hbx := hB1.cell (p := ⟨b, o + j * 2, none⟩) hb
      have hby := hB1.cell (p := ⟨b, o + j * 2 + 1, none⟩) hb
      have hbl : b < W1.heap.size := Nat.lt_of_lt_of_le hb hB1.size
      have x1 := (hbw.cell (p := ⟨b, _, none⟩) hbl).trans (hbx.trans x1)
      have x2 := (hbw.cell (p := ⟨b, _, none⟩) hbl).trans (hby.trans x2)
      obtain ⟨r1, r2, r3, r4⟩ := hr _ (List.mem_of_getElem? hp)
      have HP := Lib.hid hp
      dsimp only at x1 x2 r1 r2 r3 r4
      have hj0 : (0 : Int) ≤ (j : Int) := Int.natCast_nonneg _
      have hj1 : (j : Int) < (k : Int) := by omega
      have w1 : IntKind.i64.wrap p1 = p1 := by rw [IntKind.wrap_i64]; omega
      have w2 : IntKind.i64.wrap p2 = p2 := by rw [IntKind.wrap_i64]; omega
      have hb51 : Below wr.heap.size wr (wr.alloc (.cells #[.int .i16 p1, .int .i16 p2] 111)).drew := ((Below.refl _ _).alloc (Nat.le_refl _) _).drew
      have hb5 := hbw.trans (hb51.mono hbw.size)
      have ho5 := Dy.Os.below hown (Nat.le_refl _) hb51
      have hb52 : Below wr.heap.size wr ((wr.alloc (.cells #[.int .i16 p1, .int .i16 p2] 111)).alloc (.cells #[.int .i64 p1, .int .i64 p2] 80)).drew := (((Below.refl _ _).alloc (Nat.le_refl _) _).alloc (by simp) _).drew
      have hb53 := hbw.trans (hb52.mono hbw.size)
      have ho52 := Dy.Os.below hown (Nat.le_refl _) hb52
      have hd52 : Dy.Ds ((wr.alloc (.cells #[.int .i16 p1, .int .i16 p2] 111)).alloc (.cells #[.int .i64 p1, .int .i64 p2] 80)).drew (some ⟨wr.heap.size + 1, 0, none⟩) 1 1 [(p1, p2)] := by
        refine ⟨rfl, by omega, by decide, .inr ⟨_, 0, rfl, by simp, fun i p hp => ?_⟩⟩
        rcases i with _ | i
        · cases hp
          constructor <;> simp [go_sem]
        · cases hp
      have hs53 := hb53.size
      have hl53 := keep_len l j
      have hS5 : (wr.alloc (.cells #[.int .i16 p1, .int .i16 p2] 111)).drew.cell? ⟨wr.heap.size, 0, none⟩ = some (.int .i16 p1) ∧ (wr.alloc (.cells #[.int .i16 p1, .int .i16 p2] 111)).drew.cell? ⟨wr.heap.size, 1, none⟩ = some (.int .i16 p2) := by
        constructor <;> simp [go_sem]
      clear hcell hp hbx hby
      go_wp2_with fail
      refine wp_region_noPanic ?_
      refine region_ord (S := fun w' => w'.cell? ⟨wr.heap.size, 0, none⟩ = some (.int .i16 p1) ∧ w'.cell? ⟨wr.heap.size, 1, none⟩ = some (.int .i16 p2)) [0, 1, 2, 3, 4, 5, 6, 7] (by kernel_rfl) (by decide +kernel) (fun _ _ _ _ _ h => h) hS5 (fun _ => ?_)
      repeat (first
        | (refine' ord_light (v := _) rfl rfl rfl (fun w' hSw => ?_) ?_; rotate_left; (focus ((try dsimp only at hSw); go_simp <;> (with_reducible rfl))); (try simp only [Act.put, List.setIfInBounds_toArray, List.set_cons_zero, List.set_cons_succ])))
      refine ord_nil (NoPanic.normal ?_)
      by_cases g1 : 0 ≤ p1
      · by_cases g2 : p1 ≤ p2
        · by_cases g3 : p2 ≤ 30000
          · go_wp2_with (first | (at_builtin; refine Dy.wpList_append_ds rfl (.tmp 37) (.tmp 41) 33 80 rfl Tryz.underlying33 W1.heap.size i0 hi hz0' hz1' hz2' _ _ rfl ho52 _ 1 1 [(p1, p2)] rfl hd52 (by omega) (by omega) ?_; intro v8 w8 ho8 hg8; have hb8 := hb53.grown hg8 (by omega) (fun b hb => (ho52.lt b hb).1)))
            go_roundw
            case rel => exact ⟨j + 1, by omega, by go_num, by rw [keep_yes (by with_reducible exact HP.out) g1 g2 g3]; exact ho8, hb8⟩
            case measure => simp [intOf]; omega
          · go_wp2_with fail
            go_roundw
            case rel => exact ⟨j + 1, by omega, by go_num, by rw [keep_no (by with_reducible exact HP.out) (by dsimp only; omega)]; exact ho5, hb5⟩
            case measure => simp [intOf]; omega
        · go_wp2_with fail
          go_roundw
          case rel => exact ⟨j + 1, by omega, by go_num, by rw [keep_no (by with_reducible exact HP.out) (by dsimp only; omega)]; exact ho5, hb5⟩
          case measure => simp [intOf]; omega
      · go_wp2_with fail
        go_roundw
        case rel => exact ⟨j + 1, by omega, by go_num, by rw [keep_no (by with_reducible exact HP.out) (by dsimp only; omega)]; exact ho5, hb5⟩
        case measure => simp [intOf]; omega
    · obtain rfl : j = k := by omega
      have HPL : Hid ((l.take j).filter keepP = plainL l) := by
        show _ = _
        unfold plainL
        by_cases h6 : n ≤ 6
        · rw [List.take_of_length_le (by omega), List.take_of_length_le (by omega)]
        · rw [show j = 6 by omega]
      rw [HPL.out] at hown
      obtain ⟨a5, n5, c5, hv3, hn5, hd5⟩ := hown.dn
      subst hv3
      have HN := Lib.hid (normal_any a5 n5 c5 (plainL l) wr.drew hd5 (plainL_ok l))
      have e1 := HE1.out
      have e2 := HE2.out
      clear HPL hd5 hown hn5 H4
      go_wp2_with fail
      have hk1 := hbw.drew
      refine wp_region_noPanic ?_
      refine region_ord (S := fun w' => w'.cell? ⟨w.heap.size, 0, none⟩ = some (.bool rv) ∧ w'.cell? ⟨w.heap.size, 1, none⟩ = some (.int .i64 ad) ∧ w'.cell? ⟨w.heap.size, 2, none⟩ = some (.int .i64 tg) ∧ w'.cell? ⟨w.heap.size, 3, none⟩ = some (.int .i64 lg) ∧ w'.cell? ⟨w.heap.size, 4, none⟩ = some (.int .u64 (y : Nat)) ∧ w'.cell? ⟨w.heap.size, 5, none⟩ = some (.int .u64 (z : Nat)) ∧ w'.cell? ⟨w.heap.size, 6, none⟩ = some (.slice a n c)) [0, 1, 2, 3, 4, 5, 6, 7, 8, 9, 10, 11, 12, 14, 15, 13, 16, 17] (by kernel_rfl) (by decide +kernel) (fun _ _ _ _ _ h => h) (HQ.out _ hk1) (fun _ => ?_)
      repeat (first
        | (refine' ord_light (v := _) rfl rfl rfl (fun w' hSw => ?_) ?_; rotate_left; (focus ((try dsimp only at hSw); go_simp <;> (with_reducible rfl))); (try simp only [Act.put, List.setIfInBounds_toArray, List.set_cons_zero, List.set_cons_succ])))
      refine ord_heavy rfl rfl (fun K hK => ?_)
      go_simp
      go_at_call 53
      refine HN.out.mono ?_
      rintro en w6 ⟨v6, r6, rfl, ho6, hc6, hm6, hb6⟩
      have hk6 := hk1.trans (hb6.mono hk1.size)
      obtain ⟨a6, n6, c6, hv6, hd6⟩ := Os_dt ho6
      subst hv6
      refine hK.out _ _ (HQ.out _ hk6) ?_
      clear hK K
      try simp only [Act.put, List.setIfInBounds_toArray, List.set_cons_zero, List.set_cons_succ]
      refine' ord_light (v := _) rfl rfl rfl (fun w' hSw => ?_) ?_
      rotate_left
      · (try dsimp only at hSw); go_simp <;> (with_reducible rfl)
      try simp only [Act.put, List.setIfInBounds_toArray, List.set_cons_zero, List.set_cons_succ]
      have hR6 := HR0.out _ hk6
      have hfl := Bk.fillC_at (fz := (0, 0)) [.bool rv, .int .i64 ad, .int .i64 tg, .int .u64 (yv : Nat), .int .u64 (zv : Nat), .slice a6 n6 c6, .int .i64 lg] [.bool false, .int .i64 0, .int .i64 0, .int .u64 0, .int .u64 0, .slice none 0 0, .int .i64 0] [] w6 rfl hR6
      have hfb := Bk.fillC_below (Nat.le_refl (w.heap.size + 1)) [.bool rv, .int .i64 ad, .int .i64 tg, .int .u64 (yv : Nat), .int .u64 (zv : Nat), .slice a6 n6 c6, .int .i64 lg] w6 0 (Below.refl (w.heap.size + 1) w6)
      have hdf := hd6.fill hR6 (by decide) hfb.size (fun b hb => Bk.fillC_heap hb [.bool rv, .int .i64 ad, .int .i64 tg, .int .u64 (yv : Nat), .int .u64 (zv : Nat), .slice a6 n6 c6, .int .i64 lg] w6 0)
      have HS7 := Lib.hid (HQ5.out _ (HQ.out _ hk6) _ hfb)
      have HB7 := Lib.hid ((HB.out _ hk6).trans (hfb.mono (by omega)))
      obtain ⟨⟨m0, m1, m2, m3, m4, m5, m6⟩, f0, f1, f2, f3, f4, f5, f6⟩ := cell7 hR6
      have HDF := Lib.hid hdf
      have HFL := Lib.hid hfl
      clear hdf hfl hfb
      refine ord_heavy rfl rfl (fun K hK => ?_)
      go_simp
      (try go_wp2_with fail)
      refine hK.out _ _ HS7.out ?_
      clear hK K
      try simp only [Act.put, List.setIfInBounds_toArray, List.set_cons_zero, List.set_cons_succ]
      refine ord_nil (NoPanic.normal ?_)
      go_wp2_with fail
      have hfl2 := HFL.out
      simp only [Bk.fillC, List.length_nil, Nat.zero_add, Nat.reduceAdd, List.nil_append] at hfl2
      obtain ⟨⟨k0, k1, k2, k3, k4, k5, k6⟩, -⟩ := cell7 hfl2
      refine bodyPost_ret (v := .agg #[.bool rv, .int .i64 ad, .int .i64 tg, .int .u64 (yv : Nat), .int .u64 (zv : Nat), .slice a6 n6 c6, .int .i64 lg]) (by simp [results, Tryz.results14, go_sem, k0, k1, k2, k3, k4, k5, k6]) rfl ?_
      exact ⟨_, ⟨rv, ad, tg, yv, zv, r6, lg⟩, rfl, ⟨_, rfl, a6, n6, c6, rfl, HDF.out, HL1.out.1, HL1.out.2.1, HL1.out.2.2.1, HL1.out.2.2.2, hc6⟩, HB7.out⟩
end Go.Proofs.YtfjpbkmnlmecgaaGreatDoor.Ru
end
