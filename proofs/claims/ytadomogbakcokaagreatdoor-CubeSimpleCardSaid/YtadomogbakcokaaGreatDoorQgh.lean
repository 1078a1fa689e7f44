/- Several of the texts below, joined: CuA CuM CuB. -/
import Derived.Test.YtadomogbakcokaaGreatDoorQgg
import Derived.Test.YtadomogbakcokaaGreatDoorQga
import Derived.Test.YtadomogbakcokaaGreatDoorQgd
section
/- Memory of cubes; contracts of Empty, Holds, Within, both, Meet, Compare, Equal. -/
namespace Go.Proofs.YtadomogbakcokaaGreatDoor
open Go.RowKit Go.PlainAid
set_option linter.unusedVariables false
set_option linter.unusedSimpArgs false
set_option maxHeartbeats 2000000

/-- The two slices of a cube. -/
structure Hd where
  a : Option Addr
  n : Nat
  c : Nat
  b : Option Addr
  m : Nat
  d : Nat
def hdE : Enc Hd 2 := ⟨fun h => [.slice h.a h.n h.c, .slice h.b h.m h.d], fun _ => rfl, fun h u hu => by
  simp at hu
  rcases hu with rfl | rfl <;> rfl⟩
/-- The slices are the cube's sets. -/
def Cb (w : World) (h : Hd) (x : Cu) : Prop := Bs w h.a h.n h.c x.1 ∧ Bs w h.b h.m h.d x.2
theorem Cb.below {w w' : World} {h : Hd} {x : Cu} (k : Cb w h x) (hb : Below w.heap.size w w') : Cb w' h x := ⟨k.1.below hb, k.2.below hb⟩
theorem Bs.asc' {w : World} {a : Option Addr} {n cap : Nat} {l : List Nat} (h : Bs w a n cap l) : Asc l := by
  obtain ⟨ws, _, hr⟩ := h; exact hr.asc
theorem Cb.ok {w : World} {h : Hd} {x : Cu} (k : Cb w h x) : CuOk x := ⟨k.1.asc', k.2.asc'⟩
theorem Cb.nil (w : World) : Cb w ⟨none, 0, 0, none, 0, 0⟩ ([], []) := ⟨Bs.nil _, Bs.nil _⟩
/-- A cube is returned. -/
def CubePost (w : World) (x : Cu) (e : Ending) (w' : World) : Prop := ∃ a n c b m d, e = .returned (.agg #[.slice a n c, .slice b m d]) ∧ Cb w' ⟨a, n, c, b, m, d⟩ x ∧ Below w.heap.size w w'
def BoolPost (w : World) (t : Bool) (e : Ending) (w' : World) : Prop := e = .returned (.bool t) ∧ Below w.heap.size w w'
def IntPost (w : World) (t : Int) (e : Ending) (w' : World) : Prop := e = .returned (.int .i64 t) ∧ Below w.heap.size w w'

theorem boxC {w wr : World} {x y : Value} {T : TypeId} (h : Below (w.alloc (.cells #[x, y] T)).heap.size (w.alloc (.cells #[x, y] T)) wr) : wr.cell? ⟨w.heap.size, 0, none⟩ = some x ∧ wr.cell? ⟨w.heap.size, 1, none⟩ = some y ∧ w.heap.size < wr.heap.size ∧ Below w.heap.size w wr :=
  ⟨(h.cell (p := ⟨w.heap.size, 0, none⟩) (by simp)).trans (by simp), (h.cell (p := ⟨w.heap.size, 1, none⟩) (by simp)).trans (by simp), by have := h.size; simp at this; omega, bel1 h⟩
theorem bx1 {w W wr : World} {k B : Nat} {x : Value} (hc : W.cell? ⟨k, 0, none⟩ = some x) (hk : k < B) (h : Below B W wr) : wr.cell? ⟨k, 0, none⟩ = some x := (h.cell (p := ⟨k, 0, none⟩) hk).trans hc
/-- Two boxed cubes. -/
theorem boxCC {w wr : World} {x y z u : Value} {T S : TypeId} (h : Below (w.heap.size + 2) ((w.alloc (.cells #[x, y] T)).alloc (.cells #[z, u] S)) wr) :
    wr.cell? ⟨w.heap.size, 0, none⟩ = some x ∧ wr.cell? ⟨w.heap.size, 1, none⟩ = some y ∧ wr.cell? ⟨w.heap.size + 1, 0, none⟩ = some z ∧ wr.cell? ⟨w.heap.size + 1, 1, none⟩ = some u ∧ w.heap.size + 2 ≤ wr.heap.size ∧ Below w.heap.size w wr := by
  have hz := h.size
  simp only [World.size_alloc] at hz
  refine ⟨(h.cell (p := ⟨w.heap.size, 0, none⟩) (show w.heap.size < w.heap.size + 2 by omega)).trans (by simp), (h.cell (p := ⟨w.heap.size, 1, none⟩) (show w.heap.size < w.heap.size + 2 by omega)).trans (by simp),
    (h.cell (p := ⟨w.heap.size + 1, 0, none⟩) (show w.heap.size + 1 < w.heap.size + 2 by omega)).trans ?_, (h.cell (p := ⟨w.heap.size + 1, 1, none⟩) (show w.heap.size + 1 < w.heap.size + 2 by omega)).trans ?_, by omega, bel2 (h.mono (by simp))⟩
  · have := World.size_alloc w (.cells #[x, y] T)
    rw [← this]; simp
  · have := World.size_alloc w (.cells #[x, y] T)
    rw [← this]; simp
/-- A boxed cube and a boxed set. -/
theorem boxCS {w wr : World} {x y z : Value} {T S : TypeId} (h : Below (w.heap.size + 2) ((w.alloc (.cells #[x, y] T)).alloc (.cells #[z] S)) wr) :
    wr.cell? ⟨w.heap.size, 0, none⟩ = some x ∧ wr.cell? ⟨w.heap.size, 1, none⟩ = some y ∧ wr.cell? ⟨w.heap.size + 1, 0, none⟩ = some z ∧ w.heap.size + 2 ≤ wr.heap.size ∧ Below w.heap.size w wr := by
  have hz := h.size
  simp only [World.size_alloc] at hz
  refine ⟨(h.cell (p := ⟨w.heap.size, 0, none⟩) (show w.heap.size < w.heap.size + 2 by omega)).trans (by simp), (h.cell (p := ⟨w.heap.size, 1, none⟩) (show w.heap.size < w.heap.size + 2 by omega)).trans (by simp),
    (h.cell (p := ⟨w.heap.size + 1, 0, none⟩) (show w.heap.size + 1 < w.heap.size + 2 by omega)).trans ?_, by omega, bel2 (h.mono (by simp))⟩
  have := World.size_alloc w (.cells #[x, y] T)
  rw [← this]; simp

theorem meets_c (a b : Option Addr) (n m cap dap : Nat) (l r : List Nat) (w : World) (h : Bs w a n cap l) (k : Bs w b m dap r) :
    Calls Tryz.prog 59 #[.agg #[.slice a n cap], .agg #[.slice b m dap]] w (BoolPost w (meetB l r)) := (meets_any a b n m cap dap l r w h k).mono fun _ _ h => h
theorem within_c (a b : Option Addr) (n m cap dap : Nat) (l r : List Nat) (w : World) (h : Bs w a n cap l) (k : Bs w b m dap r) :
    Calls Tryz.prog 58 #[.agg #[.slice a n cap], .agg #[.slice b m dap]] w (BoolPost w (subB l r)) := (within_any a b n m cap dap l r w h k).mono fun _ _ h => h
def eqL (l r : List Nat) : Bool := decide (l = r)
theorem equal_c (a b : Option Addr) (n m cap dap : Nat) (l r : List Nat) (w : World) (h : Bs w a n cap l) (k : Bs w b m dap r) :
    Calls Tryz.prog 65 #[.agg #[.slice a n cap], .agg #[.slice b m dap]] w (BoolPost w (eqL l r)) := (equal_any a b n m cap dap l r w h k).mono fun _ _ h => h

theorem emptyC_any (a b : Option Addr) (n c m d : Nat) (x : Cu) (w : World) (h : Cb w ⟨a, n, c, b, m, d⟩ x) :
    Calls Tryz.prog 21 #[.agg #[.slice a n c, .slice b m d]] w (BoolPost w (emptyC x)) := by
  have HM := Lib.hid (fun w' (hb : Below w.heap.size w w') => meets_c a b n m c d x.1 x.2 w' (h.1.below hb) (h.2.below hb))
  clear h
  unfold emptyC
  generalize meetB x.1 x.2 = t at HM ⊢
  go_enter Tryz.func21, Tryz.ntmps21
  go_wp2_with (go_at_call 59; refine (HM.out _ ((Below.refl _ w).alloc (Nat.le_refl _) _)).mono ?_; rintro e w1 ⟨rfl, hb1⟩)
  go_ret
  exact ⟨rfl, bel1 hb1⟩

theorem holdsC_any (a b e : Option Addr) (n c m d k f : Nat) (x : Cu) (s : List Nat) (w : World) (h : Cb w ⟨a, n, c, b, m, d⟩ x) (hs : Bs w e k f s) :
    Calls Tryz.prog 17 #[.agg #[.slice a n c, .slice b m d], .agg #[.slice e k f]] w (BoolPost w (holdsC x s)) := by
  have HW := Lib.hid (fun w' (hb : Below w.heap.size w w') => within_c a e n k c f x.1 s w' (h.1.below hb) (hs.below hb))
  have HM := Lib.hid (fun w' (hb : Below w.heap.size w w') => meets_c b e m k d f x.2 s w' (h.2.below hb) (hs.below hb))
  have HE : Hid (holdsC x s = (subB x.1 s && !meetB x.2 s)) := rfl
  clear h hs
  generalize subB x.1 s = p at HW HE
  generalize meetB x.2 s = q at HM HE
  have hb0 := Lib.hid (((Below.refl w.heap.size w).alloc (Nat.le_refl _) (.cells #[.slice a n c, .slice b m d] 34)).alloc (by simp) (.cells #[.slice e k f] 32))
  cases p
  · go_enter Tryz.func17, Tryz.ntmps17
    go_wp2_with (go_at_call 58; refine (HW.out _ hb0.out).mono ?_; rintro e w1 ⟨rfl, hb1⟩)
    go_ret
    exact ⟨by rw [HE.out]; rfl, bel2 hb1⟩
  · go_enter Tryz.func17, Tryz.ntmps17
    go_wp2_with (first
      | (go_at_call 58; refine (HW.out _ hb0.out).mono ?_; rintro e w1 ⟨rfl, hb1⟩; obtain ⟨-, c1, c2, hz, hB⟩ := boxCS (hb1.mono (by simp)))
      | (go_at_call 59; refine (HM.out _ hB).mono ?_; rintro e w2 ⟨rfl, hb2⟩))
    go_ret
    exact ⟨by rw [HE.out]; rfl, hB.trans (hb2.mono hB.size)⟩

theorem withinC_any (a b a' b' : Option Addr) (n c m d n' c' m' d' : Nat) (x y : Cu) (w : World) (h : Cb w ⟨a, n, c, b, m, d⟩ x) (k : Cb w ⟨a', n', c', b', m', d'⟩ y) :
    Calls Tryz.prog 37 #[.agg #[.slice a n c, .slice b m d], .agg #[.slice a' n' c', .slice b' m' d']] w (BoolPost w (withinC x y)) := by
  have HE0 := Lib.hid (fun w' (hb : Below w.heap.size w w') => emptyC_any a b n c m d x w' (h.below hb))
  have HW1 := Lib.hid (fun w' (hb : Below w.heap.size w w') => within_c a' a n' n c' c y.1 x.1 w' (k.1.below hb) (h.1.below hb))
  have HW2 := Lib.hid (fun w' (hb : Below w.heap.size w w') => within_c b' b m' m d' d y.2 x.2 w' (k.2.below hb) (h.2.below hb))
  have HE : Hid (withinC x y = (emptyC x || (subB y.1 x.1 && subB y.2 x.2))) := rfl
  clear h k
  generalize emptyC x = p at HE0 HE
  generalize subB y.1 x.1 = q at HW1 HE
  generalize subB y.2 x.2 = r at HW2 HE
  have hb0 := Lib.hid (((Below.refl w.heap.size w).alloc (Nat.le_refl _) (.cells #[.slice a n c, .slice b m d] 34)).alloc (by simp) (.cells #[.slice a' n' c', .slice b' m' d'] 34))
  cases p
  · cases q
    all_goals
      go_enter Tryz.func37, Tryz.ntmps37
      go_wp2_with (first
        | (go_at_call 21; refine (HE0.out _ hb0.out).mono ?_; rintro e w1 ⟨rfl, hb1⟩; obtain ⟨c0, c1, c2, c3, hz, hB⟩ := boxCC (hb1.mono (by simp)))
        | (go_at_call 58; (with_reducible refine (HW1.out _ hB).mono ?_); rintro e w2 ⟨rfl, hb2⟩; have q0 := bx1 (w := w) c0 (show w.heap.size < w1.heap.size by omega) hb2; have q1 := (hb2.cell (p := ⟨w.heap.size, 1, none⟩) (show w.heap.size < w1.heap.size by omega)).trans c1; have q2 := bx1 (w := w) c2 (show w.heap.size + 1 < w1.heap.size by omega) hb2; have q3 := (hb2.cell (p := ⟨w.heap.size + 1, 1, none⟩) (show w.heap.size + 1 < w1.heap.size by omega)).trans c3; have hB2 := hB.trans (hb2.mono hB.size))
        | (go_at_call 58; (with_reducible refine (HW2.out _ hB2).mono ?_); rintro e w3 ⟨rfl, hb3⟩; have hB2 := hB2.trans (hb3.mono hB2.size)))
      go_ret
      exact ⟨by rw [HE.out]; rfl, hB2⟩
  · go_enter Tryz.func37, Tryz.ntmps37
    go_wp2_with (go_at_call 21; refine (HE0.out _ hb0.out).mono ?_; rintro e w1 ⟨rfl, hb1⟩)
    go_ret
    exact ⟨by rw [HE.out]; rfl, bel2 hb1⟩

theorem equalC_any (a b a' b' : Option Addr) (n c m d n' c' m' d' : Nat) (x y : Cu) (w : World) (h : Cb w ⟨a, n, c, b, m, d⟩ x) (k : Cb w ⟨a', n', c', b', m', d'⟩ y) :
    Calls Tryz.prog 29 #[.agg #[.slice a n c, .slice b m d], .agg #[.slice a' n' c', .slice b' m' d']] w (BoolPost w (decide (x = y))) := by
  have HW1 := Lib.hid (fun w' (hb : Below w.heap.size w w') => equal_c a a' n n' c c' x.1 y.1 w' (h.1.below hb) (k.1.below hb))
  have HW2 := Lib.hid (fun w' (hb : Below w.heap.size w w') => equal_c b b' m m' d d' x.2 y.2 w' (h.2.below hb) (k.2.below hb))
  have HE : Hid (decide (x = y) = (eqL x.1 y.1 && eqL x.2 y.2)) := by
    show _ = _
    unfold eqL
    rw [Bool.eq_iff_iff, Bool.and_eq_true, decide_eq_true_iff, decide_eq_true_iff, decide_eq_true_iff]
    exact ⟨fun e => by rw [e]; exact ⟨rfl, rfl⟩, fun e => Prod.ext e.1 e.2⟩
  clear h k
  generalize eqL x.1 y.1 = q at HW1 HE
  generalize eqL x.2 y.2 = r at HW2 HE
  generalize decide (x = y) = z at HE ⊢
  have hb0 := Lib.hid (((Below.refl w.heap.size w).alloc (Nat.le_refl _) (.cells #[.slice a n c, .slice b m d] 34)).alloc (by simp) (.cells #[.slice a' n' c', .slice b' m' d'] 34))
  cases q
  all_goals
    go_enter Tryz.func29, Tryz.ntmps29
    go_wp2_with (first
        | (go_at_call 65; (with_reducible refine (HW1.out _ hb0.out).mono ?_); rintro e w1 ⟨rfl, hb1⟩; obtain ⟨c0, c1, c2, c3, hz, hB⟩ := boxCC (hb1.mono (by simp)))
        | (go_at_call 65; (with_reducible refine (HW2.out _ hB).mono ?_); rintro e w3 ⟨rfl, hb3⟩; have hB := hB.trans (hb3.mono hB.size)))
    go_ret
    exact ⟨by rw [HE.out]; rfl, hB⟩

theorem compareC_any (a b a' b' : Option Addr) (n c m d n' c' m' d' : Nat) (x y : Cu) (w : World) (h : Cb w ⟨a, n, c, b, m, d⟩ x) (k : Cb w ⟨a', n', c', b', m', d'⟩ y) (hT : Tz w) :
    Calls Tryz.prog 27 #[.agg #[.slice a n c, .slice b m d], .agg #[.slice a' n' c', .slice b' m' d']] w (IntPost w (cmpC x y)) := by
  have HW1 := Lib.hid (fun w' (hb : Below w.heap.size w w') => compare_any a a' n n' c c' x.1 y.1 w' (h.1.below hb) (k.1.below hb) (hT.below hb))
  have HW2 := Lib.hid (fun w' (hb : Below w.heap.size w w') => compare_any b b' m m' d d' x.2 y.2 w' (h.2.below hb) (k.2.below hb) (hT.below hb))
  have HE : Hid (cmpC x y = if cmpL x.1 y.1 = 0 then cmpL x.2 y.2 else cmpL x.1 y.1) := rfl
  clear h k hT
  generalize cmpL x.1 y.1 = q at HW1 HE
  generalize cmpL x.2 y.2 = r at HW2 HE
  have hb0 := Lib.hid (((Below.refl w.heap.size w).alloc (Nat.le_refl _) (.cells #[.slice a n c, .slice b m d] 34)).alloc (by simp) (.cells #[.slice a' n' c', .slice b' m' d'] 34))
  by_cases hq : q = 0
  · subst hq
    go_enter Tryz.func27, Tryz.ntmps27
    go_wp2_with (first
        | (go_at_call 63; (with_reducible refine (HW1.out _ hb0.out).mono ?_); rintro e w1 ⟨rfl, hb1⟩; obtain ⟨c0, c1, c2, c3, hz, hB⟩ := boxCC (hb1.mono (by simp)))
        | (go_at_call 63; (with_reducible refine (HW2.out _ hB).mono ?_); rintro e w3 ⟨rfl, hb3⟩; have hB := hB.trans (hb3.mono hB.size)))
    go_ret
    exact ⟨by rw [HE.out]; rfl, hB⟩
  · have HQ := Lib.hid hq
    have hq1 : (q != 0) = true := by simpa using hq
    clear hq
    go_enter Tryz.func27, Tryz.ntmps27
    go_wp2_with (go_at_call 63; (with_reducible refine (HW1.out _ hb0.out).mono ?_); rintro e w1 ⟨rfl, hb1⟩)
    go_ret
    exact ⟨by rw [HE.out, if_neg HQ.out]; rfl, bel2 hb1⟩

/-- Both cells of a block are written. -/
theorem stw2 {w : World} {g : Nat} {x y u v : Value} (t0 : w.cell? ⟨g, 0, none⟩ = some x) (t1 : w.cell? ⟨g, 1, none⟩ = some y) :
    ((w.setCell ⟨g, 0, none⟩ u).setCell ⟨g, 1, none⟩ v).cell? ⟨g, 0, none⟩ = some u ∧ ((w.setCell ⟨g, 0, none⟩ u).setCell ⟨g, 1, none⟩ v).cell? ⟨g, 1, none⟩ = some v := by
  constructor
  · rw [World.cell?_setCell_other _ _ _ _ (fun e => by injection e with e1 e2; omega)]
    exact World.cell?_setCell_same _ _ _ t0
  · exact World.cell?_setCell_same _ _ _ ((World.cell?_setCell_other _ _ _ _ (fun e => by injection e with e1 e2; omega)).trans t1)
theorem Cb.st2 {w : World} {h : Hd} {k : Cu} {g : Nat} {a b : Option Addr} {n c m d : Nat} (hc : Cb w h k) (t0 : w.cell? ⟨g, 0, none⟩ = some (.slice a n c)) (t1 : w.cell? ⟨g, 1, none⟩ = some (.slice b m d)) (u v : Value) : Cb ((w.setCell ⟨g, 0, none⟩ u).setCell ⟨g, 1, none⟩ v) h k := by
  have t1' : (w.setCell ⟨g, 0, none⟩ u).cell? ⟨g, 1, none⟩ = some (.slice b m d) := (World.cell?_setCell_other _ _ _ _ (fun e => by injection e with e1 e2; omega)).trans t1
  exact ⟨(hc.1.set t0 (fun x e => by cases e)).set t1' (fun x e => by cases e), (hc.2.set t0 (fun x e => by cases e)).set t1' (fun x e => by cases e)⟩
theorem S4 {w : World} {k g j : Nat} {x y z u v : Value} (hg : k < g ∧ k + 1 < g) (h : w.cell? ⟨k, 0, none⟩ = some x ∧ w.cell? ⟨k, 1, none⟩ = some y ∧ w.cell? ⟨k + 1, 0, none⟩ = some z ∧ w.cell? ⟨k + 1, 1, none⟩ = some u) :
    (w.setCell ⟨g, j, none⟩ v).cell? ⟨k, 0, none⟩ = some x ∧ (w.setCell ⟨g, j, none⟩ v).cell? ⟨k, 1, none⟩ = some y ∧ (w.setCell ⟨g, j, none⟩ v).cell? ⟨k + 1, 0, none⟩ = some z ∧ (w.setCell ⟨g, j, none⟩ v).cell? ⟨k + 1, 1, none⟩ = some u := by
  have key : ∀ i l : Nat, i ≠ g → (w.setCell ⟨g, j, none⟩ v).cell? ⟨i, l, none⟩ = w.cell? ⟨i, l, none⟩ := fun i l hi => World.cell?_setCell_other _ _ _ _ (fun e => hi (by injection e with e1; exact e1.symm))
  rw [key _ _ (by omega), key _ _ (by omega), key _ _ (by omega), key _ _ (by omega)]
  exact h

/-- Four cells of two blocks. -/
def Four (w : World) (k : Nat) (x y z u : Value) : Prop := w.cell? ⟨k, 0, none⟩ = some x ∧ w.cell? ⟨k, 1, none⟩ = some y ∧ w.cell? ⟨k + 1, 0, none⟩ = some z ∧ w.cell? ⟨k + 1, 1, none⟩ = some u
theorem cb_both {w : World} {a b : Option Addr} {n c m d : Nat} {x y : Cu} (h : Bs w a n c (orL x.1 y.1)) (k : Bs w b m d (orL x.2 y.2)) : Cb w ⟨a, n, c, b, m, d⟩ (bothC x y) := by
  unfold Cb
  rw [both1, both2]
  exact ⟨h, k⟩
theorem bothC_any (a b a' b' : Option Addr) (n c m d n' c' m' d' : Nat) (x y : Cu) (w : World) (h : Cb w ⟨a, n, c, b, m, d⟩ x) (k : Cb w ⟨a', n', c', b', m', d'⟩ y) :
    Calls Tryz.prog 76 #[.agg #[.slice a n c, .slice b m d], .agg #[.slice a' n' c', .slice b' m' d']] w (CubePost w (bothC x y)) := by
  have HW1 := Lib.hid (fun w' (hb : Below w.heap.size w w') => or_any a a' n n' c c' x.1 y.1 w' (h.1.below hb) (k.1.below hb))
  have HW2 := Lib.hid (fun w' (hb : Below w.heap.size w w') => or_any b b' m m' d d' x.2 y.2 w' (h.2.below hb) (k.2.below hb))
  clear h k
  obtain ⟨W, hW⟩ : ∃ W, W = (w.alloc (.cells #[.slice a n c, .slice b m d] 34)).alloc (.cells #[.slice a' n' c', .slice b' m' d'] 34) := ⟨_, rfl⟩
  have HS : Hid (∀ w', Below (w.heap.size + 2) W w' → w'.cell? ⟨w.heap.size, 0, none⟩ = some (.slice a n c) ∧ w'.cell? ⟨w.heap.size, 1, none⟩ = some (.slice b m d) ∧ w'.cell? ⟨w.heap.size + 1, 0, none⟩ = some (.slice a' n' c') ∧ w'.cell? ⟨w.heap.size + 1, 1, none⟩ = some (.slice b' m' d')) := by
    rintro w' hb
    rw [hW] at hb
    obtain ⟨c0, c1, c2, c3, _, _⟩ := boxCC hb
    exact ⟨c0, c1, c2, c3⟩
  have HB : Hid (∀ w', Below (w.heap.size + 2) W w' → Below w.heap.size w w') := by
    rintro w' hb
    rw [hW] at hb
    exact (boxCC hb).2.2.2.2.2
  have hz : W.heap.size = w.heap.size + 2 := by rw [hW]; simp
  have HW := Lib.hid hW
  clear hW
  have hB0 : Below (w.heap.size + 2) W (W.alloc (.cells #[.slice none 0 0, .slice none 0 0] 34)).drew := ((Below.refl _ W).alloc (by omega) _).drew
  have hT := Lib.hid (boxC (Below.refl _ (W.alloc (.cells #[.slice none 0 0, .slice none 0 0] 34))))
  have hF : Hid (∀ j, (W.alloc (.cells #[.slice none 0 0, .slice none 0 0] 34)).frozen? ⟨w.heap.size + 1 + 1, j, none⟩ = false) := by
    intro j
    rw [show w.heap.size + 1 + 1 = W.heap.size by omega]
    simp
  rw [hz] at hT
  have hB0 : Below (w.heap.size + 2) W (W.alloc (.cells #[.slice none 0 0, .slice none 0 0] 34)).drew := ((Below.refl _ W).alloc (by omega) _).drew
  have hT := Lib.hid (boxC (Below.refl _ (W.alloc (.cells #[.slice none 0 0, .slice none 0 0] 34))))
  have hF : Hid (∀ j, (W.alloc (.cells #[.slice none 0 0, .slice none 0 0] 34)).frozen? ⟨w.heap.size + 1 + 1, j, none⟩ = false) := by
    intro j
    rw [show w.heap.size + 1 + 1 = W.heap.size by omega]
    simp
  rw [hz] at hT
  have hB0 : Below (w.heap.size + 2) W (W.alloc (.cells #[.slice none 0 0, .slice none 0 0] 34)).drew := ((Below.refl _ W).alloc (by omega) _).drew
  have hT := Lib.hid (boxC (Below.refl _ (W.alloc (.cells #[.slice none 0 0, .slice none 0 0] 34))))
  have hF : Hid (∀ j, (W.alloc (.cells #[.slice none 0 0, .slice none 0 0] 34)).frozen? ⟨w.heap.size + 1 + 1, j, none⟩ = false) := by
    intro j
    rw [show w.heap.size + 1 + 1 = W.heap.size by omega]
    simp
  rw [hz] at hT
  have hB0 : Below (w.heap.size + 2) W (W.alloc (.cells #[.slice none 0 0, .slice none 0 0] 34)).drew := ((Below.refl _ W).alloc (by omega) _).drew
  have hT := Lib.hid (boxC (Below.refl _ (W.alloc (.cells #[.slice none 0 0, .slice none 0 0] 34))))
  have hF : Hid (∀ j, (W.alloc (.cells #[.slice none 0 0, .slice none 0 0] 34)).frozen? ⟨w.heap.size + 1 + 1, j, none⟩ = false) := by
    intro j
    rw [show w.heap.size + 1 + 1 = W.heap.size by omega]
    simp
  rw [hz] at hT
  have hB0 : Below (w.heap.size + 2) W (W.alloc (.cells #[.slice none 0 0, .slice none 0 0] 34)).drew := ((Below.refl _ W).alloc (by omega) _).drew
  have hT := Lib.hid (boxC (Below.refl _ (W.alloc (.cells #[.slice none 0 0, .slice none 0 0] 34))))
  have hF : Hid (∀ j, (W.alloc (.cells #[.slice none 0 0, .slice none 0 0] 34)).frozen? ⟨w.heap.size + 1 + 1, j, none⟩ = false) := by
    intro j
    rw [show w.heap.size + 1 + 1 = W.heap.size by omega]
    simp
  rw [hz] at hT
  go_enter Tryz.func76, Tryz.ntmps76
  go_wp2_with fail
  rw [← HW.out]
  obtain ⟨W0, hW0⟩ : ∃ W0, W0 = W.alloc (.cells #[.slice none 0 0, .slice none 0 0] 34) := ⟨_, rfl⟩
  rw [← hW0] at hB0 hT hF ⊢
  have hz0 : W0.heap.size = w.heap.size + 3 := by rw [hW0, World.size_alloc, hz]
  have HBb := Lib.hid (HB.out _ hB0)
  have r0 := HS.out _ hB0
  clear hW0
  refine wp_region_noPanic ?_
  refine region_ord (S := fun w' => w'.cell? ⟨w.heap.size, 0, none⟩ = some (.slice a n c) ∧ w'.cell? ⟨w.heap.size, 1, none⟩ = some (.slice b m d) ∧ w'.cell? ⟨w.heap.size + 1, 0, none⟩ = some (.slice a' n' c') ∧ w'.cell? ⟨w.heap.size + 1, 1, none⟩ = some (.slice b' m' d')) [0, 1, 2, 3, 5, 6, 7, 8, 4, 9, 10, 11] (by kernel_rfl) (by decide +kernel) (fun _ _ _ _ _ h => h) (r0) (fun _ => ?_)
  repeat (first
    | (refine ord_skip rfl rfl rfl ?_; (try simp only [Act.put, List.setIfInBounds_toArray, List.set_cons_zero, List.set_cons_succ]))
    | (refine' ord_light (v := _) rfl rfl rfl (fun w' hSw => ?_) ?_; rotate_left; (focus ((try dsimp only at hSw); go_simp <;> (with_reducible rfl))); (try simp only [Act.put, List.setIfInBounds_toArray, List.set_cons_zero, List.set_cons_succ]))
    | (refine ord_heavy rfl rfl (fun K hK => ?_); go_simp; (go_at_call 71; (with_reducible refine (HW1.out _ HBb.out).mono ?_); rintro e w2 ⟨a2, n2, c2, rfl, hs2, hb2⟩; have hd2 := hB0.trans (hb2.mono (show w.heap.size + 2 ≤ W0.heap.size by omega)); have r2 := HS.out _ hd2; have hBb2 := HB.out _ hd2; have hz2 := hb2.size; simp at hz2; have k2 := Lib.hid hb2; clear hb2 r0); (try go_wp2_with fail); refine hK.out _ _ (by first | exact r0 | exact r2 | exact r3 | exact S4 (show w.heap.size < w.heap.size + 1 + 1 ∧ w.heap.size + 1 < w.heap.size + 1 + 1 by omega) (S4 (show w.heap.size < w.heap.size + 1 + 1 ∧ w.heap.size + 1 < w.heap.size + 1 + 1 by omega) r3)) ?_; clear hK K; (try simp only [Act.put, List.setIfInBounds_toArray, List.set_cons_zero, List.set_cons_succ]))
    | (refine ord_heavy rfl rfl (fun K hK => ?_); go_simp; (go_at_call 71; (with_reducible refine (HW2.out _ hBb2).mono ?_); rintro e w3 ⟨a3, n3, c3, rfl, hs3, hb3⟩; have hd3 := hd2.trans (hb3.mono (show w.heap.size + 2 ≤ w2.heap.size by omega)); have r3 := HS.out _ hd3; have hBb3 := HB.out _ hd3; have hs2 := hs2.below hb3; have k3 := Lib.hid (k2.out.trans (hb3.mono hz2)); have t0 := (k3.out.cell (p := ⟨w.heap.size + 1 + 1, 0, none⟩) (show w.heap.size + 1 + 1 < W0.heap.size by omega)).trans hT.out.1; have t1 := (k3.out.cell (p := ⟨w.heap.size + 1 + 1, 1, none⟩) (show w.heap.size + 1 + 1 < W0.heap.size by omega)).trans hT.out.2.1; have f0 := (k3.out.frozen (p := ⟨w.heap.size + 1 + 1, 0, none⟩) (show w.heap.size + 1 + 1 < W0.heap.size by omega)).trans (hF.out 0); have f1 := (k3.out.frozen (p := ⟨w.heap.size + 1 + 1, 1, none⟩) (show w.heap.size + 1 + 1 < W0.heap.size by omega)).trans (hF.out 1); clear r2); (try go_wp2_with fail); refine hK.out _ _ (by first | exact r0 | exact r2 | exact r3 | exact S4 (show w.heap.size < w.heap.size + 1 + 1 ∧ w.heap.size + 1 < w.heap.size + 1 + 1 by omega) (S4 (show w.heap.size < w.heap.size + 1 + 1 ∧ w.heap.size + 1 < w.heap.size + 1 + 1 by omega) r3)) ?_; clear hK K; (try simp only [Act.put, List.setIfInBounds_toArray, List.set_cons_zero, List.set_cons_succ]))
    | (refine ord_heavy rfl rfl (fun K hK => ?_); go_simp; (try go_wp2_with fail); refine hK.out _ _ (by first | exact r0 | exact r2 | exact r3 | exact S4 (show w.heap.size < w.heap.size + 1 + 1 ∧ w.heap.size + 1 < w.heap.size + 1 + 1 by omega) (S4 (show w.heap.size < w.heap.size + 1 + 1 ∧ w.heap.size + 1 < w.heap.size + 1 + 1 by omega) r3)) ?_; clear hK K; (try simp only [Act.put, List.setIfInBounds_toArray, List.set_cons_zero, List.set_cons_succ])))
  refine ord_nil (NoPanic.normal ?_)
  obtain ⟨cs0, cs1⟩ := stw2 (u := .slice a2 n2 c2) (v := .slice a3 n3 c3) t0 t1
  go_wp2_with fail
  refine bodyPost_ret (v := .agg #[.slice a2 n2 c2, .slice a3 n3 c3]) (by simp [results, Tryz.results76, go_sem, cs0, cs1]) rfl ?_
  exact ⟨_, _, _, _, _, _, rfl, Cb.st2 (cb_both hs2 hs3) t0 t1 _ _, (hBb3.setCell (p := ⟨w.heap.size + 1 + 1, 0, none⟩) (show w.heap.size ≤ w.heap.size + 1 + 1 by omega) _).setCell (p := ⟨w.heap.size + 1 + 1, 1, none⟩) (show w.heap.size ≤ w.heap.size + 1 + 1 by omega) _⟩
end Go.Proofs.YtadomogbakcokaaGreatDoor
end

section
/- Lists of cubes in memory; own rows of cubes. -/
namespace Go.Proofs.YtadomogbakcokaaGreatDoor
open Go.RowKit Go.PlainAid
set_option linter.unusedVariables false
set_option linter.unusedSimpArgs false
set_option maxHeartbeats 2000000

theorem infoCube : (Tryz.prog.info? 34).map (fun i => (i.zero, i.size, i.bytes)) = some (some (.agg #[.slice none 0 0, .slice none 0 0]), 2, 48) := by kernel_rfl

/-- Words lie where they lay behind what grows a row of another type. -/
theorem Bs.grown {w w' : World} {a : Option Addr} {n cap : Nat} {l : List Nat} {row : Option Nat} (h : Bs w a n cap l) (hg : w.grownBy w' row) (hr : ∀ r, row = some r → ¬ ∃ cs fz, w.heap[r]? = some (.cells cs 23 fz)) : Bs w' a n cap l := by
  obtain ⟨ws, ⟨h1, h2, h3, h4⟩, hrp⟩ := h
  refine ⟨ws, ⟨h1, h2, h3, ?_⟩, hrp⟩
  rcases h4 with h4 | ⟨b, o, h4, ⟨hb, ht⟩, hc⟩
  · exact .inl h4
  · have hne : some b ≠ row := fun e => hr b e.symm ht
    have hbk := hg.block b hb hne
    refine .inr ⟨b, o, h4, ⟨Nat.lt_of_lt_of_le hb hg.size, by rw [hbk]; exact ht⟩, fun j hj => ?_⟩
    have : w'.cell? ⟨b, o + j, none⟩ = w.cell? ⟨b, o + j, none⟩ := by unfold World.cell?; rw [hbk]
    rw [this]; exact hc j hj
theorem Cb.grown {w w' : World} {h : Hd} {x : Cu} {row : Option Nat} (k : Cb w h x) (hg : w.grownBy w' row) (hr : ∀ r, row = some r → ¬ ∃ cs fz, w.heap[r]? = some (.cells cs 23 fz)) : Cb w' h x := ⟨k.1.grown hg hr, k.2.grown hg hr⟩
theorem ownsRow_type {w : World} {base : Nat} {e T : TypeId} {size n : Nat} {v : Value} {xs : List Value} (h : w.ownsRow base e size v n xs) (hT : e ≠ T) : ∀ r, v.ownBlock = some r → ¬ ∃ cs fz, w.heap[r]? = some (.cells cs T fz) := by
  intro r hr
  rintro ⟨cs, fz, hh⟩
  rcases h.2 with ⟨rfl, _⟩ | ⟨g, cap, cur, rfl, _, h2, _⟩
  · cases hr
  · simp only [Value.ownBlock, Option.some.injEq] at hr
    subst hr
    rw [hh] at h2
    injection h2 with h2
    injection h2 with _ h2 _
    exact hT h2.symm

def AllC (w : World) (hs : List Hd) (l : List Cu) : Prop := hs.length = l.length ∧ ∀ (j : Nat) h x, hs[j]? = some h → l[j]? = some x → Cb w h x
theorem AllC.below {w w' : World} {hs : List Hd} {l : List Cu} (h : AllC w hs l) (hb : Below w.heap.size w w') : AllC w' hs l := ⟨h.1, fun j k x hk hx => (h.2 j k x hk hx).below hb⟩
theorem AllC.nil (w : World) : AllC w [] [] := ⟨rfl, fun j h x hk => by simp at hk⟩
theorem AllC.grown {w w' : World} {hs : List Hd} {l : List Cu} {row : Option Nat} (h : AllC w hs l) (hg : w.grownBy w' row) (hr : ∀ r, row = some r → ¬ ∃ cs fz, w.heap[r]? = some (.cells cs 23 fz)) : AllC w' hs l := ⟨h.1, fun j k x hk hx => (h.2 j k x hk hx).grown hg hr⟩
theorem AllC.append {w : World} {hs ks : List Hd} {l r : List Cu} (h : AllC w hs l) (k : AllC w ks r) : AllC w (hs ++ ks) (l ++ r) := by
  refine ⟨by rw [List.length_append, List.length_append, h.1, k.1], fun j g x hg hx => ?_⟩
  by_cases hj : j < hs.length
  · rw [List.getElem?_append_left hj] at hg
    rw [List.getElem?_append_left (by rw [← h.1]; exact hj)] at hx
    exact h.2 j g x hg hx
  · rw [List.getElem?_append_right (by omega)] at hg
    rw [List.getElem?_append_right (by rw [← h.1]; omega), ← h.1] at hx
    exact k.2 _ g x hg hx
theorem AllC.one {w : World} {h : Hd} {x : Cu} (k : Cb w h x) : AllC w [h] [x] := ⟨rfl, fun j g y hg hy => by
  match j, hg, hy with
  | 0, hg, hy => cases hg; cases hy; exact k
  | j + 1, hg, hy => simp at hg⟩
theorem AllC.take {w : World} {hs : List Hd} {l : List Cu} (h : AllC w hs l) (m : Nat) : AllC w (hs.take m) (l.take m) := by
  refine ⟨by rw [List.length_take, List.length_take, h.1], fun j g x hg hx => ?_⟩
  rw [List.getElem?_take] at hg hx
  split at hg
  · rename_i hj
    rw [if_pos hj] at hx
    exact h.2 j g x hg hx
  · cases hg
theorem AllC.drop {w : World} {hs : List Hd} {l : List Cu} (h : AllC w hs l) (m : Nat) : AllC w (hs.drop m) (l.drop m) := by
  refine ⟨by rw [List.length_drop, List.length_drop, h.1], fun j g x hg hx => ?_⟩
  rw [List.getElem?_drop] at hg hx
  exact h.2 _ g x hg hx
theorem AllC.at {w : World} {hs : List Hd} {l : List Cu} (h : AllC w hs l) {j : Nat} {x : Cu} (hx : l[j]? = some x) : ∃ k, hs[j]? = some k ∧ Cb w k x := by
  have hj : j < hs.length := by rw [h.1]; exact (List.getElem?_eq_some_iff.1 hx).1
  exact ⟨hs[j], List.getElem?_eq_getElem hj, h.2 j _ x (List.getElem?_eq_getElem hj) hx⟩
theorem AllC.ok {w : World} {hs : List Hd} {l : List Cu} (h : AllC w hs l) : ∀ x ∈ l, CuOk x := by
  intro x hx
  obtain ⟨j, hj⟩ := List.mem_iff_getElem?.1 hx
  obtain ⟨k, _, hc⟩ := h.at hj
  exact hc.ok

/-- The slice (a, n, cap) holds the cubes l. -/
def Cs (w : World) (a : Option Addr) (n cap : Nat) (l : List Cu) : Prop := ∃ hs, Dk hdE w a n cap hs ∧ AllC w hs l
theorem Cs.below {w w' : World} {a : Option Addr} {n cap : Nat} {l : List Cu} (h : Cs w a n cap l) (hb : Below w.heap.size w w') : Cs w' a n cap l := by
  obtain ⟨hs, h1, h2⟩ := h; exact ⟨hs, h1.below hb, h2.below hb⟩
theorem Cs.len {w : World} {a : Option Addr} {n cap : Nat} {l : List Cu} (h : Cs w a n cap l) : l.length = n := by
  obtain ⟨hs, h1, h2⟩ := h; rw [← h2.1]; exact h1.1
theorem Cs.caps {w : World} {a : Option Addr} {n cap : Nat} {l : List Cu} (h : Cs w a n cap l) : n ≤ cap ∧ cap ≤ 9223372036854775807 := by
  obtain ⟨hs, h1, h2⟩ := h; exact ⟨h1.2.1, h1.2.2.1⟩
theorem Cs.ok {w : World} {a : Option Addr} {n cap : Nat} {l : List Cu} (h : Cs w a n cap l) : ∀ x ∈ l, CuOk x := by
  obtain ⟨hs, h1, h2⟩ := h; exact h2.ok
theorem Cs.nil (w : World) : Cs w none 0 0 [] := ⟨[], Dk.nil _ _ _ _ (by omega), AllC.nil w⟩
theorem Cs.at {w : World} {a : Option Addr} {n cap j : Nat} {l : List Cu} {x : Cu} (h : Cs w a n cap l) (hx : l[j]? = some x) :
    ∃ b o a' n' c' b' m' d', a = some ⟨b, o, none⟩ ∧ b < w.heap.size ∧ w.cell? ⟨b, o + j * 2, none⟩ = some (.slice a' n' c') ∧ w.cell? ⟨b, o + j * 2 + 1, none⟩ = some (.slice b' m' d') ∧ Cb w ⟨a', n', c', b', m', d'⟩ x := by
  obtain ⟨hs, h1, h2⟩ := h
  obtain ⟨⟨a', n', c', b', m', d'⟩, hk, hc⟩ := h2.at hx
  obtain ⟨b, o, e, hb, hcell⟩ := h1.at hk
  exact ⟨b, o, a', n', c', b', m', d', e, hb, hcell 0 _ rfl, hcell 1 _ rfl, hc⟩
theorem Cs.take {w : World} {a : Option Addr} {n cap m : Nat} {l : List Cu} (h : Cs w a n cap l) (hm : m ≤ n) : Cs w a m cap (l.take m) := by
  obtain ⟨hs, h1, h2⟩ := h; exact ⟨_, h1.take hm, h2.take m⟩
theorem Cs.inh {w : World} {a : Option Addr} {n cap : Nat} {l : List Cu} (h : Cs w a n cap l) (hn : 0 < n) : ∃ b o, a = some ⟨b, o, none⟩ ∧ b < w.heap.size := by
  obtain ⟨hs, h1, h2⟩ := h; exact h1.inh hn
theorem Cs.drop {w : World} {b o n cap m : Nat} {l : List Cu} (h : Cs w (some ⟨b, o, none⟩) n cap l) (hm : m ≤ n) : Cs w (some ⟨b, o + m * 2, none⟩) (n - m) (cap - m) (l.drop m) := by
  obtain ⟨hs, h1, h2⟩ := h; exact ⟨_, h1.drop hm, h2.drop m⟩

/-- v is an own row of cubes that holds l. -/
def Co (w : World) (base : Nat) (v : Value) (l : List Cu) : Prop := ∃ hs, Ok hdE 34 w base v hs ∧ AllC w hs l
theorem Co.nil (w : World) (base : Nat) : Co w base (.slice none 0 0) [] := ⟨[], Ok.nil _ _ _ _, AllC.nil w⟩
theorem Co.below {w w' : World} {base : Nat} {v : Value} {l : List Cu} (h : Co w base v l) (hb : Below w.heap.size w w') : Co w' base v l := by
  obtain ⟨hs, h1, h2⟩ := h; exact ⟨hs, h1.below hb, h2.below hb⟩
theorem Co.lower {w : World} {base base' : Nat} {v : Value} {l : List Cu} (h : Co w base v l) (hb : base' ≤ base) : Co w base' v l := by
  obtain ⟨hs, h1, h2⟩ := h; exact ⟨hs, h1.lower hb, h2⟩
theorem Co.dn {w : World} {base : Nat} {v : Value} {l : List Cu} (h : Co w base v l) : ∃ a n cap, v = .slice a n cap ∧ n = l.length ∧ Cs w a n cap l := by
  obtain ⟨hs, h1, h2⟩ := h
  obtain ⟨a, n, cap, hv, hn, hd⟩ := h1.dn (by decide)
  exact ⟨a, n, cap, hv, by rw [hn, h2.1], hs, hd, h2⟩
theorem Co.lt {w : World} {base : Nat} {v : Value} {l : List Cu} (h : Co w base v l) : ∀ b, v.ownBlock = some b → base ≤ b ∧ b < w.heap.size := by
  obtain ⟨hs, h1, h2⟩ := h; exact h1.lt
theorem Co.ntyp {w : World} {base : Nat} {v : Value} {l : List Cu} (h : Co w base v l) : ∀ r, v.ownBlock = some r → ¬ ∃ cs fz, w.heap[r]? = some (.cells cs 23 fz) := by
  obtain ⟨hs, h1, h2⟩ := h; exact ownsRow_type h1 (by decide)
theorem Co.len {w : World} {base : Nat} {v : Value} {l : List Cu} (h : Co w base v l) : ∃ a cap, v = .slice a l.length cap ∧ Cs w a l.length cap l := by
  obtain ⟨a, n, cap, hv, rfl, h⟩ := h.dn; exact ⟨a, cap, hv, h⟩
/-- append of cubes to an own row. -/
theorem wpList_append_co {w : World} {ops : Array Oper} {rest : List Oper} {o : Oper} {a : Act} {Q : Exit → Act → World → Prop} (hgd : o.guard = none) (s x : Operand)
    (ho : o.op = .call { callee := .builtin .append, args := #[s, x], argTypes := #[41, 41] }) (base : Nat)
    (v : Value) (l : List Cu) (hs : a.eval s = v) (hown : Co w base v l) (ad : Option Addr) (m c : Nat) (r : List Cu) (hx : a.eval x = .slice ad m c) (h : Cs w ad m c r) (hb : l.length + m ≤ 1000000000) (hbase : base ≤ w.heap.size)
    (hK : ∀ v' w', Co w' base v' (l ++ r) → w.grownBy w' v.ownBlock → wpList Tryz.prog ops Q rest (a.put o.dst v') w') : wpList Tryz.prog ops Q (o :: rest) a w := by
  obtain ⟨i0, hi, hz0, hz1, hz2⟩ := info_parts infoCube
  have hnt := hown.ntyp
  obtain ⟨hh, h1, h2⟩ := hown
  obtain ⟨ks, k1, k2⟩ := h
  refine wpList_append_dk hgd s x 41 34 ho Tryz.underlying41 base i0 _ 48 hi hz0 hz1 hz2 rfl (by decide) (by decide) v hh hs h1 ad m c ks hx k1 (by rw [h2.1]; exact hb) hbase fun v' w' hv' hg => ?_
  exact hK v' w' ⟨_, hv', (h2.append k2).grown hg hnt⟩ hg
/-- One cube laid in a block of its own. -/
theorem Cs.one (w : World) (a b : Option Addr) (n c m d : Nat) (x : Cu) (h : Cb w ⟨a, n, c, b, m, d⟩ x) (g : Nat) (hg : g = w.heap.size) : Cs (w.alloc (.cells #[.slice a n c, .slice b m d] 34)) (some ⟨g, 0, none⟩) 1 1 [x] :=
  ⟨[⟨a, n, c, b, m, d⟩], Dk.one (E := hdE) w ⟨a, n, c, b, m, d⟩ _ g hg, AllC.one (h.below ((Below.refl _ _).alloc (Nat.le_refl _) _))⟩
end Go.Proofs.YtadomogbakcokaaGreatDoor
end

section
/- Contracts: Meet, Some (ContainsFunc, IndexFunc and the closure). -/
namespace Go.Proofs.YtadomogbakcokaaGreatDoor
open Go.RowKit Go.PlainAid
set_option linter.unusedVariables false
set_option linter.unusedSimpArgs false
set_option maxHeartbeats 4000000

def MeetPost (w : World) (x y : Cu) (e : Ending) (w' : World) : Prop :=
  ∃ a n c b m d, e = .returned (.tuple #[.agg #[.slice a n c, .slice b m d], .bool (!emptyC (bothC x y))]) ∧ Cb w' ⟨a, n, c, b, m, d⟩ (if emptyC (bothC x y) then ([], []) else bothC x y) ∧ Below w.heap.size w w'

theorem meet_any (a b a' b' : Option Addr) (n c m d n' c' m' d' : Nat) (x y : Cu) (w : World) (h : Cb w ⟨a, n, c, b, m, d⟩ x) (k : Cb w ⟨a', n', c', b', m', d'⟩ y) :
    Calls Tryz.prog 36 #[.agg #[.slice a n c, .slice b m d], .agg #[.slice a' n' c', .slice b' m' d']] w (MeetPost w x y) := by
  have HB := Lib.hid (fun w' (hb : Below w.heap.size w w') => bothC_any a b a' b' n c m d n' c' m' d' x y w' (h.below hb) (k.below hb))
  have HE := Lib.hid (fun w' a2 n2 c2 b2 m2 d2 (h : Cb w' ⟨a2, n2, c2, b2, m2, d2⟩ (bothC x y)) => emptyC_any a2 b2 n2 c2 m2 d2 (bothC x y) w' h)
  clear h k
  unfold MeetPost
  obtain ⟨z, hz⟩ : ∃ z, z = bothC x y := ⟨_, rfl⟩
  rw [← hz] at HB HE ⊢
  clear hz
  have HZ : Hid (∀ w', Cb w' ⟨none, 0, 0, none, 0, 0⟩ ([], [])) := fun w' => Cb.nil w'
  obtain ⟨W, hW⟩ : ∃ W, W = (w.alloc (.cells #[.slice a n c, .slice b m d] 34)).alloc (.cells #[.slice a' n' c', .slice b' m' d'] 34) := ⟨_, rfl⟩
  have hBW : Below w.heap.size w W := by rw [hW]; exact ((Below.refl _ w).alloc (Nat.le_refl _) _).alloc (by simp) _
  have hzW : W.heap.size = w.heap.size + 2 := by rw [hW]; simp
  have hB0 := Lib.hid (hBW.alloc hBW.size (.cells #[.slice none 0 0, .slice none 0 0] 34))
  have hT := Lib.hid (fun w' hb => boxC (w := W) (x := .slice none 0 0) (y := .slice none 0 0) (T := 34) (wr := w') hb)
  have hF : Hid (∀ w' j, Below (W.alloc (.cells #[.slice none 0 0, .slice none 0 0] 34)).heap.size (W.alloc (.cells #[.slice none 0 0, .slice none 0 0] 34)) w' → w'.frozen? ⟨w.heap.size + 2, j, none⟩ = false) := by
    intro w' j hb
    rw [show w.heap.size + 2 = W.heap.size by omega, hb.frozen (by simp)]
    simp
  rw [hzW] at hT
  subst hW
  cases he : emptyC z
  all_goals
    rw [he] at HE
    go_enter Tryz.func36, Tryz.ntmps36
    go_wp2_with (first
      | (go_at_call 76; refine (HB.out _ hB0.out).mono ?_; rintro e w1 ⟨a2, n2, c2, b2, m2, d2, rfl, hc2, hb2⟩; obtain ⟨t0, t1, hl1, hl2⟩ := hT.out _ hb2; have f0 := hF.out _ 0 hb2; have f1 := hF.out _ 1 hb2; have hB1 := hB0.out.trans (hb2.mono hB0.out.size); have hzw1 := hB1.size; have HC2 := Lib.hid hc2; clear hc2)
      | (go_at_call 21; refine (HE.out _ _ _ _ _ _ _ (HC2.out.below ((Below.refl _ _).alloc (Nat.le_refl _) _))).mono ?_; rintro e w3 ⟨rfl, hb3⟩; obtain ⟨q0, q1, hl3, hb13⟩ := boxC hb3; have s0 := (hb13.cell (p := ⟨w.heap.size + 2, 0, none⟩) hl1).trans t0; have s1 := (hb13.cell (p := ⟨w.heap.size + 2, 1, none⟩) hl1).trans t1; have g0 := (hb13.frozen (p := ⟨w.heap.size + 2, 0, none⟩) hl1).trans f0; have g1 := (hb13.frozen (p := ⟨w.heap.size + 2, 1, none⟩) hl1).trans f1; have HC3 := Lib.hid (HC2.out.below hb13); have hB3 := hB1.trans (hb13.mono hB1.size)))
  · obtain ⟨cs0, cs1⟩ := stw2 (u := .slice a2 n2 c2) (v := .slice b2 m2 d2) s0 s1
    refine bodyPost_ret (v := .tuple #[.agg #[.slice a2 n2 c2, .slice b2 m2 d2], .bool true]) (by simp [results, Tryz.results36, go_sem, cs0, cs1]) rfl ?_
    exact ⟨_, _, _, _, _, _, rfl, Cb.st2 HC3.out s0 s1 _ _, (hB3.setCell (p := ⟨w.heap.size + 2, 0, none⟩) (Nat.le_add_right _ 2) _).setCell (p := ⟨w.heap.size + 2, 1, none⟩) (Nat.le_add_right _ 2) _⟩
  · obtain ⟨cs0, cs1⟩ := stw2 (u := .slice none 0 0) (v := .slice none 0 0) s0 s1
    refine bodyPost_ret (v := .tuple #[.agg #[.slice none 0 0, .slice none 0 0], .bool false]) (by simp [results, Tryz.results36, go_sem, cs0, cs1]) rfl ?_
    exact ⟨_, _, _, _, _, _, rfl, HZ.out _, (hB3.setCell (p := ⟨w.heap.size + 2, 0, none⟩) (Nat.le_add_right _ 2) _).setCell (p := ⟨w.heap.size + 2, 1, none⟩) (Nat.le_add_right _ 2) _⟩

/-- The closure of Some: it holds the set in a box. -/
theorem some1_any (a b e : Option Addr) (n c m d k f g : Nat) (x : Cu) (s : List Nat) (w : World) (h : Cb w ⟨a, n, c, b, m, d⟩ x) (hs : Bs w e k f s) (hg : g < w.heap.size) (hc : w.cell? ⟨g, 0, none⟩ = some (.slice e k f)) :
    Calls Tryz.prog 61 #[.agg #[.slice a n c, .slice b m d], .pointer (some ⟨g, 0, none⟩)] w (BoolPost w (holdsC x s)) := by
  have HH := Lib.hid (holdsC_any a b e n c m d k f x s (w.alloc (.cells #[.slice a n c, .slice b m d] 34)) (h.below ((Below.refl _ _).alloc (Nat.le_refl _) _)) (hs.below ((Below.refl _ _).alloc (Nat.le_refl _) _)))
  have hc' := (World.cell?_alloc_lt w (.cells #[.slice a n c, .slice b m d] 34) ⟨g, 0, none⟩ hg).trans hc
  generalize holdsC x s = t at HH ⊢
  clear h hs
  go_enter Tryz.func61, Tryz.ntmps61
  go_wp2_with (go_at_call 17; refine HH.out.mono ?_; rintro r w1 ⟨rfl, hb1⟩)
  go_ret
  exact ⟨rfl, bel1 hb1⟩

/-- The first cube that a set satisfies, or -1. -/
def idxC (l : List Cu) (s : List Nat) : Int := match l.findIdx? fun x => holdsC x s with
  | some j => (j : Int)
  | none => -1
theorem idxC_some {l : List Cu} {s : List Nat} : decide (0 ≤ idxC l s) = someC l s := by
  unfold idxC someC
  rw [Bool.eq_iff_iff, decide_eq_true_eq, List.any_eq_true]
  cases h : l.findIdx? fun x => holdsC x s with
  | none =>
    rw [List.findIdx?_eq_none_iff] at h
    constructor
    · intro h2; exact absurd h2 (by decide)
    · rintro ⟨x, h1, h2⟩
      have := h x h1
      rw [h2] at this; cases this
  | some j =>
    rw [List.findIdx?_eq_some_iff_getElem] at h
    obtain ⟨h1, h2, _⟩ := h
    constructor
    · intro _; exact ⟨_, List.getElem_mem h1, h2⟩
    · intro _; exact Int.natCast_nonneg _
theorem idx_yes {l : List Cu} {s : List Nat} {j : Nat} {x : Cu} (hx : l[j]? = some x) (hp : ∀ i y, i < j → l[i]? = some y → holdsC y s = false) (h : holdsC x s = true) : idxC l s = (j : Int) := by
  unfold idxC
  have : l.findIdx? (fun x => holdsC x s) = some j := by
    rw [List.findIdx?_eq_some_iff_getElem]
    obtain ⟨h1, h2⟩ := List.getElem?_eq_some_iff.1 hx
    refine ⟨h1, by rw [h2]; exact h, fun i hi => ?_⟩
    have := hp i l[i] hi (List.getElem?_eq_getElem (by omega))
    rw [this]; decide
  rw [this]
theorem idx_no {l : List Cu} {s : List Nat} (hp : ∀ (i : Nat) y, l[i]? = some y → holdsC y s = false) : idxC l s = -1 := by
  unfold idxC
  have : l.findIdx? (fun x => holdsC x s) = none := by
    rw [List.findIdx?_eq_none_iff]
    intro x hx
    obtain ⟨i, hi⟩ := List.mem_iff_getElem?.1 hx
    exact hp i x hi
  rw [this]
set_option maxRecDepth 20000 in
theorem indexFunc_any (a e : Option Addr) (n cap k f g : Nat) (l : List Cu) (s : List Nat) (w : World) (h : Cs w a n cap l) (hs : Bs w e k f s) (hg : g < w.heap.size) (hc : w.cell? ⟨g, 0, none⟩ = some (.slice e k f)) :
    Calls Tryz.prog 92 #[.slice a n cap, .func (.func 61) #[] #[.pointer (some ⟨g, 0, none⟩)]] w (IntPost w (idxC l s)) := by
  have HS := Lib.hid (fun a b n c m d x w' (hb : Below w.heap.size w w') (h : Cb w' ⟨a, n, c, b, m, d⟩ x) => some1_any a b e n c m d k f g x s w' h (hs.below hb) (Nat.lt_of_lt_of_le hg hb.size) ((hb.cell (p := ⟨g, 0, none⟩) hg).trans hc))
  have hl := h.len
  obtain ⟨hnc, hcm⟩ := h.caps
  have HL := Lib.hid hl
  have HC := Lib.hid h
  clear hs hc hl h
  go_enter Tryz.func92, Tryz.ntmps92
  go_wp2_with fail
  go_loopw [8] (fun v wr => ∃ j : Nat, j ≤ n ∧ v = .int .i64 j ∧ Hid (∀ i y, i < j → l[i]? = some y → holdsC y s = false) ∧ Below w.heap.size w wr) (fun v _ => n - (intOf v).toNat)
  case atStart => exact ⟨0, Nat.zero_le _, rfl, fun i y hi => by omega, Below.refl _ _⟩
  case round =>
    obtain ⟨j, hj, rfl, hpre, hB⟩ := hrel
    by_cases hjn : j < n
    · obtain ⟨x, hx⟩ : ∃ x, l[j]? = some x := ⟨_, List.getElem?_eq_getElem (by rw [HL.out]; exact hjn)⟩
      obtain ⟨bb, oo, a', n', c', b', m', d', rfl, hbl, x0, x1, hcb⟩ := (HC.out.below hB).at hx
      have hcall := Lib.hid (HS.out a' b' n' c' m' d' x wr hB hcb)
      have hj0 : (0 : Int) ≤ (j : Int) := Int.natCast_nonneg _
      have hj1 : (j : Int) < (n : Int) := by omega
      have HX := Lib.hid hx
      clear hx hcb
      cases ht : holdsC x s
      · have HN : Hid (∀ i y, i < j + 1 → l[i]? = some y → holdsC y s = false) := fun i y hi hy => by
          by_cases hij : i < j
          · exact hpre.out i y hij hy
          · have : i = j := by omega
            subst this
            rw [HX.out] at hy
            cases hy; exact ht
        rw [ht] at hcall
        clear ht
        go_wp2_with (go_at_call 61; refine hcall.out.mono ?_; rintro r w1 ⟨rfl, hb1⟩)
        go_roundw
        case rel => exact ⟨j + 1, by omega, by go_num, HN.out, hB.trans (hb1.mono hB.size)⟩
        case measure => simp [intOf]; omega
      · have HN := Lib.hid (idx_yes HX.out (fun i y hi hy => hpre.out i y hi hy) ht)
        rw [ht] at hcall
        clear ht
        go_wp2_with (go_at_call 61; refine hcall.out.mono ?_; rintro r w1 ⟨rfl, hb1⟩)
        go_ret
        exact ⟨ret_int HN.out.symm, hB.trans (hb1.mono hB.size)⟩
    · have hjn' : j = n := by omega
      have HN := Lib.hid (idx_no (l := l) (s := s) (fun i y hy => hpre.out i y (by have := (List.getElem?_eq_some_iff.1 hy).1; rw [HL.out] at this; omega) hy))
      go_wp2_with fail
      go_ret
      exact ⟨ret_int HN.out.symm, hB⟩
theorem someC_any (a e : Option Addr) (n cap k f : Nat) (l : List Cu) (s : List Nat) (w : World) (h : Cs w a n cap l) (hs : Bs w e k f s) :
    Calls Tryz.prog 23 #[.slice a n cap, .agg #[.slice e k f]] w (BoolPost w (someC l s)) := by
  have hb0 : Below w.heap.size w (w.alloc (.cells #[.slice e k f] 32)) := (Below.refl _ _).alloc (Nat.le_refl _) _
  have HI := Lib.hid (indexFunc_any a e n cap k f w.heap.size l s (w.alloc (.cells #[.slice e k f] 32)) (h.below hb0) (hs.below hb0) (by simp) (new1 w _ _).1)
  have HE : Hid (decide (0 ≤ idxC l s) = someC l s) := idxC_some
  generalize idxC l s = t at HI HE
  clear h hs hb0
  have HF : Hid (∀ W, Calls Tryz.prog 92 #[.slice a n cap, .func (.func 61) #[] #[.pointer (some ⟨w.heap.size, 0, none⟩)]] W (IntPost W t) → Calls Tryz.prog 60 #[.slice a n cap, .func (.func 61) #[] #[.pointer (some ⟨w.heap.size, 0, none⟩)]] W (BoolPost W (decide (0 ≤ t)))) := by
    intro W hcon
    have HCON := Lib.hid hcon
    have HR : Hid (∀ z : Bool, z = decide (0 ≤ t) → Ending.returned (.bool z) = Ending.returned (.bool (decide (0 ≤ t)))) := fun z hz => by rw [hz]
    clear hcon
    rcases Int.lt_or_le t 0 with ht | ht
    · have hd : decide (0 ≤ t) = false := decide_eq_false (by omega)
      go_enter Tryz.func60, Tryz.ntmps60
      go_wp2_with (go_at_call 92; refine HCON.out.mono ?_; rintro r w1 ⟨rfl, hb1⟩)
      go_ret
      exact ⟨HR.out _ hd.symm, hb1⟩
    · have hd : decide (0 ≤ t) = true := decide_eq_true ht
      go_enter Tryz.func60, Tryz.ntmps60
      go_wp2_with (go_at_call 92; refine HCON.out.mono ?_; rintro r w1 ⟨rfl, hb1⟩)
      go_ret
      exact ⟨HR.out _ hd.symm, hb1⟩
  rw [← HE.out]
  generalize decide (0 ≤ t) = z at HF
  have HG := Lib.hid (HF.out _ HI.out)
  clear HF HI HE
  go_enter Tryz.func23, Tryz.ntmps23
  go_wp2_with (go_at_call 60; refine HG.out.mono ?_; rintro r w1 ⟨rfl, hb1⟩)
  go_ret
  exact ⟨rfl, bel1 hb1⟩
end Go.Proofs.YtadomogbakcokaaGreatDoor
end
