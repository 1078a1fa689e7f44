/- Boxed cells that stay. No program in sight. -/
import Derived.Handy
import Derived.PlainAid
import Derived.Lib.Hide
import Derived.WalkSmall
namespace Go.Proofs.YtfdododighjjpaaGreatDoor.Dy
open Go.RowKit Go.PlainAid
set_option linter.unusedVariables false

theorem new1 (w : World) (x : Value) (T : TypeId) : (w.alloc (.cells #[x] T)).cell? ⟨w.heap.size, 0, none⟩ = some x ∧ (w.alloc (.cells #[x] T)).frozen? ⟨w.heap.size, 0, none⟩ = false := by
  constructor <;> simp
theorem box3 {w wr : World} {x y z : Value} {T1 T2 T3 : TypeId} (h : Below (w.heap.size + 3) (((w.alloc (.cells #[x] T1)).alloc (.cells #[y] T2)).alloc (.cells #[z] T3)) wr) :
    wr.cell? ⟨w.heap.size, 0, none⟩ = some x ∧ wr.cell? ⟨w.heap.size + 1, 0, none⟩ = some y ∧ wr.cell? ⟨w.heap.size + 1 + 1, 0, none⟩ = some z ∧ wr.frozen? ⟨w.heap.size + 1 + 1, 0, none⟩ = false ∧ w.heap.size + 3 ≤ wr.heap.size ∧ Below w.heap.size w wr := by
  have hs := h.size
  have z1 : (w.alloc (.cells #[x] T1)).heap.size = w.heap.size + 1 := by simp
  have z2 : ((w.alloc (.cells #[x] T1)).alloc (.cells #[y] T2)).heap.size = w.heap.size + 2 := by simp
  have z3 : (((w.alloc (.cells #[x] T1)).alloc (.cells #[y] T2)).alloc (.cells #[z] T3)).heap.size = w.heap.size + 3 := by simp
  obtain ⟨a1, a2⟩ := new1 w x T1
  obtain ⟨b1, b2⟩ := new1 (w.alloc (.cells #[x] T1)) y T2
  obtain ⟨d1, d2⟩ := new1 ((w.alloc (.cells #[x] T1)).alloc (.cells #[y] T2)) z T3
  rw [z1] at b1 b2
  rw [z2] at d1 d2
  have B3 : Below (w.heap.size + 2) ((w.alloc (.cells #[x] T1)).alloc (.cells #[y] T2)) wr := ((Below.refl _ _).alloc (by rw [z2]; exact Nat.le_refl _) _).trans (h.mono (by omega))
  have B2 : Below (w.heap.size + 1) (w.alloc (.cells #[x] T1)) wr := ((Below.refl _ _).alloc (by rw [z1]; exact Nat.le_refl _) _).trans (B3.mono (by omega))
  have B1 : Below w.heap.size w wr := ((Below.refl _ _).alloc (Nat.le_refl _) _).trans (B2.mono (by omega))
  refine ⟨(B2.cell (p := ⟨w.heap.size, 0, none⟩) (show w.heap.size < w.heap.size + 1 by omega)).trans a1, (B3.cell (p := ⟨w.heap.size + 1, 0, none⟩) (show w.heap.size + 1 < w.heap.size + 2 by omega)).trans b1, (h.cell (p := ⟨w.heap.size + 2, 0, none⟩) (show w.heap.size + 2 < w.heap.size + 3 by omega)).trans d1, (h.frozen (p := ⟨w.heap.size + 2, 0, none⟩) (show w.heap.size + 2 < w.heap.size + 3 by omega)).trans d2, by omega, B1⟩
theorem box2 {w wr : World} {x y : Value} {T1 T2 : TypeId} (h : Below (w.heap.size + 2) ((w.alloc (.cells #[x] T1)).alloc (.cells #[y] T2)) wr) :
    wr.cell? ⟨w.heap.size, 0, none⟩ = some x ∧ wr.cell? ⟨w.heap.size + 1, 0, none⟩ = some y ∧ wr.frozen? ⟨w.heap.size + 1, 0, none⟩ = false ∧ w.heap.size + 2 ≤ wr.heap.size ∧ Below w.heap.size w wr := by
  have hs := h.size
  have z1 : (w.alloc (.cells #[x] T1)).heap.size = w.heap.size + 1 := by simp
  have z2 : ((w.alloc (.cells #[x] T1)).alloc (.cells #[y] T2)).heap.size = w.heap.size + 2 := by simp
  obtain ⟨a1, a2⟩ := new1 w x T1
  obtain ⟨b1, b2⟩ := new1 (w.alloc (.cells #[x] T1)) y T2
  rw [z1] at b1 b2
  have B2 : Below (w.heap.size + 1) (w.alloc (.cells #[x] T1)) wr := ((Below.refl _ _).alloc (by rw [z1]; exact Nat.le_refl _) _).trans (h.mono (by omega))
  have B1 : Below w.heap.size w wr := ((Below.refl _ _).alloc (Nat.le_refl _) _).trans (B2.mono (by omega))
  exact ⟨(B2.cell (p := ⟨w.heap.size, 0, none⟩) (show w.heap.size < w.heap.size + 1 by omega)).trans a1, (h.cell (p := ⟨w.heap.size + 1, 0, none⟩) (show w.heap.size + 1 < w.heap.size + 2 by omega)).trans b1, (h.frozen (p := ⟨w.heap.size + 1, 0, none⟩) (show w.heap.size + 1 < w.heap.size + 2 by omega)).trans b2, by omega, B1⟩
theorem box1 {w wr : World} {x : Value} {T1 : TypeId} (h : Below (w.heap.size + 1) (w.alloc (.cells #[x] T1)) wr) : wr.cell? ⟨w.heap.size, 0, none⟩ = some x ∧ Below w.heap.size w wr :=
  ⟨(h.cell (p := ⟨w.heap.size, 0, none⟩) (Nat.lt_succ_self _)).trans (new1 w x T1).1, ((Below.refl _ _).alloc (Nat.le_refl _) _).trans (h.mono (Nat.le_succ _))⟩
theorem bdr {B : Nat} {a w : World} (h : Below B a w) (n : Nat) : Below B a (w.drewN n) := h.trans ⟨rfl, rfl, rfl, Nat.le_refl _, fun _ _ => rfl⟩
theorem bel1 {w w2 : World} {o : Obj} (hb2 : Below (w.alloc o).heap.size (w.alloc o) w2) : Below w.heap.size w w2 :=
  ((Below.refl _ _).alloc (Nat.le_refl _) _).trans (hb2.mono (by simp))
theorem bel2 {w w2 : World} {o o2 : Obj} (hb2 : Below ((w.alloc o).alloc o2).heap.size ((w.alloc o).alloc o2) w2) : Below w.heap.size w w2 := bel1 (bel1 hb2)
theorem bel3 {w w2 : World} {o o2 o3 : Obj} (hb2 : Below (((w.alloc o).alloc o2).alloc o3).heap.size (((w.alloc o).alloc o2).alloc o3) w2) : Below w.heap.size w w2 := bel1 (bel2 hb2)
theorem box1s {w wr : World} {x : Value} {T1 : TypeId} (h : Below (w.alloc (.cells #[x] T1)).heap.size (w.alloc (.cells #[x] T1)) wr) : wr.cell? ⟨w.heap.size, 0, none⟩ = some x ∧ Below w.heap.size w wr := box1 (h.mono (by simp))
/-- A boxed struct of two cells. -/
theorem box2s {w wr : World} {x y : Value} {T1 : TypeId} (h : Below (w.alloc (.cells #[x, y] T1)).heap.size (w.alloc (.cells #[x, y] T1)) wr) : (wr.cell? ⟨w.heap.size, 0, none⟩ = some x ∧ wr.cell? ⟨w.heap.size, 1, none⟩ = some y) ∧ Below w.heap.size w wr := by
  refine ⟨⟨(h.cell (p := ⟨w.heap.size, 0, none⟩) (by simp)).trans (by simp), (h.cell (p := ⟨w.heap.size, 1, none⟩) (by simp)).trans (by simp)⟩, bel1 h⟩
end Go.Proofs.YtfdododighjjpaaGreatDoor.Dy
