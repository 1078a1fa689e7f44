/- What the laws about two cubes share. -/
import Derived.Test.YtadomogbakcokaaGreatDoorCvP
import Derived.Test.YtadomogbakcokaaGreatDoorBox
import Derived.Test.YtadomogbakcokaaGreatDoorQgg
import Derived.Deep.DeepCutAuto
namespace Go.Proofs.YtadomogbakcokaaGreatDoor
open Go.RowKit Go.PlainAid
set_option linter.unusedVariables false
set_option linter.unusedSimpArgs false
set_option maxHeartbeats 2000000

theorem two_raw {w wr : World} {x y z x' y' z' : Value} {T : TypeId} (h : Below ((w.alloc (.cells #[x, y, z] T)).alloc (.cells #[x', y', z'] T)).heap.size ((w.alloc (.cells #[x, y, z] T)).alloc (.cells #[x', y', z'] T)) wr) :
    (wr.cell? ⟨w.heap.size, 0, none⟩ = some x ∧ wr.cell? ⟨w.heap.size, 1, none⟩ = some y ∧ wr.cell? ⟨w.heap.size, 2, none⟩ = some z) ∧ (wr.cell? ⟨w.heap.size + 1, 0, none⟩ = some x' ∧ wr.cell? ⟨w.heap.size + 1, 1, none⟩ = some y' ∧ wr.cell? ⟨w.heap.size + 1, 2, none⟩ = some z') := by
  have hs := World.size_alloc w (.cells #[x, y, z] T)
  refine ⟨⟨(h.cell (p := ⟨w.heap.size, 0, none⟩) (by simp; omega)).trans (by simp), (h.cell (p := ⟨w.heap.size, 1, none⟩) (by simp; omega)).trans (by simp), (h.cell (p := ⟨w.heap.size, 2, none⟩) (by simp; omega)).trans (by simp)⟩,
    (h.cell (p := ⟨w.heap.size + 1, 0, none⟩) (by simp)).trans ?_, (h.cell (p := ⟨w.heap.size + 1, 1, none⟩) (by simp)).trans ?_, (h.cell (p := ⟨w.heap.size + 1, 2, none⟩) (by simp)).trans ?_⟩
  all_goals rw [← hs]; simp
theorem at2_of {W : World} {g : Nat} {x y : Value} {T : TypeId} (h : W.heap[g]? = some (.cells #[x, y] T (0, 0))) : At2 W g x y :=
  ⟨by simp [World.cell?, h], by simp [World.cell?, h], (Array.getElem?_eq_some_iff.1 h).1⟩
theorem minus_q (a b a' b' : Option Addr) (n c m d n' c' m' d' : Nat) (x y : Cu) (D : List Cu) (w : World) (h : Cb w ⟨a, n, c, b, m, d⟩ x) (k : Cb w ⟨a', n', c', b', m', d'⟩ y) (hT : Tz w) (hD : Hid (minusC x y = D)) :
    Calls Tryz.prog 40 #[.agg #[.slice a n c, .slice b m d], .agg #[.slice a' n' c', .slice b' m' d']] w (CsQ w D) := by
  have e := hD.out
  subst e
  refine (minusC_any a b a' b' n c m d n' c' m' d' x y w h k hT).mono ?_
  rintro e w' ⟨v, rfl, hco, hb⟩
  obtain ⟨a, c, rfl, hc⟩ := hco.len
  exact ⟨a, _, c, rfl, hc, hb⟩
theorem rminus_q (m1 m2 k1 k2 : Nat) (R : List Mc) (w : World) (hc : McOk (m1, m2)) (hk : McOk (k1, k2)) (hR : Hid (minusM (m1, m2) (k1, k2) = R)) :
    Calls Tryz.prog 41 #[.agg #[.int .u64 (m1 : Nat), .int .u64 (m2 : Nat)], .agg #[.int .u64 (k1 : Nat), .int .u64 (k2 : Nat)]] w (MsP w R) := by
  have e := hR.out
  subst e
  refine (rminusC_any (m1, m2) (k1, k2) hc hk w).mono ?_
  rintro e w' ⟨v, rfl, hco, hb⟩
  obtain ⟨a, c, rfl, hc⟩ := hco.len
  exact ⟨a, _, c, rfl, hc, hb⟩
end Go.Proofs.YtadomogbakcokaaGreatDoor
