/- Several of the texts below, joined: RuZ RuZf RvB RvC RvD. -/
import Derived.Test.YtfjpbkmnlmecgaaGreatDoorQgq
import Derived.Test.YtfjpbkmnlmecgaaGreatDoorQgr
import Derived.Deep.DeepCutAuto
import Derived.Test.YtfjpbkmnlmecgaaGreatDoorQge
import Derived.Test.YtfjpbkmnlmecgaaGreatDoorQgc
import Derived.Test.YtfjpbkmnlmecgaaGreatDoorQgo
import Derived.Lib.ItoaNum
import Derived.WalkSpells
section
/- The parser: a rule. -/
namespace Go.Proofs.YtfjpbkmnlmecgaaGreatDoor.Ru
open Go.RowKit Go.PlainAid Go.Maps Go.Proofs.YtfjpbkmnlmecgaaGreatDoor Go.Proofs.YtfjpbkmnlmecgaaGreatDoor.Bz
set_option linter.unusedVariables false
set_option linter.unusedSimpArgs false
set_option maxHeartbeats 4000000
set_option maxRecDepth 20000

theorem cell7 {w : World} {t : Nat} {v0 v1 v2 v3 v4 v5 v6 : Value} {T : TypeId} (h : w.heap[t]? = some (.cells #[v0, v1, v2, v3, v4, v5, v6] T (0, 0))) :
    (w.cell? ⟨t, 0, none⟩ = some v0 ∧ w.cell? ⟨t, 1, none⟩ = some v1 ∧ w.cell? ⟨t, 2, none⟩ = some v2 ∧ w.cell? ⟨t, 3, none⟩ = some v3 ∧ w.cell? ⟨t, 4, none⟩ = some v4 ∧ w.cell? ⟨t, 5, none⟩ = some v5 ∧ w.cell? ⟨t, 6, none⟩ = some v6) ∧
    w.frozen? ⟨t, 0, none⟩ = false ∧ w.frozen? ⟨t, 1, none⟩ = false ∧ w.frozen? ⟨t, 2, none⟩ = false ∧ w.frozen? ⟨t, 3, none⟩ = false ∧ w.frozen? ⟨t, 4, none⟩ = false ∧ w.frozen? ⟨t, 5, none⟩ = false ∧ w.frozen? ⟨t, 6, none⟩ = false := by
  have hf : ∀ j, w.frozen? ⟨t, j, none⟩ = false := fun j => by unfold World.frozen?; dsimp only; rw [h]; simp
  refine ⟨⟨?_, ?_, ?_, ?_, ?_, ?_, ?_⟩, hf 0, hf 1, hf 2, hf 3, hf 4, hf 5, hf 6⟩
  · rw [cell_of_row _ _ 0 _ _ _ h]; rfl
  · rw [cell_of_row _ _ 1 _ _ _ h]; rfl
  · rw [cell_of_row _ _ 2 _ _ _ h]; rfl
  · rw [cell_of_row _ _ 3 _ _ _ h]; rfl
  · rw [cell_of_row _ _ 4 _ _ _ h]; rfl
  · rw [cell_of_row _ _ 5 _ _ _ h]; rfl
  · rw [cell_of_row _ _ 6 _ _ _ h]; rfl
theorem Rw.setX {N : Nat} {W : World} {h : Hr} {r : Rl} {X i : Nat} {v : Value} {cs : Array Value} {fz : Nat × Nat} (k : Rw N W h r) (hX : W.heap[X]? = some (.cells cs 46 fz)) : Rw N (W.setCell ⟨X, i, none⟩ v) h r :=
  k.far (gb_set (g := X) W i v) (fun q e => by cases e; exact type_far hX (by decide) (by decide))
/-- A rule under way in block X. -/
def XJ (W0 w : World) (g X : Nat) (ts : List Tok) (r : Rl) (s : RS) (W : World) : Prop :=
  ∃ h : Hr, W.heap[X]? = some (.cells (hrL h).toArray 46 (0, 0)) ∧ Rw W0.heap.size W h r ∧ Pw W0 g ts s W ∧ InT ts s ∧ w.grownBy W (some g) ∧ W.heap[w.heap.size]? = some (.cells #[.bool false, .int .i64 0, .int .i64 0, .slice none 0 0, .slice none 0 0, .slice none 0 0, .int .i64 0] 46 (0, 0))
section
variable {W0 w W : World} {g X : Nat} {ts : List Tok} {r : Rl} {s : RS}
theorem XJ.pw (h : XJ W0 w g X ts r s W) : Pw W0 g ts s W := by obtain ⟨_, _, _, h, _⟩ := h; exact h
theorem XJ.it (h : XJ W0 w g X ts r s W) : InT ts s := by obtain ⟨_, _, _, _, h, _⟩ := h; exact h
theorem XJ.step {s' : RS} {W' : World} (hN : W0.heap.size ≤ w.heap.size) (hX : w.heap.size < X) (h : XJ W0 w g X ts r s W) (hp : Pw W0 g ts s' W') (hi : InT ts s') (hg : W.grownBy W' (some g)) : XJ W0 w g X ts r s' W' := by
  obtain ⟨hr, h1, h2, h3, h4, h5, h6⟩ := h
  have hgl := hp.2.2
  exact ⟨hr, (hg.block X (Array.getElem?_eq_some_iff.1 h1).1 (fun e => by have := Option.some.inj e; omega)).trans h1, h2.read hg hgl, hp, hi, gb_trans h5 hg, (hg.block _ (Array.getElem?_eq_some_iff.1 h6).1 (fun e => by have := Option.some.inj e; omega)).trans h6⟩
theorem XJ.fx {P t : Nat} {ns : List ByteArray} {a : Option Addr} {n cap : Nat} {adm : List Nat} (h : XJ W0 w g X ts r s W) (hB : Base W0 g P t ns a n cap adm) : W.cell? ⟨P, 0, none⟩ = some (.pointer (some ⟨g, 0, none⟩)) := (hB.cells h.pw).1
theorem XJ.fy (h : XJ W0 w g X ts r s W) : W.cell? ⟨X, 0, none⟩ = some (.bool r.revoke) := by
  obtain ⟨hr, h1, h2, h3, _⟩ := h
  rw [← h2.1]; exact (cell7 h1).1.1
theorem XJ.fs (h : XJ W0 w g X ts r s W) (i : Nat) (hi : i < 7) : (∃ v, W.cell? ⟨X, i, none⟩ = some v) ∧ W.frozen? ⟨X, i, none⟩ = false := by
  obtain ⟨hr, h1, h2, h3, _⟩ := h
  obtain ⟨⟨c0, c1, c2, c3, c4, c5, c6⟩, f0, f1, f2, f3, f4, f5, f6⟩ := cell7 h1
  match i, hi with
  | 0, _ => exact ⟨⟨_, c0⟩, f0⟩
  | 1, _ => exact ⟨⟨_, c1⟩, f1⟩
  | 2, _ => exact ⟨⟨_, c2⟩, f2⟩
  | 3, _ => exact ⟨⟨_, c3⟩, f3⟩
  | 4, _ => exact ⟨⟨_, c4⟩, f4⟩
  | 5, _ => exact ⟨⟨_, c5⟩, f5⟩
  | 6, _ => exact ⟨⟨_, c6⟩, f6⟩
theorem XJ.setRv (b : Bool) (hN : W0.heap.size ≤ w.heap.size) (hX : w.heap.size < X) (h : XJ W0 w g X ts r s W) : XJ W0 w g X ts { r with revoke := b } s (W.setCell ⟨X, 0, none⟩ (.bool b)) := by
  obtain ⟨hr, h1, h2, h3, h4, h5, h6⟩ := h
  refine ⟨{ hr with rv := b }, heap_setCell_same _ _ 0 _ _ (.bool b) h1, ?_, h3.after ((Below.refl _ W).setCell (p := ⟨X, 0, none⟩) (by dsimp only; omega) _), h4, gb_set_new h5 (by omega), (Below.heap_setCell _ _ _ _ (by dsimp only; omega)).trans h6⟩
  obtain ⟨k1, k2, k3, k4, k5, k6, k7, k8⟩ := h2.setX (i := 0) (v := (.bool b)) h1
  exact ⟨rfl, k2, k3, k4, k5, k6, k7, k8⟩
theorem XJ.setAd (b : Int) (hN : W0.heap.size ≤ w.heap.size) (hX : w.heap.size < X) (h : XJ W0 w g X ts r s W) : XJ W0 w g X ts { r with admin := b } s (W.setCell ⟨X, 1, none⟩ (.int .i64 b)) := by
  obtain ⟨hr, h1, h2, h3, h4, h5, h6⟩ := h
  refine ⟨{ hr with ad := b }, heap_setCell_same _ _ 1 _ _ (.int .i64 b) h1, ?_, h3.after ((Below.refl _ W).setCell (p := ⟨X, 1, none⟩) (by dsimp only; omega) _), h4, gb_set_new h5 (by omega), (Below.heap_setCell _ _ _ _ (by dsimp only; omega)).trans h6⟩
  obtain ⟨k1, k2, k3, k4, k5, k6, k7, k8⟩ := h2.setX (i := 1) (v := (.int .i64 b)) h1
  exact ⟨k1, rfl, k3, k4, k5, k6, k7, k8⟩
theorem XJ.setTg (b : Int) (hN : W0.heap.size ≤ w.heap.size) (hX : w.heap.size < X) (h : XJ W0 w g X ts r s W) : XJ W0 w g X ts { r with target := b } s (W.setCell ⟨X, 2, none⟩ (.int .i64 b)) := by
  obtain ⟨hr, h1, h2, h3, h4, h5, h6⟩ := h
  refine ⟨{ hr with tg := b }, heap_setCell_same _ _ 2 _ _ (.int .i64 b) h1, ?_, h3.after ((Below.refl _ W).setCell (p := ⟨X, 2, none⟩) (by dsimp only; omega) _), h4, gb_set_new h5 (by omega), (Below.heap_setCell _ _ _ _ (by dsimp only; omega)).trans h6⟩
  obtain ⟨k1, k2, k3, k4, k5, k6, k7, k8⟩ := h2.setX (i := 2) (v := (.int .i64 b)) h1
  exact ⟨k1, k2, rfl, k4, k5, k6, k7, k8⟩
theorem XJ.setLg (b : Int) (hN : W0.heap.size ≤ w.heap.size) (hX : w.heap.size < X) (h : XJ W0 w g X ts r s W) : XJ W0 w g X ts { r with longest := b } s (W.setCell ⟨X, 6, none⟩ (.int .i64 b)) := by
  obtain ⟨hr, h1, h2, h3, h4, h5, h6⟩ := h
  refine ⟨{ hr with lg := b }, heap_setCell_same _ _ 6 _ _ (.int .i64 b) h1, ?_, h3.after ((Below.refl _ W).setCell (p := ⟨X, 6, none⟩) (by dsimp only; omega) _), h4, gb_set_new h5 (by omega), (Below.heap_setCell _ _ _ _ (by dsimp only; omega)).trans h6⟩
  obtain ⟨k1, k2, k3, k4, k5, k6, k7, k8⟩ := h2.setX (i := 6) (v := (.int .i64 b)) h1
  exact ⟨k1, k2, k3, k4, k5, k6, rfl, k8⟩
theorem XJ.setDays {a : Option Addr} {n c : Nat} {l : List (Int × Int)} (hd : Dy.Dn W0.heap.size W a n c l) (hc : Dy.Can l) (hN : W0.heap.size ≤ w.heap.size) (hX : w.heap.size < X) (h : XJ W0 w g X ts r s W) : XJ W0 w g X ts { r with days := l } s (W.setCell ⟨X, 5, none⟩ (.slice a n c)) := by
  obtain ⟨hr, h1, h2, h3, h4, h5, h6⟩ := h
  refine ⟨{ hr with a3 := a, n3 := n, c3 := c }, heap_setCell_same _ _ 5 _ _ (.slice a n c) h1, ?_, h3.after ((Below.refl _ W).setCell (p := ⟨X, 5, none⟩) (by dsimp only; omega) _), h4, gb_set_new h5 (by omega), (Below.heap_setCell _ _ _ _ (by dsimp only; omega)).trans h6⟩
  obtain ⟨k1, k2, k3, k4, k5, k6, k7, k8⟩ := h2.setX (i := 5) (v := (.slice a n c)) h1
  exact ⟨k1, k2, k3, k4, k5, Dn_far hd (gb_set (g := X) W 5 _) (fun q e => by cases e; exact type_far h1 (by decide) (by decide)), k7, hc⟩
theorem XJ.setIf {a b : Option Addr} {n c m d : Nat} {y z : List Nat} (ha : Bq W0.heap.size W a n c y) (hb : Bq W0.heap.size W b m d z) (hN : W0.heap.size ≤ w.heap.size) (hX : w.heap.size < X) (h : XJ W0 w g X ts r s W) : XJ W0 w g X ts { r with yes := y, no := z } s ((W.setCell ⟨X, 3, none⟩ (.slice a n c)).setCell ⟨X, 4, none⟩ (.slice b m d)) := by
  obtain ⟨hr, h1, h2, h3, h4, h5, h6⟩ := h
  have h1' := heap_setCell_same _ _ 3 _ _ (.slice a n c) h1
  have g1 := gb_set (g := X) W 3 (.slice a n c)
  have g2 := gb_set (g := X) (W.setCell ⟨X, 3, none⟩ (.slice a n c)) 4 (.slice b m d)
  have f1 : ∀ q, some X = some q → Far W q := fun q e => by cases e; exact type_far h1 (by decide) (by decide)
  have f2 : ∀ q, some X = some q → Far (W.setCell ⟨X, 3, none⟩ (.slice a n c)) q := fun q e => by cases e; exact type_far h1' (by decide) (by decide)
  refine ⟨{ hr with a1 := a, n1 := n, c1 := c, a2 := b, n2 := m, c2 := d }, heap_setCell_same _ _ 4 _ _ (.slice b m d) h1', ?_, (h3.after ((Below.refl _ W).setCell (p := ⟨X, 3, none⟩) (by dsimp only; omega) _)).after ((Below.refl _ _).setCell (p := ⟨X, 4, none⟩) (by dsimp only; omega) _), h4, gb_set_new (gb_set_new h5 (by omega)) (by omega), (Below.heap_setCell _ _ _ _ (by dsimp only; omega)).trans ((Below.heap_setCell _ _ _ _ (by dsimp only; omega)).trans h6)⟩
  obtain ⟨k1, k2, k3, k4, k5, k6, k7, k8⟩ := (h2.far g1 f1).far g2 f2
  exact ⟨k1, k2, k3, (ha.far g1 f1).far g2 f2, (hb.far g1 f1).far g2 f2, k6, k7, k8⟩
end
theorem seven {W : World} {R : Nat} {z0 z1 z2 z3 z4 z5 z6 : Value} (v0 v1 v2 v3 v4 v5 v6 : Value) (h0 : W.heap[R]? = some (.cells #[z0, z1, z2, z3, z4, z5, z6] 46 (0, 0))) :
    (((((((W.setCell ⟨R, 0, none⟩ v0).setCell ⟨R, 1, none⟩ v1).setCell ⟨R, 2, none⟩ v2).setCell ⟨R, 3, none⟩ v3).setCell ⟨R, 4, none⟩ v4).setCell ⟨R, 5, none⟩ v5).setCell ⟨R, 6, none⟩ v6).heap[R]? = some (.cells #[v0, v1, v2, v3, v4, v5, v6] 46 (0, 0)) ∧
    (∀ N h r, Rw N W h r → Rw N (((((((W.setCell ⟨R, 0, none⟩ v0).setCell ⟨R, 1, none⟩ v1).setCell ⟨R, 2, none⟩ v2).setCell ⟨R, 3, none⟩ v3).setCell ⟨R, 4, none⟩ v4).setCell ⟨R, 5, none⟩ v5).setCell ⟨R, 6, none⟩ v6) h r) ∧
    (∀ N, N ≤ R → Below N W (((((((W.setCell ⟨R, 0, none⟩ v0).setCell ⟨R, 1, none⟩ v1).setCell ⟨R, 2, none⟩ v2).setCell ⟨R, 3, none⟩ v3).setCell ⟨R, 4, none⟩ v4).setCell ⟨R, 5, none⟩ v5).setCell ⟨R, 6, none⟩ v6)) ∧
    (∀ (w : World) row, w.grownBy W row → w.heap.size ≤ R → w.grownBy (((((((W.setCell ⟨R, 0, none⟩ v0).setCell ⟨R, 1, none⟩ v1).setCell ⟨R, 2, none⟩ v2).setCell ⟨R, 3, none⟩ v3).setCell ⟨R, 4, none⟩ v4).setCell ⟨R, 5, none⟩ v5).setCell ⟨R, 6, none⟩ v6) row) := by
  have h1 := heap_setCell_same _ _ 0 _ _ v0 h0
  have h2 := heap_setCell_same _ _ 1 _ _ v1 h1
  have h3 := heap_setCell_same _ _ 2 _ _ v2 h2
  have h4 := heap_setCell_same _ _ 3 _ _ v3 h3
  have h5 := heap_setCell_same _ _ 4 _ _ v4 h4
  have h6 := heap_setCell_same _ _ 5 _ _ v5 h5
  have h7 := heap_setCell_same _ _ 6 _ _ v6 h6
  exact ⟨h7, fun N h r k => (((((((k.setX h0).setX h1).setX h2).setX h3).setX h4).setX h5).setX h6), fun N hN => ((((((((Below.refl N W).setCell (p := ⟨R, 0, none⟩) hN v0).setCell (p := ⟨R, 1, none⟩) hN v1).setCell (p := ⟨R, 2, none⟩) hN v2).setCell (p := ⟨R, 3, none⟩) hN v3).setCell (p := ⟨R, 4, none⟩) hN v4).setCell (p := ⟨R, 5, none⟩) hN v5).setCell (p := ⟨R, 6, none⟩) hN v6), fun w row k hR => gb_set_new (gb_set_new (gb_set_new (gb_set_new (gb_set_new (gb_set_new (gb_set_new k hR) hR) hR) hR) hR) hR) hR⟩
/-- What rule answers. -/
def RlP (W0 w : World) (g : Nat) (ts : List Tok) (r : Rl × RS) (e : Ending) (w' : World) : Prop :=
  ∃ h : Hr, e = .returned (.agg (hrL h).toArray) ∧ Rw W0.heap.size w' h r.1 ∧ Pw W0 g ts r.2 w' ∧ InT ts r.2 ∧ w.grownBy w' (some g)
theorem xj_start {W0 w w1 : World} {g : Nat} {ts : List Tok} {s : RS} {a : Option Addr} {n c : Nat} (hw : Pw W0 g ts s w) (hi : InT ts s) (hd : Dy.Dn w1.heap.size w1 a n c allD ∨ Dy.Dn W0.heap.size w1 a n c allD) (hb : Below (w.heap.size + 1) (w.alloc (.cells #[.bool false, .int .i64 0, .int .i64 0, .slice none 0 0, .slice none 0 0, .slice none 0 0, .int .i64 0] 46)) w1) :
    XJ W0 w g w1.heap.size ts ⟨false, 0, 0, [], [], allD, 0⟩ s (w1.alloc (.cells #[.bool false, .int .i64 0, .int .i64 0, .slice none 0 0, .slice none 0 0, .slice a n c, .int .i64 0] 46)) := by
  have hz := hb.size
  rw [World.size_alloc] at hz
  have hN := hw.size
  have hbw : Below w.heap.size w w1 := ((Below.refl _ w).alloc (Nat.le_refl _) (.cells #[.bool false, .int .i64 0, .int .i64 0, .slice none 0 0, .slice none 0 0, .slice none 0 0, .int .i64 0] 46)).trans (hb.mono (Nat.le_succ _))
  have hd' : Dy.Dn W0.heap.size w1 a n c allD := by
    rcases hd with hd | hd
    · exact hd.mono (by omega)
    · exact hd
  have hba := (Below.refl w1.heap.size w1).alloc (Nat.le_refl _) (.cells #[.bool false, .int .i64 0, .int .i64 0, .slice none 0 0, .slice none 0 0, .slice a n c, .int .i64 0] 46)
  refine ⟨⟨false, 0, 0, none, 0, 0, none, 0, 0, a, n, c, 0⟩, heap_alloc_new _ _, ⟨rfl, rfl, rfl, Bq.nil _ _, Bq.nil _ _, hd'.below hba, rfl, Dy.can_all⟩, (hw.below hbw).below hba, hi, gb_of_below (hbw.trans (hba.mono (by omega))) _, ?_⟩
  rw [Below.heap_alloc _ _ _ (by omega), hb.block _ (Nat.lt_succ_self _)]
  exact heap_alloc_new _ _
theorem lit_revoke : (⟨#[114, 101, 118, 111, 107, 101]⟩ : ByteArray) = wRevoke := rfl
theorem lit_assign : (⟨#[97, 115, 115, 105, 103, 110]⟩ : ByteArray) = wAssign := rfl
theorem lit_by : (⟨#[98, 121]⟩ : ByteArray) = wBy := rfl
theorem lit_if : (⟨#[105, 102]⟩ : ByteArray) = wIf := rfl
theorem lit_on : (⟨#[111, 110]⟩ : ByteArray) = wOn := rfl
theorem lit_for : (⟨#[102, 111, 114]⟩ : ByteArray) = wFor := rfl
theorem lit_semi : (⟨#[59]⟩ : ByteArray) = wSemi := rfl
section
variable {W0 w W : World} {g X P t : Nat} {ns : List ByteArray} {a : Option Addr} {n cap : Nat} {adm : List Nat} {ts : List Tok} {r : Rl} {s : RS}
theorem x_accept (hN : W0.heap.size ≤ w.heap.size) (hX : w.heap.size < X) (h : XJ W0 w g X ts r s W) (x : ByteArray) :
    Calls Tryz.prog 149 #[.pointer (some ⟨g, 0, none⟩), .string x] W fun e w' => e = .returned (.bool (accB ts x s)) ∧ XJ W0 w g X ts r (accS ts x s) w' :=
  (p_accept x h.pw h.it).mono fun e w' ⟨h1, h2, h3⟩ => ⟨h1, h.step hN hX h2 (acc_in h.it) h3⟩
theorem x_expect (hN : W0.heap.size ≤ w.heap.size) (hX : w.heap.size < X) (h : XJ W0 w g X ts r s W) (x : ByteArray) :
    Calls Tryz.prog 150 #[.pointer (some ⟨g, 0, none⟩), .string x] W fun e w' => e = .returned (.tuple #[]) ∧ XJ W0 w g X ts r (expS ts x s) w' :=
  (p_expect x h.pw h.it).mono fun e w' ⟨h1, h2, h3⟩ => ⟨h1, h.step hN hX h2 (exp_in h.it) h3⟩
theorem x_number (hN : W0.heap.size ≤ w.heap.size) (hX : w.heap.size < X) (h : XJ W0 w g X ts r s W) (lo hi : Int) :
    Calls Tryz.prog 154 #[.pointer (some ⟨g, 0, none⟩), .int .i64 lo, .int .i64 hi] W fun e w' => e = .returned (.int .i64 (numV ts lo hi s)) ∧ XJ W0 w g X ts r (numS ts lo hi s) w' :=
  (p_number lo hi h.pw h.it).mono fun e w' ⟨h1, h2, h3⟩ => ⟨h1, h.step hN hX h2 (num_in h.it) h3⟩
theorem x_role (hB : Base W0 g P t ns a n cap adm) (hN : W0.heap.size ≤ w.heap.size) (hX : w.heap.size < X) (h : XJ W0 w g X ts r s W) (want : Bool) :
    Calls Tryz.prog 151 #[.pointer (some ⟨P, 0, none⟩), .bool want, .agg #[.slice none 0 0]] W fun e w' => e = .returned (.int .i64 ((roleV ts (envOf ns adm) want [] s : Nat) : Int)) ∧ XJ W0 w g X ts r (roleS ts (envOf ns adm) want [] s) w' :=
  (role_any hB h.pw h.it want none 0 0 [] (Bs.nil W)).mono fun e w' ⟨h1, h2, h3⟩ => ⟨h1, h.step hN hX h2 (role_in h.it) h3⟩
theorem x_cond (hB : Base W0 g P t ns a n cap adm) (hN : W0.heap.size ≤ w.heap.size) (hX : w.heap.size < X) (h : XJ W0 w g X ts r s W) :
    Calls Tryz.prog 152 #[.pointer (some ⟨P, 0, none⟩)] W fun e w' => ∃ ya yn yc na nn nc, e = .returned (.agg #[.slice ya yn yc, .slice na nn nc]) ∧ Bq W0.heap.size w' ya yn yc (condS ts (envOf ns adm) (ts.length + 2) [] [] s).1.1 ∧ Bq W0.heap.size w' na nn nc (condS ts (envOf ns adm) (ts.length + 2) [] [] s).1.2 ∧ XJ W0 w g X ts r (condS ts (envOf ns adm) (ts.length + 2) [] [] s).2 w' :=
  (cond_any hB h.pw h.it).mono fun e w' ⟨ya, yn, yc, na, nn, nc, h1, h2, h3, h4, h5, h6⟩ => ⟨ya, yn, yc, na, nn, nc, h1, h2, h3, h.step hN hX h4 h5 h6⟩
theorem x_when (hB : Base W0 g P t ns a n cap adm) (hN : W0.heap.size ≤ w.heap.size) (hX : w.heap.size < X) (h : XJ W0 w g X ts r s W) (hts : ts.length ≤ 90000) :
    Calls Tryz.prog 153 #[.pointer (some ⟨P, 0, none⟩)] W fun e w' => ∃ da dn dc, e = .returned (.agg #[.slice da dn dc]) ∧ Dy.Dn W0.heap.size w' da dn dc (whenS ts s).1 ∧ Dy.Can (whenS ts s).1 ∧ XJ W0 w g X ts r (whenS ts s).2 w' :=
  (when_any hB h.pw h.it hts).mono fun e w' ⟨da, dn, dc, h1, h2, h3, h4, h5, h6⟩ => ⟨da, dn, dc, h1, h2, h3, h.step hN hX h4 h5 h6⟩
end
theorem rule_t {W0 w : World} {g P t : Nat} {ns : List ByteArray} {a : Option Addr} {n cap : Nat} {adm : List Nat} {ts : List Tok} {s : RS} (hB : Base W0 g P t ns a n cap adm) (hw : Pw W0 g ts s w) (hi : InT ts s) (hts : ts.length ≤ 90000) (hv : accB ts wRevoke s = true) :
    Calls Tryz.prog 68 #[.pointer (some ⟨P, 0, none⟩)] w (RlP W0 w g ts (ruleS ts (envOf ns adm) s)) := by
  have hNS := hw.size
  have HBR : Hid (accB ts ⟨#[114, 101, 118, 111, 107, 101]⟩ s = true) := hv
  go_enter Tryz.func68, Tryz.ntmps68
  go_upto_if 50 with (first
    | (go_at_call 132; refine (Dy.all_anyF _).mono ?_; rintro en w1 ⟨a1, n1, c1, rfl, hd1, hb1⟩; rw [World.size_alloc] at hd1 hb1; have hX : w.heap.size < w1.heap.size := (by have := hb1.size; rw [World.size_alloc] at this; omega); have hj0 := xj_start hw hi (.inr (hd1.mono (by omega))) hb1; have x0 := hj0.fx hB)
    | (go_at_call 149; refine (x_accept hNS hX hj0 ⟨#[114, 101, 118, 111, 107, 101]⟩).mono ?_; rintro en v1 ⟨rfl, hj1⟩; clear hj0; obtain ⟨⟨c10, d10⟩, e10⟩ := hj1.fs 0 (by omega); rw [HBR.out]; have hj2 := XJ.setRv true hNS hX hj1; clear hj1; have x2 := hj2.fx hB; have y2 := hj2.fy; dsimp only at y2)
    | (go_at_call 151; refine (x_role hB hNS hX hj2 false).mono ?_; rintro en v4 ⟨rfl, hj4⟩; clear hj2; obtain ⟨⟨c42, d42⟩, e42⟩ := hj4.fs 2 (by omega); have hj5 := XJ.setTg ((roleV ts (envOf ns adm) false [] (accS ts ⟨#[114, 101, 118, 111, 107, 101]⟩ s) : Nat) : Int) hNS hX hj4; clear hj4; have x5 := hj5.fx hB)
    | (go_at_call 150; refine (x_expect hNS hX hj5 ⟨#[98, 121]⟩).mono ?_; rintro en v6 ⟨rfl, hj6⟩; clear hj5; have x6 := hj6.fx hB)
    | (go_at_call 151; refine (x_role hB hNS hX hj6 true).mono ?_; rintro en v7 ⟨rfl, hj7⟩; clear hj6; obtain ⟨⟨c71, d71⟩, e71⟩ := hj7.fs 1 (by omega); have hj8 := XJ.setAd ((roleV ts (envOf ns adm) true [] (expS ts ⟨#[98, 121]⟩ (roleS ts (envOf ns adm) false [] (accS ts ⟨#[114, 101, 118, 111, 107, 101]⟩ s))) : Nat) : Int) hNS hX hj7; clear hj7; have x8 := hj8.fx hB; have y8 := hj8.fy; dsimp only at y8)
    | (go_at_call 149; refine (x_accept hNS hX hj8 ⟨#[111, 110]⟩).mono ?_; rintro en v13 ⟨rfl, hj13⟩; clear hj8; have x13 := hj13.fx hB))
  go_cut [] (fun wx => XJ W0 w g w1.heap.size ts ⟨true, ((roleV ts (envOf ns adm) true [] (expS ts wBy (roleS ts (envOf ns adm) false [] (accS ts wRevoke s))) : Nat) : Int), ((roleV ts (envOf ns adm) false [] (accS ts wRevoke s) : Nat) : Int), [], [], (onS ts (roleS ts (envOf ns adm) true [] (expS ts wBy (roleS ts (envOf ns adm) false [] (accS ts wRevoke s))))).1, 0⟩ (onS ts (roleS ts (envOf ns adm) true [] (expS ts wBy (roleS ts (envOf ns adm) false [] (accS ts wRevoke s))))).2 wx)
  case first =>
    cases hb : accB ts wOn (roleS ts (envOf ns adm) true [] (expS ts wBy (roleS ts (envOf ns adm) false [] (accS ts wRevoke s))))
    · have hc : (onS ts (roleS ts (envOf ns adm) true [] (expS ts wBy (roleS ts (envOf ns adm) false [] (accS ts wRevoke s))))) = (allD, (roleS ts (envOf ns adm) true [] (expS ts wBy (roleS ts (envOf ns adm) false [] (accS ts wRevoke s))))) := by
        unfold onS
        rw [hb]
      have hj14 : XJ W0 w g w1.heap.size ts ⟨true, ((roleV ts (envOf ns adm) true [] (expS ts wBy (roleS ts (envOf ns adm) false [] (accS ts wRevoke s))) : Nat) : Int), ((roleV ts (envOf ns adm) false [] (accS ts wRevoke s) : Nat) : Int), [], [], allD, 0⟩ (roleS ts (envOf ns adm) true [] (expS ts wBy (roleS ts (envOf ns adm) false [] (accS ts wRevoke s)))) v13 := by
        have h := hj13
        rw [show accS ts ⟨#[111, 110]⟩ (roleS ts (envOf ns adm) true [] (expS ts ⟨#[98, 121]⟩ (roleS ts (envOf ns adm) false [] (accS ts ⟨#[114, 101, 118, 111, 107, 101]⟩ s)))) = (roleS ts (envOf ns adm) true [] (expS ts wBy (roleS ts (envOf ns adm) false [] (accS ts wRevoke s)))) from acc_no hb] at h
        exact h
      try simp only [show accB ts ⟨#[111, 110]⟩ (roleS ts (envOf ns adm) true [] (expS ts ⟨#[98, 121]⟩ (roleS ts (envOf ns adm) false [] (accS ts ⟨#[114, 101, 118, 111, 107, 101]⟩ s)))) = false from hb]
      clear hj13
      go_wp2_with fail
      go_meet
      rw [hc]
      exact hj14
    · have hc : (onS ts (roleS ts (envOf ns adm) true [] (expS ts wBy (roleS ts (envOf ns adm) false [] (accS ts wRevoke s))))) = whenS ts (accS ts wOn (roleS ts (envOf ns adm) true [] (expS ts wBy (roleS ts (envOf ns adm) false [] (accS ts wRevoke s))))) := by
        unfold onS
        rw [hb]
      try simp only [show accB ts ⟨#[111, 110]⟩ (roleS ts (envOf ns adm) true [] (expS ts ⟨#[98, 121]⟩ (roleS ts (envOf ns adm) false [] (accS ts ⟨#[114, 101, 118, 111, 107, 101]⟩ s)))) = true from hb]
      go_wp2_with (go_at_call 153; refine (x_when hB hNS hX hj13 hts).mono ?_; rintro en v14 ⟨da, dn, dc, rfl, hdd, hdc, hj14⟩; clear hj13; obtain ⟨⟨c145, d145⟩, e145⟩ := hj14.fs 5 (by omega))
      have hj15 := XJ.setDays hdd hdc hNS hX hj14
      go_meet
      rw [hc]
      simp only [lit_on, lit_by, lit_revoke] at hj15
      exact hj15
  case rest =>
    obtain ⟨O, hO⟩ : ∃ O, O = (onS ts (roleS ts (envOf ns adm) true [] (expS ts wBy (roleS ts (envOf ns adm) false [] (accS ts wRevoke s))))) := ⟨_, rfl⟩
    rw [← hO] at hcut
    replace hO := Lib.hid hO
    have hj16 := hcut
    clear hcut
    have x16 := hj16.fx hB; have y16 := hj16.fy; dsimp only at y16
    have hR : ruleS ts (envOf ns adm) s = (⟨true, ((roleV ts (envOf ns adm) true [] (expS ts wBy (roleS ts (envOf ns adm) false [] (accS ts wRevoke s))) : Nat) : Int), ((roleV ts (envOf ns adm) false [] (accS ts wRevoke s) : Nat) : Int), [], [], O.1, 0⟩, expS ts wSemi O.2) := by
      rw [hO.out]
      unfold ruleS headS ifS forS
      dsimp only
      rw [hv]
      simp only [Bool.not_true, Bool.false_and, Int.natCast_zero]
    go_wp2_with (go_at_call 150; refine (x_expect hNS hX hj16 ⟨#[59]⟩).mono ?_; rintro en v21 ⟨rfl, hj21⟩; clear hj16; skip; obtain ⟨⟨rv, ad, tg, p1, q1, z1, p2, q2, z2, p3, q3, z3, lg⟩, hh, hrw, hpw, hin, hgr, h0⟩ := hj21; have hh' : v21.heap[w1.heap.size]? = some (.cells #[.bool rv, .int .i64 ad, .int .i64 tg, .slice p1 q1 z1, .slice p2 q2 z2, .slice p3 q3 z3, .int .i64 lg] 46 (0, 0)) := hh; obtain ⟨⟨l0, l1, l2, l3, l4, l5, l6⟩, -, -, -, -, -, -, -⟩ := cell7 hh'; obtain ⟨⟨m0, m1, m2, m3, m4, m5, m6⟩, f0, f1, f2, f3, f4, f5, f6⟩ := cell7 h0)
    obtain ⟨s1, s2, s3, s4⟩ := seven (.bool rv) (.int .i64 ad) (.int .i64 tg) (.slice p1 q1 z1) (.slice p2 q2 z2) (.slice p3 q3 z3) (.int .i64 lg) h0
    obtain ⟨⟨k0, k1, k2, k3, k4, k5, k6⟩, -⟩ := cell7 s1
    refine bodyPost_ret (v := .agg #[.bool rv, .int .i64 ad, .int .i64 tg, .slice p1 q1 z1, .slice p2 q2 z2, .slice p3 q3 z3, .int .i64 lg]) (by simp [results, Tryz.results68, go_sem, k0, k1, k2, k3, k4, k5, k6]) rfl ?_
    rw [hR]
    exact ⟨⟨rv, ad, tg, p1, q1, z1, p2, q2, z2, p3, q3, z3, lg⟩, rfl, s2 _ _ _ hrw, hpw.after (s3 _ hNS), hin, s4 _ _ hgr (Nat.le_refl _)⟩
end Go.Proofs.YtfjpbkmnlmecgaaGreatDoor.Ru
end

section
/- The parser: a rule that assigns; all rules. -/
namespace Go.Proofs.YtfjpbkmnlmecgaaGreatDoor.Ru
open Go.RowKit Go.PlainAid Go.Maps Go.Proofs.YtfjpbkmnlmecgaaGreatDoor Go.Proofs.YtfjpbkmnlmecgaaGreatDoor.Bz
set_option linter.unusedVariables false
set_option linter.unusedSimpArgs false
set_option maxHeartbeats 40000000
set_option maxRecDepth 20000

theorem rule_f {W0 w : World} {g P t : Nat} {ns : List ByteArray} {a : Option Addr} {n cap : Nat} {adm : List Nat} {ts : List Tok} {s : RS} (hB : Base W0 g P t ns a n cap adm) (hw : Pw W0 g ts s w) (hi : InT ts s) (hts : ts.length ≤ 90000) (hv : accB ts wRevoke s = false) :
    Calls Tryz.prog 68 #[.pointer (some ⟨P, 0, none⟩)] w (RlP W0 w g ts (ruleS ts (envOf ns adm) s)) := by
  have hNS := hw.size
  have HBR : Hid (accB ts ⟨#[114, 101, 118, 111, 107, 101]⟩ s = false) := hv
  have HSR : Hid (accS ts ⟨#[114, 101, 118, 111, 107, 101]⟩ s = s) := acc_no hv
  go_enter Tryz.func68, Tryz.ntmps68
  go_upto_if 42 with (first
    | (go_at_call 132; refine (Dy.all_anyF _).mono ?_; rintro en w1 ⟨a1, n1, c1, rfl, hd1, hb1⟩; rw [World.size_alloc] at hd1 hb1; have hX : w.heap.size < w1.heap.size := (by have := hb1.size; rw [World.size_alloc] at this; omega); have hj0 := xj_start hw hi (.inr (hd1.mono (by omega))) hb1; have x0 := hj0.fx hB)
    | (go_at_call 149; refine (x_accept hNS hX hj0 ⟨#[114, 101, 118, 111, 107, 101]⟩).mono ?_; rintro en v1 ⟨rfl, hj1⟩; clear hj0; obtain ⟨⟨c10, d10⟩, e10⟩ := hj1.fs 0 (by omega); rw [HBR.out]; rw [HSR.out] at hj1; have hj2 := XJ.setRv false hNS hX hj1; clear hj1; have x2 := hj2.fx hB; have y2 := hj2.fy; dsimp only at y2)
    | (go_at_call 150; refine (x_expect hNS hX hj2 ⟨#[97, 115, 115, 105, 103, 110]⟩).mono ?_; rintro en v3 ⟨rfl, hj3⟩; clear hj2; have x3 := hj3.fx hB)
    | (go_at_call 151; refine (x_role hB hNS hX hj3 false).mono ?_; rintro en v4 ⟨rfl, hj4⟩; clear hj3; obtain ⟨⟨c42, d42⟩, e42⟩ := hj4.fs 2 (by omega); have hj5 := XJ.setTg ((roleV ts (envOf ns adm) false [] (expS ts ⟨#[97, 115, 115, 105, 103, 110]⟩ s) : Nat) : Int) hNS hX hj4; clear hj4; have x5 := hj5.fx hB)
    | (go_at_call 150; refine (x_expect hNS hX hj5 ⟨#[98, 121]⟩).mono ?_; rintro en v6 ⟨rfl, hj6⟩; clear hj5; have x6 := hj6.fx hB)
    | (go_at_call 151; refine (x_role hB hNS hX hj6 true).mono ?_; rintro en v7 ⟨rfl, hj7⟩; clear hj6; obtain ⟨⟨c71, d71⟩, e71⟩ := hj7.fs 1 (by omega); have hj8 := XJ.setAd ((roleV ts (envOf ns adm) true [] (expS ts ⟨#[98, 121]⟩ (roleS ts (envOf ns adm) false [] (expS ts ⟨#[97, 115, 115, 105, 103, 110]⟩ s))) : Nat) : Int) hNS hX hj7; clear hj7; have x8 := hj8.fx hB; have y8 := hj8.fy; dsimp only at y8)
    | (go_at_call 149; refine (x_accept hNS hX hj8 ⟨#[105, 102]⟩).mono ?_; rintro en v9 ⟨rfl, hj9⟩; clear hj8; have x9 := hj9.fx hB))
  go_cut [] (fun wx => XJ W0 w g w1.heap.size ts ⟨false, ((roleV ts (envOf ns adm) true [] (expS ts wBy (roleS ts (envOf ns adm) false [] (expS ts wAssign s))) : Nat) : Int), ((roleV ts (envOf ns adm) false [] (expS ts wAssign s) : Nat) : Int), (ifS ts (envOf ns adm) false (roleS ts (envOf ns adm) true [] (expS ts wBy (roleS ts (envOf ns adm) false [] (expS ts wAssign s))))).1.1, (ifS ts (envOf ns adm) false (roleS ts (envOf ns adm) true [] (expS ts wBy (roleS ts (envOf ns adm) false [] (expS ts wAssign s))))).1.2, allD, 0⟩ (ifS ts (envOf ns adm) false (roleS ts (envOf ns adm) true [] (expS ts wBy (roleS ts (envOf ns adm) false [] (expS ts wAssign s))))).2 wx)
  case first =>
    cases hb : accB ts wIf (roleS ts (envOf ns adm) true [] (expS ts wBy (roleS ts (envOf ns adm) false [] (expS ts wAssign s))))
    · have hc : (ifS ts (envOf ns adm) false (roleS ts (envOf ns adm) true [] (expS ts wBy (roleS ts (envOf ns adm) false [] (expS ts wAssign s))))) = (([], []), (roleS ts (envOf ns adm) true [] (expS ts wBy (roleS ts (envOf ns adm) false [] (expS ts wAssign s))))) := by
        unfold ifS
        rw [hb]; rfl
      have hbl : accB ts ⟨#[105, 102]⟩ (roleS ts (envOf ns adm) true [] (expS ts wBy (roleS ts (envOf ns adm) false [] (expS ts wAssign s)))) = false := hb
      have hj10 : XJ W0 w g w1.heap.size ts ⟨false, ((roleV ts (envOf ns adm) true [] (expS ts wBy (roleS ts (envOf ns adm) false [] (expS ts wAssign s))) : Nat) : Int), ((roleV ts (envOf ns adm) false [] (expS ts wAssign s) : Nat) : Int), [], [], allD, 0⟩ (roleS ts (envOf ns adm) true [] (expS ts wBy (roleS ts (envOf ns adm) false [] (expS ts wAssign s)))) v9 := by
        have h := hj9
        have e : accS ts ⟨#[105, 102]⟩ (roleS ts (envOf ns adm) true [] (expS ts wBy (roleS ts (envOf ns adm) false [] (expS ts wAssign s)))) = (roleS ts (envOf ns adm) true [] (expS ts wBy (roleS ts (envOf ns adm) false [] (expS ts wAssign s)))) := acc_no hb
        rw [show accS ts ⟨#[105, 102]⟩ (roleS ts (envOf ns adm) true [] (expS ts ⟨#[98, 121]⟩ (roleS ts (envOf ns adm) false [] (expS ts ⟨#[97, 115, 115, 105, 103, 110]⟩ s)))) = (roleS ts (envOf ns adm) true [] (expS ts wBy (roleS ts (envOf ns adm) false [] (expS ts wAssign s)))) from e] at h
        exact h
      try simp only [show accB ts ⟨#[105, 102]⟩ (roleS ts (envOf ns adm) true [] (expS ts ⟨#[98, 121]⟩ (roleS ts (envOf ns adm) false [] (expS ts ⟨#[97, 115, 115, 105, 103, 110]⟩ s)))) = false from hb]
      clear hj9
      go_wp2_with fail
      go_meet
      rw [hc]
      exact hj10
    · have hc : (ifS ts (envOf ns adm) false (roleS ts (envOf ns adm) true [] (expS ts wBy (roleS ts (envOf ns adm) false [] (expS ts wAssign s))))) = condS ts (envOf ns adm) (ts.length + 2) [] [] (accS ts wIf (roleS ts (envOf ns adm) true [] (expS ts wBy (roleS ts (envOf ns adm) false [] (expS ts wAssign s))))) := by
        unfold ifS
        rw [hb]; rfl
      try simp only [show accB ts ⟨#[105, 102]⟩ (roleS ts (envOf ns adm) true [] (expS ts ⟨#[98, 121]⟩ (roleS ts (envOf ns adm) false [] (expS ts ⟨#[97, 115, 115, 105, 103, 110]⟩ s)))) = true from hb]
      go_wp2_with (go_at_call 152; refine (x_cond hB hNS hX hj9).mono ?_; rintro en v10 ⟨ya, yn, yc, na, nn, nc, rfl, hqy, hqn, hj10⟩; clear hj9; obtain ⟨⟨c103, d103⟩, e103⟩ := hj10.fs 3 (by omega); obtain ⟨⟨c104, d104⟩, e104⟩ := hj10.fs 4 (by omega))
      have hj11 := XJ.setIf hqy hqn hNS hX hj10
      go_meet
      rw [hc]
      simp only [lit_assign, lit_by, lit_if] at hj11
      exact hj11
  case rest =>
    obtain ⟨C, hC⟩ : ∃ C, C = (ifS ts (envOf ns adm) false (roleS ts (envOf ns adm) true [] (expS ts wBy (roleS ts (envOf ns adm) false [] (expS ts wAssign s))))) := ⟨_, rfl⟩
    rw [← hC] at hcut
    replace hC := Lib.hid hC
    have hj12 := hcut
    clear hcut
    have x12 := hj12.fx hB; have y12 := hj12.fy; dsimp only at y12
    go_upto_if 50 with (first
    | (go_at_call 149; refine (x_accept hNS hX hj12 ⟨#[111, 110]⟩).mono ?_; rintro en v13 ⟨rfl, hj13⟩; clear hj12; have x13 := hj13.fx hB))
    go_cut [] (fun wx => XJ W0 w g w1.heap.size ts ⟨false, ((roleV ts (envOf ns adm) true [] (expS ts wBy (roleS ts (envOf ns adm) false [] (expS ts wAssign s))) : Nat) : Int), ((roleV ts (envOf ns adm) false [] (expS ts wAssign s) : Nat) : Int), C.1.1, C.1.2, (onS ts C.2).1, 0⟩ (onS ts C.2).2 wx)
    case first =>
      cases hb : accB ts wOn C.2
      · have hc : (onS ts C.2) = (allD, C.2) := by
          unfold onS
          rw [hb]
        have hj14 : XJ W0 w g w1.heap.size ts ⟨false, ((roleV ts (envOf ns adm) true [] (expS ts wBy (roleS ts (envOf ns adm) false [] (expS ts wAssign s))) : Nat) : Int), ((roleV ts (envOf ns adm) false [] (expS ts wAssign s) : Nat) : Int), C.1.1, C.1.2, allD, 0⟩ C.2 v13 := by
          have h := hj13
          rw [show accS ts ⟨#[111, 110]⟩ C.2 = C.2 from acc_no hb] at h
          exact h
        try simp only [show accB ts ⟨#[111, 110]⟩ C.2 = false from hb]
        clear hj13
        go_wp2_with fail
        go_meet
        rw [hc]
        exact hj14
      · have hc : (onS ts C.2) = whenS ts (accS ts wOn C.2) := by
          unfold onS
          rw [hb]
        try simp only [show accB ts ⟨#[111, 110]⟩ C.2 = true from hb]
        go_wp2_with (go_at_call 153; refine (x_when hB hNS hX hj13 hts).mono ?_; rintro en v14 ⟨da, dn, dc, rfl, hdd, hdc, hj14⟩; clear hj13; obtain ⟨⟨c145, d145⟩, e145⟩ := hj14.fs 5 (by omega))
        have hj15 := XJ.setDays hdd hdc hNS hX hj14
        go_meet
        rw [hc]
        simp only [lit_on, lit_by, lit_revoke] at hj15
        exact hj15
    case rest =>
      obtain ⟨O, hO⟩ : ∃ O, O = (onS ts C.2) := ⟨_, rfl⟩
      rw [← hO] at hcut
      replace hO := Lib.hid hO
      have hj16 := hcut
      clear hcut
      have x16 := hj16.fx hB; have y16 := hj16.fy; dsimp only at y16
      go_upto_if 63 with (go_at_call 149; refine (x_accept hNS hX hj16 ⟨#[102, 111, 114]⟩).mono ?_; rintro en v17 ⟨rfl, hj17⟩; clear hj16; have x17 := hj17.fx hB)
      go_cut [] (fun wx => XJ W0 w g w1.heap.size ts ⟨false, ((roleV ts (envOf ns adm) true [] (expS ts wBy (roleS ts (envOf ns adm) false [] (expS ts wAssign s))) : Nat) : Int), ((roleV ts (envOf ns adm) false [] (expS ts wAssign s) : Nat) : Int), C.1.1, C.1.2, O.1, (((forS ts false O.2).1 : Nat) : Int)⟩ (forS ts false O.2).2 wx)
      case first =>
        cases hb : accB ts wFor O.2
        · have hc : (forS ts false O.2) = (0, O.2) := by
            unfold forS
            rw [hb]; rfl
          have hj18 : XJ W0 w g w1.heap.size ts ⟨false, ((roleV ts (envOf ns adm) true [] (expS ts wBy (roleS ts (envOf ns adm) false [] (expS ts wAssign s))) : Nat) : Int), ((roleV ts (envOf ns adm) false [] (expS ts wAssign s) : Nat) : Int), C.1.1, C.1.2, O.1, 0⟩ O.2 v17 := by
            have h := hj17
            rw [show accS ts ⟨#[102, 111, 114]⟩ O.2 = O.2 from acc_no hb] at h
            exact h
          try simp only [show accB ts ⟨#[102, 111, 114]⟩ O.2 = false from hb]
          clear hj17
          go_wp2_with fail
          go_meet
          rw [hc]
          exact hj18
        · have hc : (forS ts false O.2) = (numV ts 1 30000 (accS ts wFor O.2), numS ts 1 30000 (accS ts wFor O.2)) := by
            unfold forS
            rw [hb]; rfl
          try simp only [show accB ts ⟨#[102, 111, 114]⟩ O.2 = true from hb]
          go_wp2_with (go_at_call 154; refine (x_number hNS hX hj17 1 30000).mono ?_; rintro en v18 ⟨rfl, hj18⟩; clear hj17; obtain ⟨⟨c186, d186⟩, e186⟩ := hj18.fs 6 (by omega))
          have hj19 := XJ.setLg ((numV ts 1 30000 (accS ts wFor O.2) : Nat) : Int) hNS hX hj18
          go_meet
          rw [hc]
          simp only [lit_for] at hj19
          exact hj19
      case rest =>
        obtain ⟨G, hG⟩ : ∃ G, G = (forS ts false O.2) := ⟨_, rfl⟩
        rw [← hG] at hcut
        replace hG := Lib.hid hG
        have hj20 := hcut
        clear hcut
        have x20 := hj20.fx hB
        have hR : ruleS ts (envOf ns adm) s = (⟨false, ((roleV ts (envOf ns adm) true [] (expS ts wBy (roleS ts (envOf ns adm) false [] (expS ts wAssign s))) : Nat) : Int), ((roleV ts (envOf ns adm) false [] (expS ts wAssign s) : Nat) : Int), C.1.1, C.1.2, O.1, ((G.1 : Nat) : Int)⟩, expS ts wSemi G.2) := by
          rw [hG.out, hO.out, hC.out]
          unfold ruleS headS
          dsimp only
          rw [hv]
        go_wp2_with (go_at_call 150; refine (x_expect hNS hX hj20 ⟨#[59]⟩).mono ?_; rintro en v21 ⟨rfl, hj21⟩; clear hj20; skip; obtain ⟨⟨rv, ad, tg, p1, q1, z1, p2, q2, z2, p3, q3, z3, lg⟩, hh, hrw, hpw, hin, hgr, h0⟩ := hj21; have hh' : v21.heap[w1.heap.size]? = some (.cells #[.bool rv, .int .i64 ad, .int .i64 tg, .slice p1 q1 z1, .slice p2 q2 z2, .slice p3 q3 z3, .int .i64 lg] 46 (0, 0)) := hh; obtain ⟨⟨l0, l1, l2, l3, l4, l5, l6⟩, -, -, -, -, -, -, -⟩ := cell7 hh'; obtain ⟨⟨m0, m1, m2, m3, m4, m5, m6⟩, f0, f1, f2, f3, f4, f5, f6⟩ := cell7 h0)
        obtain ⟨s1, s2, s3, s4⟩ := seven (.bool rv) (.int .i64 ad) (.int .i64 tg) (.slice p1 q1 z1) (.slice p2 q2 z2) (.slice p3 q3 z3) (.int .i64 lg) h0
        obtain ⟨⟨k0, k1, k2, k3, k4, k5, k6⟩, -⟩ := cell7 s1
        refine bodyPost_ret (v := .agg #[.bool rv, .int .i64 ad, .int .i64 tg, .slice p1 q1 z1, .slice p2 q2 z2, .slice p3 q3 z3, .int .i64 lg]) (by simp [results, Tryz.results68, go_sem, k0, k1, k2, k3, k4, k5, k6]) rfl ?_
        rw [hR]
        exact ⟨⟨rv, ad, tg, p1, q1, z1, p2, q2, z2, p3, q3, z3, lg⟩, rfl, s2 _ _ _ hrw, hpw.after (s3 _ hNS), hin, s4 _ _ hgr (Nat.le_refl _)⟩
theorem rule_any {W0 w : World} {g P t : Nat} {ns : List ByteArray} {a : Option Addr} {n cap : Nat} {adm : List Nat} {ts : List Tok} {s : RS} (hB : Base W0 g P t ns a n cap adm) (hw : Pw W0 g ts s w) (hi : InT ts s) (hts : ts.length ≤ 90000) :
    Calls Tryz.prog 68 #[.pointer (some ⟨P, 0, none⟩)] w (RlP W0 w g ts (ruleS ts (envOf ns adm) s)) := by
  cases hv : accB ts wRevoke s
  · exact rule_f hB hw hi hts hv
  · exact rule_t hB hw hi hts hv
end Go.Proofs.YtfjpbkmnlmecgaaGreatDoor.Ru
end

section
/- rule.Parse. -/
namespace Go.Proofs.YtfjpbkmnlmecgaaGreatDoor.Ru
open Go.RowKit Go.PlainAid Go.Maps Go.Proofs.YtfjpbkmnlmecgaaGreatDoor Go.Proofs.YtfjpbkmnlmecgaaGreatDoor.Bz
set_option linter.unusedVariables false
set_option linter.unusedSimpArgs false
set_option maxHeartbeats 4000000
set_option maxRecDepth 20000

theorem scanA_len : ∀ (f a : Nat) (l : List UInt8), (scanA f a l).1.length ≤ f
  | 0, a, l => by simp [scanA]
  | f + 1, a, [] => by simp [scanA]
  | f + 1, a, c :: r => by
    unfold scanA
    dsimp only
    cases h : tokL (c :: r) with
    | none => simp
    | some x =>
      obtain ⟨kd, t, n⟩ := x
      dsimp only
      rw [List.length_cons]
      have := scanA_len f (a + (t.length + skipL false ((c :: r).drop t.length))) ((c :: r).drop (t.length + skipL false ((c :: r).drop t.length)))
      omega
theorem scan_len {l : List UInt8} (h : (scanP l).2.2 = 0) : (scanP l).1.length ≤ 8001 := by
  unfold scanP at h ⊢
  by_cases h8 : 8000 < l.length
  · rw [if_pos h8]; simp
  · rw [if_neg h8]
    split
    · have := scanA_len (l.length + 1) (skipL false l) (l.drop (skipL false l))
      show (scanA _ _ _).1.length ≤ _
      omega
    · simp
theorem sl_of_own {w : World} {base : Nat} {v : Value} {n : Nat} {ts : List Tok} (h : w.ownsRow base 139 4 v n (flatP ts)) : Sl w v n 4 (flatP ts) := Sl.owned h
/-- What Parse answers. -/
def PaP (w : World) (R : List Rl × Nat × Nat) (e : Ending) (w' : World) : Prop :=
  ∃ a n c, e = .returned (.tuple #[.slice a n c, .int .i64 R.2.1, .int .i64 R.2.2]) ∧ Rs w.heap.size w' a n c R.1 ∧ Below w.heap.size w w'
def slN : Value → Nat | .slice _ n _ => n | _ => 0
/-- What the loop over rules keeps: R is what will come out. -/
def PJ (W0 : World) (g : Nat) (ts : List Tok) (E : Env) (R : List Rl × RS) (v : Value) (w : World) : Prop :=
  ∃ hs l s, Ok hrE 46 w W0.heap.size v hs ∧ AllR W0.heap.size w hs l ∧ Pw W0 g ts s w ∧ InT ts s ∧ ∃ f, rulesS ts E f l s = R ∧ f + l.length = 66 ∧ l.length ≤ 64
theorem PJ.pw {W0 w : World} {g : Nat} {ts : List Tok} {E : Env} {R : List Rl × RS} {v : Value} (h : PJ W0 g ts E R v w) : ∃ s, Pw W0 g ts s w := by
  obtain ⟨_, _, s, _, _, h, _⟩ := h; exact ⟨s, h⟩
theorem base_of {w W0 : World} {g P t : Nat} {ns : List ByteArray} {a : Option Addr} {n cap : Nat} {adm : List Nat} (hT : Tb w t ns) (hA : Bs w a n cap adm) (hb : Below w.heap.size w W0) (hg : w.heap.size ≤ g) (hP : W0.heap[P]? = some (.cells #[.pointer (some ⟨g, 0, none⟩), .pointer (some ⟨t, 0, none⟩), .slice a n cap] 136 (0, 0))) (hPg : P ≠ g) : Base W0 g P t ns a n cap adm := by
  have key : ∀ w', W0.grownBy w' (some g) → Below w.heap.size w w' := fun w' h => hb.trans (bel_new h (fun b e => by injection e with e; omega) hb.size)
  exact ⟨fun w' h => (h.block P (Array.getElem?_eq_some_iff.1 hP).1 (fun e => hPg (Option.some.inj e))).trans hP, fun w' h => hT.below (key w' h), fun w' h => hA.below (key w' h)⟩
theorem pj_end {w W0 w' : World} {g : Nat} {ts : List Tok} {E : Env} {R : List Rl × Nat × Nat} {RR : List Rl × RS} {a : Option Addr} {n c : Nat} {hs : List Hr} {l : List Rl} {s : RS} (hB : Below w.heap.size w W0) (hg : w.heap.size ≤ g) (hall : AllR W0.heap.size w' hs l) (hd : Dk hrE w' a n c hs) (hp : Pw W0 g ts s w') (hR : R = parseT ts E) (hRR : RR = rulesS ts E 66 [] ⟨0, 0, 0⟩) (hf : (l, s) = RR) (he : s.e = 0) :
    PaP w R (.returned (.tuple #[.slice a n c, .int .i64 0, .int .i64 0])) w' := by
  have hb : Below w.heap.size w w' := hB.trans (bel_new hp.1 (fun b e => by injection e with e; omega) hB.size)
  subst hR
  unfold parseT
  rw [← hRR, ← hf]
  dsimp only
  rw [if_pos he]
  exact ⟨a, n, c, rfl, ⟨hs, hd, hall.mono hB.size⟩, hb⟩
theorem pj_err {w W0 w' : World} {g : Nat} {ts : List Tok} {E : Env} {R : List Rl × Nat × Nat} {RR : List Rl × RS} {l : List Rl} {s : RS} (hB : Below w.heap.size w W0) (hg : w.heap.size ≤ g) (hp : Pw W0 g ts s w') (hR : R = parseT ts E) (hRR : RR = rulesS ts E 66 [] ⟨0, 0, 0⟩) (hf : (l, s) = RR) (he : s.e ≠ 0) :
    PaP w R (.returned (.tuple #[.slice none 0 0, .int .i64 s.off, .int .i64 s.e])) w' := by
  have hb : Below w.heap.size w w' := hB.trans (bel_new hp.1 (fun b e => by injection e with e; omega) hB.size)
  subst hR
  unfold parseT
  rw [← hRR, ← hf]
  dsimp only
  rw [if_neg he]
  exact ⟨none, 0, 0, rfl, Rs.nil _ _, hb⟩
theorem parse_nil (src : ByteArray) (a : Option Addr) (n cap : Nat) (w : World) :
    Calls Tryz.prog 25 #[.string src, .pointer none, .agg #[.slice a n cap]] w (PaP w ([], 0, 1)) := by
  go_enter Tryz.func25, Tryz.ntmps25
  go_wp2_with fail
  go_returns
  exact ⟨none, 0, 0, rfl, Rs.nil _ _, (Below.refl _ w).alloc (Nat.le_refl _) _⟩
theorem parse_any (src : ByteArray) (t : Nat) (ns : List ByteArray) (a : Option Addr) (n cap : Nat) (adm : List Nat) (w : World) (hT : Tb w t ns) (hA : Bs w a n cap adm) (hs : src.size ≤ 4611686018427387904) :
    Calls Tryz.prog 25 #[.string src, .pointer (some ⟨t, 0, none⟩), .agg #[.slice a n cap]] w (PaP w (parseR src.data.toList (envOf ns adm))) := by
  obtain ⟨i0, hi0, hz0, hz1, hz2⟩ := info_parts infoRule
  have hB1 := (Below.refl w.heap.size w).alloc (Nat.le_refl _) (.cells #[.slice a n cap] 39)
  have k1 : (w.alloc (.cells #[.slice a n cap] 39)).cell? ⟨w.heap.size, 0, none⟩ = some (.slice a n cap) := (new1 _ _ _).1
  have HSC := Lib.hid (scan_any src (w.alloc (.cells #[.slice a n cap] 39)) hs)
  obtain ⟨L, hL⟩ : ∃ L, L = src.data.toList := ⟨_, rfl⟩
  have HE : Hid (∀ x, (scanP L).2.2 = x → x ≠ 0 → parseR L (envOf ns adm) = ([], (scanP L).2.1, x)) := fun x hx h0 => by
    unfold parseR
    rw [if_neg (by rw [hx]; exact h0), hx]
  have HG : Hid ((scanP L).2.2 = 0 → parseR L (envOf ns adm) = parseT (scanP L).1 (envOf ns adm)) := fun hx => by
    unfold parseR
    rw [if_pos hx]
  have HLN : Hid ((scanP L).2.2 = 0 → (scanP L).1.length ≤ 8001) := fun hx => scan_len hx
  rw [← hL] at HSC ⊢
  clear hL
  unfold ScanPost at HSC
  generalize scanP L = sc at *
  obtain ⟨ts, at0, er⟩ := sc
  dsimp only at HSC HE HG HLN
  generalize parseR L (envOf ns adm) = R at *
  go_enter Tryz.func25, Tryz.ntmps25
  by_cases he : er = 0
  · subst he
    have HR := Lib.hid (HG.out rfl)
    have hts := HLN.out rfl
    clear HE HG HLN
    go_upto_region 6 with (go_at_call 64; refine HSC.out.mono ?_; rintro en w2 ⟨v2, rfl, hb2, ho2⟩; have k2 := (hb2.cell (p := ⟨w.heap.size, 0, none⟩) (by simp)).trans k1)
    have hB2 := hB1.trans (hb2.mono (by simp))
    have hzw2 : w.heap.size < w2.heap.size := by have := hb2.size; simp at this; omega
    have HNR := Lib.hid (fun w' (hb : Below w2.heap.size w2 w') => newreader_any v2 ts.length ts w' (sl_of_own (owns_below ho2 (Nat.le_refl _) hb)) rfl (by omega))
    refine wp_region_noPanic ?_
    refine region_ord (S := fun w' => w'.cell? ⟨w.heap.size, 0, none⟩ = some (.slice a n cap)) [0, 2, 3, 1, 4, 5, 6] (by kernel_rfl) (by decide +kernel) (fun _ _ _ _ _ h => h) (k2) (fun _ => ?_)
    repeat (first
      | (refine ord_skip rfl rfl rfl ?_; (try simp only [Act.put, List.setIfInBounds_toArray, List.set_cons_zero, List.set_cons_succ]))
      | (refine' ord_light (v := _) rfl rfl rfl (fun w' hSw => ?_) ?_; rotate_left; (focus ((try dsimp only at hSw); go_simp <;> (with_reducible rfl))); (try simp only [Act.put, List.setIfInBounds_toArray, List.set_cons_zero, List.set_cons_succ]))
      | (refine ord_heavy rfl rfl (fun K hK => ?_); go_simp; (go_at_call 65; refine (HNR.out _ (Below.refl _ w2).drew).mono ?_; rintro en w3 ⟨g, rfl, hb3, hg3, hgl3, hrd3⟩; have k3 := (hb3.cell (p := ⟨w.heap.size, 0, none⟩) hzw2).trans k2; have k4 : (w3.alloc (.cells #[.pointer (some ⟨g, 0, none⟩), .pointer (some ⟨t, 0, none⟩), .slice a n cap] 136)).cell? ⟨w.heap.size, 0, none⟩ = some (.slice a n cap) := (World.cell?_alloc_lt _ _ _ (show w.heap.size < w3.heap.size from Nat.lt_of_lt_of_le hzw2 hb3.size)).trans k3); (try go_wp2_with fail); refine hK.out _ _ (by first | exact k2 | exact k3 | exact k4) ?_; clear hK K; (try simp only [Act.put, List.setIfInBounds_toArray, List.set_cons_zero, List.set_cons_succ]))
      | (refine ord_heavy rfl rfl (fun K hK => ?_); go_simp; (try go_wp2_with fail); refine hK.out _ _ (by first | exact k2 | exact k3 | exact k4) ?_; clear hK K; (try simp only [Act.put, List.setIfInBounds_toArray, List.set_cons_zero, List.set_cons_succ])))
    refine ord_nil (NoPanic.normal ?_)
    have hgz3 : w2.heap.size ≤ w3.heap.size := hb3.size
    have hg3' : w2.heap.size ≤ g := hg3
    obtain ⟨W0, hW0⟩ : ∃ W0, W0 = w3.alloc (.cells #[.pointer (some ⟨g, 0, none⟩), .pointer (some ⟨t, 0, none⟩), .slice a n cap] 136) := ⟨_, rfl⟩
    have hP0 : W0.heap[w3.heap.size]? = some (.cells #[.pointer (some ⟨g, 0, none⟩), .pointer (some ⟨t, 0, none⟩), .slice a n cap] 136 (0, 0)) := by rw [hW0]; exact heap_alloc_new _ _
    have hB3 : Below w.heap.size w W0 := by rw [hW0]; exact ((hB2.drew.trans (hb3.mono (Nat.le_of_lt hzw2))).alloc (by omega) _)
    have hsz0 : W0.heap.size = w3.heap.size + 1 := by rw [hW0]; simp
    have hgw : w.heap.size ≤ g := by omega
    have HB := Lib.hid (base_of (g := g) (P := w3.heap.size) hT hA hB3 hgw hP0 (by omega))
    have hrd0 : Rd tokV W0 g W0.heap.size ts 0 0 0 := by
      have h := hrd3 (w3.heap.size + 1) (Nat.le_succ _)
      rw [hsz0, hW0]
      exact h.below ((Below.refl _ w3).alloc (Nat.le_refl _) _)
    have hgl : g < W0.heap.size := by omega
    have hpw0 : Pw W0 g ts ⟨0, 0, 0⟩ W0 := ⟨gb_of_below (Below.refl _ _) _, hrd0, hgl⟩
    have hin0 : InT ts ⟨0, 0, 0⟩ := Nat.zero_le _
    rw [← hW0]
    clear hW0 hP0 hrd0 hrd3 k2 k3 k4 hb2 hb3 ho2 HNR HSC hsz0
    obtain ⟨RR, hRR⟩ : ∃ RR, RR = rulesS ts (envOf ns adm) 66 [] ⟨0, 0, 0⟩ := ⟨_, rfl⟩
    have HRR := Lib.hid hRR
    have HSTART : Hid (PJ W0 g ts (envOf ns adm) RR (.slice none 0 0) W0) := ⟨[], [], ⟨0, 0, 0⟩, Ok.nil _ _ _ _, AllR.nil _ _, hpw0, hin0, 66, hRR.symm, rfl, by simp⟩
    clear hRR hpw0 hin0
    go_wp2_with fail
    go_loopw [13] (fun v wr => PJ W0 g ts (envOf ns adm) RR v wr) (fun v _ => 64 - slN v)
    case atStart => exact HSTART.out
    case round =>
      clear HSTART
      obtain ⟨hs, l, s, hown, hall, hp, hi, f, hf, hfl, hl64⟩ := hrel
      obtain ⟨f, rfl⟩ : ∃ f', f = f' + 1 := ⟨f - 1, by omega⟩
      obtain ⟨a1, n1, c1, rfl, hn1, hd1⟩ := hown.dn (by decide)
      have HN1 := Lib.hid hn1
      have hnl : n1 = l.length := hn1.trans hall.1
      have HD1 := Lib.hid hd1
      clear hn1 hd1
      unfold rulesS at hf
      have HF := Lib.hid hf
      clear hf
      have hgl' := hp.2.2
      have hszW := hp.size
      obtain ⟨x0, -, -⟩ := HB.out.cells hp
      have HCEL := Lib.hid (fun w' s' (h : Pw W0 g ts s' w') => HB.out.cells h)
      have HPK := Lib.hid (p_peek hp hi)
      have HT : aggP (pk ts s) = .agg #[.int .u8 (pk ts s).kind, .string ⟨(pk ts s).text.toArray⟩, .int .i64 (pk ts s).n, .int .i64 (pk ts s).pos] := rfl
      have HERR := Lib.hid (fun w' s' (h : Pw W0 g ts s' w') => err_any tokV w' g W0.heap.size ts s'.pos s'.off s'.e h.2.1)
      by_cases hk : (pk ts s).kind = 0
      · rw [hk] at HT
        have HF2 : Hid ((l, s) = RR) := by have := HF.out; rwa [if_pos hk] at this
        generalize (((pk ts s).n : Nat) : Int) = nn at HT
        generalize (((pk ts s).pos : Nat) : Int) = ps at HT
        generalize (⟨(pk ts s).text.toArray⟩ : ByteArray) = xx at HT
        rw [HT] at HPK
        have hfd : ∀ v : World, (Instr.field 139 (.agg #[.int .u8 0, .string xx, .int .i64 nn, .int .i64 ps]) 0).run Tryz.prog v = .ok (.int .u8 0) v := fun _ => by kernel_rfl
        clear HT hk HF hnl
        by_cases hse : s.e = 0
        · have HER := Lib.hid (fun w' (h : Pw W0 g ts s w') => HERR.out w' s h)
          rw [hse] at HER
          have HSE := Lib.hid hse
          clear HERR hse
          go_wp2_with (first
            | (go_at_call 66; (with_reducible refine HPK.out.mono ?_); rintro en w5 ⟨rfl, hb5⟩; have hp5 := hp.below hb5; obtain ⟨x5, -, -⟩ := HCEL.out _ _ hp5)
            | (go_at_call 69; refine (HER.out _ hp5).mono ?_; rintro en w6 ⟨rfl, hb6⟩))
          go_returns
          exact pj_end hB3 hgw ((hall.below hb5).below hb6) ((HD1.out.below hb5).below hb6) (hp5.below hb6) HR.out HRR.out HF2.out HSE.out
        · have hei : ¬ ((s.e : Nat) : Int) = 0 := by omega
          have HSE := Lib.hid hse
          have HER := Lib.hid (fun w' (h : Pw W0 g ts s w') => HERR.out w' s h)
          obtain ⟨ei, hei'⟩ : ∃ ei, ei = ((s.e : Nat) : Int) := ⟨_, rfl⟩
          have HEI := Lib.hid hei'
          rw [← hei'] at HER hei
          clear HERR hse hei'
          go_wp2_with (first
            | (go_at_call 66; (with_reducible refine HPK.out.mono ?_); rintro en w5 ⟨rfl, hb5⟩; have hp5 := hp.below hb5; obtain ⟨x5, -, -⟩ := HCEL.out _ _ hp5)
            | (go_at_call 69; refine (HER.out _ hp5).mono ?_; rintro en w6 ⟨rfl, hb6⟩))
          go_returns
          rw [HEI.out]
          exact pj_err hB3 hgw (hp5.below hb6) HR.out HRR.out HF2.out HSE.out
      · have hkd : ¬ (((pk ts s).kind : Nat) : Int) = 0 := by omega
        have HK := Lib.hid hk
        generalize (((pk ts s).kind : Nat) : Int) = kd at HT hkd
        generalize (((pk ts s).n : Nat) : Int) = nn at HT
        generalize (((pk ts s).pos : Nat) : Int) = ps at HT
        generalize (⟨(pk ts s).text.toArray⟩ : ByteArray) = xx at HT
        rw [HT] at HPK
        have hfd : ∀ v : World, (Instr.field 139 (.agg #[.int .u8 kd, .string xx, .int .i64 nn, .int .i64 ps]) 0).run Tryz.prog v = .ok (.int .u8 kd) v := fun _ => by kernel_rfl
        clear HT hk
        by_cases hl : l.length = 64
        · obtain rfl : n1 = 64 := by omega
          have HF2 : Hid ((l, failS ts 3 s) = RR) := by have := HF.out; rwa [if_neg HK.out, if_pos hl] at this
          have HFL := Lib.hid (fun w' (h : Pw W0 g ts s w') => p_fail 3 h hi)
          have hne : (failS ts 3 s).e ≠ 0 := by
            unfold failS feF; dsimp only; split <;> omega
          have hei : ¬ (((failS ts 3 s).e : Nat) : Int) = 0 := by omega
          have HSE := Lib.hid hne
          have HER := Lib.hid (fun w' (h : Pw W0 g ts (failS ts 3 s) w') => HERR.out w' (failS ts 3 s) h)
          obtain ⟨ei, hei'⟩ : ∃ ei, ei = (((failS ts 3 s).e : Nat) : Int) := ⟨_, rfl⟩
          have HEI := Lib.hid hei'
          rw [← hei'] at HER hei
          clear HERR hne hei' HF hl hnl
          go_wp2_with (first
            | (go_at_call 66; (with_reducible refine HPK.out.mono ?_); rintro en w5 ⟨rfl, hb5⟩; have hp5 := hp.below hb5; obtain ⟨x5, -, -⟩ := HCEL.out _ _ hp5)
            | (go_at_call 67; refine (HFL.out _ hp5).mono ?_; rintro en w6 ⟨rfl, hp6, hg6⟩; obtain ⟨x6, -, -⟩ := HCEL.out _ _ hp6)
            | (go_at_call 69; refine (HER.out _ hp6).mono ?_; rintro en w7 ⟨rfl, hb7⟩))
          go_returns
          rw [HEI.out]
          exact pj_err hB3 hgw (hp6.below hb7) HR.out HRR.out HF2.out HSE.out
        · have hl' : l.length < 64 := by omega
          have hn64 : ¬ ((n1 : Nat) : Int) = 64 := by omega
          have HF2 : Hid (rulesS ts (envOf ns adm) f (l ++ [(ruleS ts (envOf ns adm) s).1]) (ruleS ts (envOf ns adm) s).2 = RR) := by have := HF.out; rwa [if_neg HK.out, if_neg hl] at this
          have HRL := Lib.hid (fun w' (h : Pw W0 g ts s w') => rule_any HB.out h hi (by omega))
          clear HERR HF hl
          generalize ruleS ts (envOf ns adm) s = q at *
          obtain ⟨r1, s1⟩ := q
          have hlen7 : hs.length + 1 ≤ 1000000000 := by have := HN1.out; omega
          clear hnl
          go_wp2_with (first
            | (go_at_call 66; (with_reducible refine HPK.out.mono ?_); rintro en w5 ⟨rfl, hb5⟩; have hp5 := hp.below hb5; obtain ⟨x5, -, -⟩ := HCEL.out _ _ hp5)
            | (go_at_call 68; refine (HRL.out _ hp5).mono ?_; rintro en w6 ⟨⟨rv, ad, tg, p1, q1, z1, p2, q2, z2, p3, q3, z3, lg⟩, rfl, hrw, hp6, hi6, hg6⟩; dsimp only [hrL]; have hal6 := ((hall.below hb5).read hg6 hgl').snoc hrw; have ho6 := own_read (hown.below hb5) hg6 (fun b hb e => by have := (hown.lt b hb).1; injection e with e; omega); have hz6 := hp6.size)
            | (at_builtin; refine wpList_append_dk (E := hrE) rfl (.tmp 49) (.tmp 52) 25 46 rfl Tryz.underlying25 W0.heap.size i0 _ 104 hi0 hz0 hz1 hz2 rfl (by decide) (by decide) _ hs rfl (Ok.alloc (show Ok hrE 46 w6 W0.heap.size _ hs from ho6) (.cells #[.bool rv, .int .i64 ad, .int .i64 tg, .slice p1 q1 z1, .slice p2 q2 z2, .slice p3 q3 z3, .int .i64 lg] 46)) _ 1 1 [⟨rv, ad, tg, p1, q1, z1, p2, q2, z2, p3, q3, z3, lg⟩] rfl (Dk.one (E := hrE) w6 ⟨rv, ad, tg, p1, q1, z1, p2, q2, z2, p3, q3, z3, lg⟩ 46 _ rfl) hlen7 (by simp; omega) ?_; intro v8 w8 ho8 hgr8))
          have hoA : Ok hrE 46 (w6.alloc (.cells #[.bool rv, .int .i64 ad, .int .i64 tg, .slice p1 q1 z1, .slice p2 q2 z2, .slice p3 q3 z3, .int .i64 lg] 46)) W0.heap.size (.slice a1 n1 c1) hs := Ok.alloc (show Ok hrE 46 w6 W0.heap.size _ hs from ho6) (.cells #[.bool rv, .int .i64 ad, .int .i64 tg, .slice p1 q1 z1, .slice p2 q2 z2, .slice p3 q3 z3, .int .i64 lg] 46)
          have hal8 := (hal6.below ((Below.refl _ w6).alloc (Nat.le_refl _) (.cells #[.bool rv, .int .i64 ad, .int .i64 tg, .slice p1 q1 z1, .slice p2 q2 z2, .slice p3 q3 z3, .int .i64 lg] 46))).far hgr8 (own_far hoA (by decide) (by decide))
          have hp8 := hp6.after (((Below.refl W0.heap.size w6).alloc hz6 (.cells #[.bool rv, .int .i64 ad, .int .i64 tg, .slice p1 q1 z1, .slice p2 q2 z2, .slice p3 q3 z3, .int .i64 lg] 46)).grown hgr8 (by simp; omega) (fun b hb => (hown.lt b hb).1))
          obtain ⟨a8, n8, c8, rfl, hn8, -⟩ := Ok.dn (by decide) ho8
          have hN1 := HN1.out
          have hln : l.length = hs.length := hall.1.symm
          refine ⟨⟨_, _, _, ho8, hal8, hp8, hi6, f, HF2.out, by rw [List.length_append]; simp only [List.length_cons, List.length_nil]; omega, by rw [List.length_append]; simp only [List.length_cons, List.length_nil]; omega⟩, ?_⟩
          rw [List.length_append] at hn8
          simp only [List.length_cons, List.length_nil] at hn8
          simp only [slN]
          omega
  · have hei : ¬ ((er : Nat) : Int) = 0 := by omega
    have HR := HE.out er rfl he
    have HRH := Lib.hid HR
    clear HE HG HLN he HR
    go_wp2_with (go_at_call 64; refine HSC.out.mono ?_; rintro en w2 ⟨v2, rfl, hb2, ho2⟩)
    go_returns
    rw [HRH.out]
    exact ⟨none, 0, 0, rfl, Rs.nil _ _, hB1.trans (hb2.mono (by simp))⟩
end Go.Proofs.YtfjpbkmnlmecgaaGreatDoor.Ru
end

section
/- rule.Permits. -/
namespace Go.Proofs.YtfjpbkmnlmecgaaGreatDoor.Ru
open Go.RowKit Go.PlainAid Go.Maps Go.Proofs.YtfjpbkmnlmecgaaGreatDoor Go.Proofs.YtfjpbkmnlmecgaaGreatDoor.Bz
set_option linter.unusedVariables false
set_option linter.unusedSimpArgs false
set_option maxHeartbeats 4000000
set_option maxRecDepth 20000

theorem box7 {N : Nat} {w wr : World} {v0 v1 v2 v3 v4 v5 v6 : Value} {T : TypeId} (hN : w.heap.size + 1 ≤ N) (h : Below N (w.alloc (.cells #[v0, v1, v2, v3, v4, v5, v6] T)) wr) :
    (wr.cell? ⟨w.heap.size, 0, none⟩ = some v0 ∧ wr.cell? ⟨w.heap.size, 1, none⟩ = some v1 ∧ wr.cell? ⟨w.heap.size, 2, none⟩ = some v2 ∧ wr.cell? ⟨w.heap.size, 3, none⟩ = some v3 ∧ wr.cell? ⟨w.heap.size, 4, none⟩ = some v4 ∧ wr.cell? ⟨w.heap.size, 5, none⟩ = some v5 ∧ wr.cell? ⟨w.heap.size, 6, none⟩ = some v6) ∧ Below w.heap.size w wr := by
  have hh := (h.block w.heap.size (by omega)).trans (heap_alloc_new w (.cells #[v0, v1, v2, v3, v4, v5, v6] T))
  exact ⟨(cell7 hh).1, ((Below.refl _ w).alloc (Nat.le_refl _) _).trans (h.mono (by omega))⟩
theorem box71 {w wr : World} {v0 v1 v2 v3 v4 v5 v6 z : Value} {T S : TypeId} (h : Below (w.heap.size + 2) ((w.alloc (.cells #[v0, v1, v2, v3, v4, v5, v6] T)).alloc (.cells #[z] S)) wr) :
    (wr.cell? ⟨w.heap.size, 0, none⟩ = some v0 ∧ wr.cell? ⟨w.heap.size, 1, none⟩ = some v1 ∧ wr.cell? ⟨w.heap.size, 2, none⟩ = some v2 ∧ wr.cell? ⟨w.heap.size, 3, none⟩ = some v3 ∧ wr.cell? ⟨w.heap.size, 4, none⟩ = some v4 ∧ wr.cell? ⟨w.heap.size, 5, none⟩ = some v5 ∧ wr.cell? ⟨w.heap.size, 6, none⟩ = some v6) ∧ wr.cell? ⟨w.heap.size + 1, 0, none⟩ = some z ∧ Below w.heap.size w wr := by
  have h1 : Below (w.heap.size + 1) (w.alloc (.cells #[v0, v1, v2, v3, v4, v5, v6] T)) wr := ((Below.refl _ _).alloc (by simp) _).trans (h.mono (by omega))
  obtain ⟨hc, hb⟩ := box7 (Nat.le_refl _) h1
  have hz : ((w.alloc (.cells #[v0, v1, v2, v3, v4, v5, v6] T)).alloc (.cells #[z] S)).heap[w.heap.size + 1]? = some (.cells #[z] S (0, 0)) := by
    have := heap_alloc_new (w.alloc (.cells #[v0, v1, v2, v3, v4, v5, v6] T)) (.cells #[z] S)
    rwa [World.size_alloc] at this
  exact ⟨hc, (cell1 ((h.block (w.heap.size + 1) (by omega)).trans hz)).1, hb⟩
/-- What a rule permits. -/
def permB (r : Rl) (mem : List Nat) (day unt : Int) : Bool :=
  !r.revoke && (Dy.Dm r.days day && (holdsC (r.yes, r.no) mem && (decide (day ≤ unt) && (decide (unt ≤ 30000) && (decide (r.longest = 0) || decide (unt - day + 1 ≤ r.longest))))))
theorem permits_any {N : Nat} (h : Hr) (r : Rl) (e : Option Addr) (k f : Nat) (mem : List Nat) (day unt : Int) (w : World) (hr : Rw N w h r) (hm : Bs w e k f mem) :
    Calls Tryz.prog 21 #[.agg (hrL h).toArray, .agg #[.slice e k f], .int .i64 day, .int .i64 unt] w (BoolPost w (permB r mem day unt)) := by
  obtain ⟨rv, ad, tg, p1, q1, z1, p2, q2, z2, p3, q3, z3, lg⟩ := h
  obtain ⟨h0, h1, h2, h3, h4, h5, h6, h7⟩ := hr
  dsimp only at h0 h1 h2 h3 h4 h5 h6
  dsimp only [hrL]
  have HHD := Lib.hid (fun w' (hb : Below w.heap.size w w') => Dy.has_any p3 q3 z3 r.days day w' (h5.1.below hb (Nat.le_refl _)) h7)
  have HHO := Lib.hid (fun w' (hb : Below w.heap.size w w') => holdsC_any p1 p2 e q1 z1 q2 z2 k f (r.yes, r.no) mem w' ⟨h3.1.below hb, h4.1.below hb⟩ (hm.below hb))
  have HDD : Hid (Dy.Dm r.days day = true → 0 ≤ day ∧ day ≤ 30000) := fun hd => h7.day hd
  have HP : Hid (permB r mem day unt = (!rv && (Dy.Dm r.days day && (holdsC (r.yes, r.no) mem && (decide (day ≤ unt) && (decide (unt ≤ 30000) && (decide (lg = 0) || decide (unt - day + 1 ≤ lg)))))))) := by
    unfold permB; rw [h0, h6]; exact rfl
  have hb0 := Lib.hid (((Below.refl w.heap.size w).alloc (Nat.le_refl _) (.cells #[.bool rv, .int .i64 ad, .int .i64 tg, .slice p1 q1 z1, .slice p2 q2 z2, .slice p3 q3 z3, .int .i64 lg] 46)).alloc (by simp) (.cells #[.slice e k f] 39))
  clear h0 h1 h2 h3 h4 h5 h6 h7 hm
  generalize Dy.Dm r.days day = bd at *
  generalize holdsC (r.yes, r.no) mem = bh at *
  generalize permB r mem day unt = bp at *
  cases rv
  · cases bd
    · go_enter Tryz.func21, Tryz.ntmps21
      go_wp2_with (go_at_call 60; refine (HHD.out _ hb0.out).mono ?_; rintro en w1 ⟨rfl, hb1⟩; obtain ⟨⟨c0, -, -, c3, c4, c5, c6⟩, y0, hB1⟩ := box71 (hb1.mono (by simp)))
      go_ret
      exact ⟨by rw [HP.out]; rfl, hB1⟩
    · cases bh
      · go_enter Tryz.func21, Tryz.ntmps21
        go_wp2_with (first
            | (go_at_call 60; refine (HHD.out _ hb0.out).mono ?_; rintro en w1 ⟨rfl, hb1⟩; obtain ⟨⟨c0, -, -, c3, c4, c5, c6⟩, y0, hB1⟩ := box71 (hb1.mono (by simp)))
            | (go_at_call 22; refine (HHO.out _ hB1).mono ?_; rintro en w2 ⟨rfl, hb2⟩; have hd2 := hb1.trans (hb2.mono hb1.size); obtain ⟨⟨-, -, -, -, -, -, g6⟩, -, hB2⟩ := box71 (hd2.mono (by simp))))
        go_ret
        exact ⟨by rw [HP.out]; rfl, hB2⟩
      · have hdr := HDD.out rfl
        have e1 : day ≤ unt → unt ≤ 30000 → IntKind.i64.wrap (IntKind.i64.wrap (unt - day) + 1) = unt - day + 1 := fun a b => by
          rw [show IntKind.i64.wrap (unt - day) = unt - day by rw [IntKind.wrap_i64]; omega, IntKind.wrap_i64]; omega
        by_cases g1 : day ≤ unt
        · by_cases g2 : unt ≤ 30000
          · have e2 := e1 g1 g2
            have HW : IntKind.i64.wrap (unt - day) = unt - day := by rw [IntKind.wrap_i64]; omega
            have HW1 : IntKind.i64.wrap (unt - day + 1) = unt - day + 1 := by rw [IntKind.wrap_i64]; omega
            clear e1 e2
            by_cases g3 : lg = 0
            · subst g3
              go_enter Tryz.func21, Tryz.ntmps21
              go_wp2_with (first
                  | (go_at_call 60; refine (HHD.out _ hb0.out).mono ?_; rintro en w1 ⟨rfl, hb1⟩; obtain ⟨⟨c0, -, -, c3, c4, c5, c6⟩, y0, hB1⟩ := box71 (hb1.mono (by simp)))
                  | (go_at_call 22; refine (HHO.out _ hB1).mono ?_; rintro en w2 ⟨rfl, hb2⟩; have hd2 := hb1.trans (hb2.mono hb1.size); obtain ⟨⟨-, -, -, -, -, -, g6⟩, -, hB2⟩ := box71 (hd2.mono (by simp))))
              go_ret
              exact ⟨by rw [HP.out, decide_eq_true g1, decide_eq_true g2]; rfl, hB2⟩
            · by_cases g4 : unt - day + 1 ≤ lg
              · go_enter Tryz.func21, Tryz.ntmps21
                go_wp2_with (first
                    | (go_at_call 60; refine (HHD.out _ hb0.out).mono ?_; rintro en w1 ⟨rfl, hb1⟩; obtain ⟨⟨c0, -, -, c3, c4, c5, c6⟩, y0, hB1⟩ := box71 (hb1.mono (by simp)))
                    | (go_at_call 22; refine (HHO.out _ hB1).mono ?_; rintro en w2 ⟨rfl, hb2⟩; have hd2 := hb1.trans (hb2.mono hb1.size); obtain ⟨⟨-, -, -, -, -, -, g6⟩, -, hB2⟩ := box71 (hd2.mono (by simp))))
                go_ret
                exact ⟨by rw [HP.out, decide_eq_true g1, decide_eq_true g2, decide_eq_false g3, decide_eq_true g4]; rfl, hB2⟩
              · have G4 := Lib.hid g4
                go_enter Tryz.func21, Tryz.ntmps21
                go_wp2_with (first
                    | (go_at_call 60; refine (HHD.out _ hb0.out).mono ?_; rintro en w1 ⟨rfl, hb1⟩; obtain ⟨⟨c0, -, -, c3, c4, c5, c6⟩, y0, hB1⟩ := box71 (hb1.mono (by simp)))
                    | (go_at_call 22; refine (HHO.out _ hB1).mono ?_; rintro en w2 ⟨rfl, hb2⟩; have hd2 := hb1.trans (hb2.mono hb1.size); obtain ⟨⟨-, -, -, -, -, -, g6⟩, -, hB2⟩ := box71 (hd2.mono (by simp))))
                go_ret
                exact ⟨by rw [HP.out, decide_eq_true g1, decide_eq_true g2, decide_eq_false g3, decide_eq_false (p := unt - day + 1 ≤ lg) (by omega)]; rfl, hB2⟩
          · clear e1
            go_enter Tryz.func21, Tryz.ntmps21
            go_wp2_with (first
                | (go_at_call 60; refine (HHD.out _ hb0.out).mono ?_; rintro en w1 ⟨rfl, hb1⟩; obtain ⟨⟨c0, -, -, c3, c4, c5, c6⟩, y0, hB1⟩ := box71 (hb1.mono (by simp)))
                | (go_at_call 22; refine (HHO.out _ hB1).mono ?_; rintro en w2 ⟨rfl, hb2⟩; have hd2 := hb1.trans (hb2.mono hb1.size); obtain ⟨⟨-, -, -, -, -, -, g6⟩, -, hB2⟩ := box71 (hd2.mono (by simp))))
            go_ret
            exact ⟨by rw [HP.out, decide_eq_true g1, decide_eq_false (p := unt ≤ 30000) (by omega)]; rfl, hB2⟩
        · clear e1
          go_enter Tryz.func21, Tryz.ntmps21
          go_wp2_with (first
              | (go_at_call 60; refine (HHD.out _ hb0.out).mono ?_; rintro en w1 ⟨rfl, hb1⟩; obtain ⟨⟨c0, -, -, c3, c4, c5, c6⟩, y0, hB1⟩ := box71 (hb1.mono (by simp)))
              | (go_at_call 22; refine (HHO.out _ hB1).mono ?_; rintro en w2 ⟨rfl, hb2⟩; have hd2 := hb1.trans (hb2.mono hb1.size); obtain ⟨⟨-, -, -, -, -, -, g6⟩, -, hB2⟩ := box71 (hd2.mono (by simp))))
          go_ret
          exact ⟨by rw [HP.out, decide_eq_false (p := day ≤ unt) (by omega)]; rfl, hB2⟩
  · go_enter Tryz.func21, Tryz.ntmps21
    go_wp2_with fail
    go_ret
    exact ⟨by rw [HP.out]; rfl, hb0.out⟩
end Go.Proofs.YtfjpbkmnlmecgaaGreatDoor.Ru
end

section
/- Contract: rule.decimal. -/
namespace Go.Proofs.YtfjpbkmnlmecgaaGreatDoor.Ru
open Go.RowKit Go.PlainAid Go.Proofs.YtfjpbkmnlmecgaaGreatDoor Go.Proofs.YtfjpbkmnlmecgaaGreatDoor.Bz
set_option linter.unusedVariables false
set_option linter.unusedSimpArgs false
set_option maxHeartbeats 1000000

theorem nDigits_le : ∀ (k n : Nat), n < 10 ^ (k + 1) → Lib.nDigits n ≤ k + 1
  | 0, n, h => by rw [Lib.nDigits_small (by omega)]; exact Nat.le_refl _
  | k + 1, n, h => by
    by_cases h1 : n < 10
    · rw [Lib.nDigits_small h1]; omega
    · rw [Lib.nDigits_big h1]
      have := nDigits_le k (n / 10) (by rw [Nat.pow_succ] at h; omega)
      omega
theorem dec_len {n : Nat} (h : n < 9223372036854775808) : (Lib.decDigits n).length ≤ 19 := by
  rw [Lib.decDigits_length]
  exact nDigits_le 18 n (by omega)
theorem ret_string {a b : ByteArray} (h : a = b) : Ending.returned (.string a) = .returned (.string b) := by rw [h]
theorem ba_append (a b : List UInt8) : (⟨a.toArray⟩ : ByteArray) ++ (⟨b.toArray⟩ : ByteArray) = ⟨(a ++ b).toArray⟩ := by
  apply ByteArray.ext
  simp [ByteArray.data_append]
theorem size_mk (l : List UInt8) : (⟨l.toArray⟩ : ByteArray).size = l.length := by simp [ByteArray.size]
theorem str_eq {a b : ByteArray} (h : a.data.toList = b.data.toList) : a = b := ByteArray.ext (Array.toList_inj.1 h)
theorem digit_ext (m : Nat) (h : m < 10) (t : ByteArray) (ht : t.data.toList = (List.range 10).map (fun j => UInt8.ofNat (48 + j))) : t.extract m (m + 1) = ⟨(Lib.decDigits m).toArray⟩ := by
  apply str_eq
  rw [ByteArray.data_extract, Array.toList_extract, Lib.decDigits_one h, List.extract_eq_take_drop, ht]
  rcases (show m = 0 ∨ m = 1 ∨ m = 2 ∨ m = 3 ∨ m = 4 ∨ m = 5 ∨ m = 6 ∨ m = 7 ∨ m = 8 ∨ m = 9 by omega) with rfl | rfl | rfl | rfl | rfl | rfl | rfl | rfl | rfl | rfl <;> rfl
theorem dec_split {n : Nat} (h : ¬ n < 10) : Lib.decDigits (n / 10) ++ Lib.decDigits (n % 10) = Lib.decDigits n := by
  rw [Lib.decDigits_one (i := n % 10) (by omega)]
  conv => rhs; rw [Lib.decDigits]
  rw [dif_neg h]
theorem decimal_any (n : Nat) : ∀ (i : Int) (w : World), i = n → n < 9223372036854775808 →
    Calls Tryz.prog 133 #[.int .i64 i] w fun e w' => e = .returned (.string ⟨(Lib.decDigits n).toArray⟩) ∧ w' = w := by
  induction n using Nat.strongRecOn with
  | _ n ih =>
    intro i w hi hn
    subst hi
    have h0 : ¬ (n : Int) < 0 := by omega
    by_cases h : n < 10
    · have HE := Lib.hid (digit_ext n h)
      have h10 : (n : Int) < 10 := by omega
      go_enter Tryz.func133, Tryz.ntmps133
      go_wp2_with fail
      go_ret
      refine ⟨?_, rfl⟩
      show Ending.returned (.string _) = _
      exact ret_string (HE.out _ (by kernel_rfl))
    · have h10 : ¬ (n : Int) < 10 := by omega
      have h1 := dec_len (n := n / 10) (by omega)
      have h2 := dec_len (n := n % 10) (by omega)
      have HS : Hid ((⟨(Lib.decDigits (n / 10)).toArray⟩ : ByteArray) ++ (⟨(Lib.decDigits (n % 10)).toArray⟩ : ByteArray) = ⟨(Lib.decDigits n).toArray⟩) := by show _ = _; rw [ba_append, dec_split h]
      have I1 := Lib.hid (ih (n / 10) (by omega) ((n : Int) / 10) w (by omega) (by omega))
      have I2 := Lib.hid (ih (n % 10) (by omega) ((n : Int) % 10) w (by omega) (by omega))
      clear ih
      have h1s : (⟨(Lib.decDigits (n / 10)).toArray⟩ : ByteArray).size ≤ 19 := by rw [size_mk]; exact h1
      have h2s : (⟨(Lib.decDigits (n % 10)).toArray⟩ : ByteArray).size ≤ 19 := by rw [size_mk]; exact h2
      clear h1 h2
      generalize (⟨(Lib.decDigits n).toArray⟩ : ByteArray) = d at HS ⊢
      generalize (⟨(Lib.decDigits (n / 10)).toArray⟩ : ByteArray) = d1 at HS I1 h1s
      generalize (⟨(Lib.decDigits (n % 10)).toArray⟩ : ByteArray) = d2 at HS I2 h2s
      have hsum : d1.size + d2.size ≤ 140737488355328 := by omega
      go_enter Tryz.func133, Tryz.ntmps133
      go_wp2_with (first
        | (go_at_call 133; (with_reducible refine I1.out.mono ?_); rintro e w2 ⟨rfl, hw⟩; rw [hw]; clear hw)
        | (go_at_call 133; (with_reducible refine I2.out.mono ?_); rintro e w2 ⟨rfl, hw⟩; rw [hw]; clear hw))
      go_ret
      exact ⟨ret_string HS.out, rfl⟩
end Go.Proofs.YtfjpbkmnlmecgaaGreatDoor.Ru
end
