/- Contracts: Or, And, Minus. -/
import Derived.Test.YtkmchnggcjmchaaDoorBtC
import Derived.Laws.OwnMore
import Derived.OwnWalk
namespace Go.Proofs.YtkmchnggcjmchaaDoor.Bz
open Go.RowKit Go.PlainAid
set_option linter.unusedVariables false
set_option linter.unusedSimpArgs false
set_option maxHeartbeats 2000000

def u64v (x : Nat) : Value := .int .u64 (x : Nat)
theorem info64 : (Tryd.prog.info? 69).map (fun i => (i.zero, i.size, i.bytes)) = some (some (.int .u64 0), 1, 8) := by kernel_rfl
/-- The call's own row (block g) of q words. -/
def Row (w : World) (B g q : Nat) (us : List Nat) : Prop := w.ownsRow B 69 1 (.slice (some ⟨g, 0, none⟩) q q) q (us.map u64v)
theorem Row.len {w : World} {B g q : Nat} {us : List Nat} (h : Row w B g q us) : us.length = q := by
  have := h.1; rw [List.length_map] at this; omega
theorem Row.lt {w : World} {B g q : Nat} {us : List Nat} (h : Row w B g q us) : B ≤ g ∧ g < w.heap.size := World.ownsRow.lt h g rfl
theorem Row.cell {w : World} {B g q : Nat} {us : List Nat} (h : Row w B g q us) {j : Nat} (hj : j < q) : w.cell? ⟨g, j, none⟩ = some (.int .u64 (wd us j : Nat)) := by
  rw [World.ownsRow.cellAt h j (by omega), List.getElem?_map]
  rw [wd_get (by rw [h.len]; exact hj), List.getElem?_eq_getElem (by rw [h.len]; exact hj)]; rfl
theorem Row.free {w : World} {B g q : Nat} {us : List Nat} (h : Row w B g q us) (j : Nat) : w.frozen? ⟨g, j, none⟩ = false := World.ownsRow.frozenAt h j
theorem Row.set {w : World} {B g q : Nat} {us : List Nat} (h : Row w B g q us) (k x : Nat) : Row (w.setCell ⟨g, k, none⟩ (.int .u64 (x : Nat))) B g q (us.set k x) := by
  have := (World.ownsRow.stored h k (.int .u64 (x : Nat))).1
  unfold Row
  rw [List.map_set]
  exact this
theorem Row.other {w : World} {B g q : Nat} {us : List Nat} (h : Row w B g q us) {a : Addr} (hne : g ≠ a.block) (u : Value) : Row (w.setCell a u) B g q us :=
  owns_set h (fun b hb => by cases hb; exact hne) u
theorem Row.below {w w' : World} {B g q : Nat} {us : List Nat} (h : Row w B g q us) (hb : Below w.heap.size w w') : Row w' B g q us := owns_below h (Nat.le_refl _) hb
theorem own_typ {w : World} {B g n cap : Nat} {xs : List Value} (h : w.ownsRow B 69 1 (.slice (some ⟨g, 0, none⟩) n cap) n xs) : ∃ cs fz, w.heap[g]? = some (.cells cs 69 fz) := by
  rcases h.2 with ⟨h1, _⟩ | ⟨g', cap', cur, h1, _, h2, _⟩
  · cases h1
  · injection h1 with e1 e2 e3
    injection e1 with e1
    injection e1 with e1
    subst e1
    exact ⟨_, _, h2⟩
theorem Row.typ {w : World} {B g q : Nat} {us : List Nat} (h : Row w B g q us) : ∃ cs fz, w.heap[g]? = some (.cells cs 69 fz) := own_typ h
theorem Row.wd {w : World} {B g q : Nat} {us : List Nat} (h : Row w B g q us) (hq : q ≤ 9223372036854775807) : Wd w (some ⟨g, 0, none⟩) q q us :=
  ⟨h.len, Nat.le_refl _, hq, .inr ⟨g, 0, rfl, ⟨h.lt.2, h.typ⟩, fun j hj => by rw [Nat.zero_add]; exact h.cell hj⟩⟩
theorem made_zero (q : Nat) : (madeCells #[Value.int .u64 0] q).toList = (List.replicate q 0).map u64v := by
  rw [List.map_replicate]
  apply List.ext_getElem
  · simp [madeCells]
  · intro i h1 h2
    simp [madeCells, u64v]
    have : i % 1 = 0 := Nat.mod_one i
    simp [this]
theorem Row.new {w : World} {B g q : Nat} (h : w.ownsRow B 69 1 (.slice (some ⟨g, 0, none⟩) q q) q (madeCells #[Value.int .u64 0] q).toList) : Row w B g q (List.replicate q 0) := by
  rw [made_zero] at h
  exact h
/-- After k of q rounds: the words below k are f, the others 0. -/
def Upto (us : List Nat) (k : Nat) (f : Nat → Nat) : Prop := ∀ j, wd us j = if j < k then f j else 0
theorem Upto.zero (q : Nat) (f : Nat → Nat) : Upto (List.replicate q 0) 0 f := fun j => by
  rw [if_neg (by omega)]
  unfold wd
  rw [List.getD_eq_getElem?_getD]
  by_cases h : j < q
  · rw [List.getElem?_replicate, if_pos h]; rfl
  · rw [List.getElem?_replicate, if_neg h]; rfl
theorem Upto.next {us : List Nat} {k q : Nat} {f : Nat → Nat} (h : Upto us k f) (hq : us.length = q) (hk : k < q) : Upto (us.set k (f k)) (k + 1) f := fun j => by
  rw [wd_set (by omega)]
  by_cases hj : j = k
  · rw [if_pos hj, if_pos (by omega), hj]
  · rw [if_neg hj, h j]
    by_cases h2 : j < k
    · rw [if_pos h2, if_pos (by omega)]
    · rw [if_neg h2, if_neg (by omega)]
theorem Upto.u64 {us : List Nat} {k : Nat} {f : Nat → Nat} (h : Upto us k f) (hf : ∀ j, f j < 18446744073709551616) : U64 us := by
  intro x hx
  obtain ⟨j, hj, rfl⟩ := List.getElem_of_mem hx
  rw [← wd_get hj, h j]
  split
  · exact hf j
  · omega
def orL (l r : List Nat) : List Nat := (List.range 4096).filter (fun x => decide (x ∈ l) || decide (x ∈ r))
def andL (l r : List Nat) : List Nat := l.filter (fun x => decide (x ∈ r))
def minL (l r : List Nat) : List Nat := l.filter (fun x => !decide (x ∈ r))
theorem asc_filter {l : List Nat} (h : Asc l) (p : Nat → Bool) : Asc (l.filter p) := ⟨h.1.filter p, fun x hx => h.2 x (List.mem_filter.1 hx).1⟩
theorem or_rp {ws vs us l r : List Nat} {q : Nat} (h : Rp ws l) (k : Rp vs r) (hq : us.length = max ws.length vs.length) (hu : Upto us us.length (fun j => wd ws j ||| wd vs j)) : Rp us (orL l r) := by
  have hw : ∀ j, wd us j = wd ws j ||| wd vs j := by
    intro j
    rw [hu j]
    by_cases hj : j < us.length
    · rw [if_pos hj]
    · rw [if_neg hj, wd_out (by omega), wd_out (by omega)]; rfl
  refine Rp.of (hu.u64 fun j => lor_lt (wd_lt h.1 j) (wd_lt k.1 j)) ?_ (by have := h.2.2.1; have := k.2.2.1; omega) ⟨(pw_range 4096).filter _, fun x hx => by simp [orL] at hx; exact hx.1⟩ ?_
  · intro j hj
    rw [hw]
    by_cases hc : j + 1 = ws.length
    · have := h.2.1 j hc
      intro e
      exact this (Nat.or_eq_zero_iff.1 e).1
    · have := k.2.1 j (by omega)
      intro e
      exact this (Nat.or_eq_zero_iff.1 e).2
  · intro i hi
    unfold mem
    rw [hw, Nat.testBit_or]
    have e1 := h.mem_dec i
    have e2 := k.mem_dec i
    unfold mem at e1 e2
    rw [e1, e2]
    simp [orL, hi]

theorem new1 (w : World) (x : Value) (T : TypeId) : (w.alloc (.cells #[x] T)).cell? ⟨w.heap.size, 0, none⟩ = some x ∧ (w.alloc (.cells #[x] T)).frozen? ⟨w.heap.size, 0, none⟩ = false := by
  constructor <;> simp
theorem box3 {w wr : World} {x y z : Value} {T1 T2 T3 : TypeId} (h : Below (w.heap.size + 3) (((w.alloc (.cells #[x] T1)).alloc (.cells #[y] T2)).alloc (.cells #[z] T3)) wr) :
    wr.cell? ⟨w.heap.size, 0, none⟩ = some x ∧ wr.cell? ⟨w.heap.size + 1, 0, none⟩ = some y ∧ wr.cell? ⟨w.heap.size + 1 + 1, 0, none⟩ = some z ∧ wr.frozen? ⟨w.heap.size + 1 + 1, 0, none⟩ = false ∧ w.heap.size + 3 ≤ wr.heap.size ∧ Below w.heap.size w wr := by
  have hs := h.size
  have z1 : (w.alloc (.cells #[x] T1)).heap.size = w.heap.size + 1 := by simp
  have z2 : ((w.alloc (.cells #[x] T1)).alloc (.cells #[y] T2)).heap.size = w.heap.size + 2 := by simp
  have z3 : (((w.alloc (.cells #[x] T1)).alloc (.cells #[y] T2)).alloc (.cells #[z] T3)).heap.size = w.heap.size + 3 := by simp
  obtain ⟨a1, a2⟩ := new1 w x T1
  obtain ⟨b1, b2⟩ := new1 (w.alloc (.cells #[x] T1)) y T2
  obtain ⟨d1, d2⟩ := new1 ((w.alloc (.cells #[x] T1)).alloc (.cells #[y] T2)) z T3
  rw [z1] at b1 b2
  rw [z2] at d1 d2
  have B3 : Below (w.heap.size + 2) ((w.alloc (.cells #[x] T1)).alloc (.cells #[y] T2)) wr := ((Below.refl _ _).alloc (by rw [z2]; exact Nat.le_refl _) _).trans (h.mono (by omega))
  have B2 : Below (w.heap.size + 1) (w.alloc (.cells #[x] T1)) wr := ((Below.refl _ _).alloc (by rw [z1]; exact Nat.le_refl _) _).trans (B3.mono (by omega))
  have B1 : Below w.heap.size w wr := ((Below.refl _ _).alloc (Nat.le_refl _) _).trans (B2.mono (by omega))
  refine ⟨(B2.cell (p := ⟨w.heap.size, 0, none⟩) (show w.heap.size < w.heap.size + 1 by omega)).trans a1, (B3.cell (p := ⟨w.heap.size + 1, 0, none⟩) (show w.heap.size + 1 < w.heap.size + 2 by omega)).trans b1, (h.cell (p := ⟨w.heap.size + 2, 0, none⟩) (show w.heap.size + 2 < w.heap.size + 3 by omega)).trans d1, (h.frozen (p := ⟨w.heap.size + 2, 0, none⟩) (show w.heap.size + 2 < w.heap.size + 3 by omega)).trans d2, by omega, B1⟩
theorem box2 {w wr : World} {x y : Value} {T1 T2 : TypeId} (h : Below (w.heap.size + 2) ((w.alloc (.cells #[x] T1)).alloc (.cells #[y] T2)) wr) :
    wr.cell? ⟨w.heap.size, 0, none⟩ = some x ∧ wr.cell? ⟨w.heap.size + 1, 0, none⟩ = some y ∧ wr.frozen? ⟨w.heap.size + 1, 0, none⟩ = false ∧ w.heap.size + 2 ≤ wr.heap.size ∧ Below w.heap.size w wr := by
  have hs := h.size
  have z1 : (w.alloc (.cells #[x] T1)).heap.size = w.heap.size + 1 := by simp
  have z2 : ((w.alloc (.cells #[x] T1)).alloc (.cells #[y] T2)).heap.size = w.heap.size + 2 := by simp
  obtain ⟨a1, a2⟩ := new1 w x T1
  obtain ⟨b1, b2⟩ := new1 (w.alloc (.cells #[x] T1)) y T2
  rw [z1] at b1 b2
  have B2 : Below (w.heap.size + 1) (w.alloc (.cells #[x] T1)) wr := ((Below.refl _ _).alloc (by rw [z1]; exact Nat.le_refl _) _).trans (h.mono (by omega))
  have B1 : Below w.heap.size w wr := ((Below.refl _ _).alloc (Nat.le_refl _) _).trans (B2.mono (by omega))
  exact ⟨(B2.cell (p := ⟨w.heap.size, 0, none⟩) (show w.heap.size < w.heap.size + 1 by omega)).trans a1, (h.cell (p := ⟨w.heap.size + 1, 0, none⟩) (show w.heap.size + 1 < w.heap.size + 2 by omega)).trans b1, (h.frozen (p := ⟨w.heap.size + 1, 0, none⟩) (show w.heap.size + 1 < w.heap.size + 2 by omega)).trans b2, by omega, B1⟩
def CRel (w W : World) (B g q : Nat) (f : Nat → Nat) (v : Value) (wr : World) : Prop :=
  ∃ k us, k ≤ q ∧ v = .int .i64 (k : Nat) ∧ Row wr g g q us ∧ Upto us k f ∧ Below B W wr
end Go.Proofs.YtkmchnggcjmchaaDoor.Bz
