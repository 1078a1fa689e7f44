/- Package keccak: the permutation. -/
import Derived.Test.YtfdododighjjpaaGreatDoorKcA
import Derived.RegionTactic
import Derived.BigRegion
namespace Go.Proofs.YtfdododighjjpaaGreatDoor.Kc
open Go.RowKit Go.PlainAid Go.Proofs.YtfdododighjjpaaGreatDoor.Wi
set_option linter.unusedVariables false
set_option linter.unusedSimpArgs false
set_option maxHeartbeats 4000000
set_option maxRecDepth 20000

def rcT : List Int := [0x0000000000000001, 0x0000000000008082, 0x800000000000808a, 0x8000000080008000,
  0x000000000000808b, 0x0000000080000001, 0x8000000080008081, 0x8000000000008009,
  0x000000000000008a, 0x0000000000000088, 0x0000000080008009, 0x000000008000000a,
  0x000000008000808b, 0x800000000000008b, 0x8000000000008089, 0x8000000000008003,
  0x8000000000008002, 0x8000000000000080, 0x000000000000800a, 0x800000008000000a,
  0x8000000080008081, 0x8000000000008080, 0x0000000080000001, 0x8000000080008008]
def tuT : List Nat := [0, 1, 62, 28, 27, 36, 44, 6, 55, 20, 3, 10, 43, 25, 39, 41, 45, 15, 21, 8, 18, 2, 61, 56, 14]
def tu (j : Nat) : Nat := tuT.getD j 0
theorem tu_lt (j : Nat) : tu j < 64 := by
  unfold tu
  by_cases h : j < 25
  · have e : ∀ j : Nat, j < 25 → tuT.getD j 0 < 64 := by decide
    exact e j h
  · rw [List.getD_eq_getElem?_getD, List.getElem?_eq_none (by simp [tuT]; omega)]; decide
/-- What the two tables hold. -/
structure Kt (w : World) : Prop where
  rc : w.rangeAt 4 0 (rcT.map (Value.int .u64))
  tu : ∀ j, j < 25 → w.cell? ⟨5, j, none⟩ = some (.int .i64 (tu j : Nat))
theorem Kt.lt1 {w : World} (h : Kt w) : 4 < w.heap.size := World.block_lt_of_cell? w _ (h.rc 0 _ rfl)
theorem Kt.lt2 {w : World} (h : Kt w) : 5 < w.heap.size := World.block_lt_of_cell? w _ (h.tu 0 (by omega))
theorem Kt.kg {w w' : World} {p : Nat} (h : Kt w) (hk : Kg p w w') (h1 : p ≠ 4) (h2 : p ≠ 5) : Kt w' where
  rc := fun j v hv => (hk.cell h.lt1 (Ne.symm h1) (Ne.symm h1)).trans (h.rc j v hv)
  tu := fun j hj => (hk.cell h.lt2 (Ne.symm h2) (Ne.symm h2)).trans (h.tu j hj)
theorem Kt.below {w w' : World} (h : Kt w) (hb : Below w.heap.size w w') : Kt w' where
  rc := fun j v hv => (hb.cell (p := ⟨_, 0 + j, none⟩) h.lt1).trans (h.rc j v hv)
  tu := fun j hj => (hb.cell (p := ⟨_, j, none⟩) h.lt2).trans (h.tu j hj)
theorem Wd.kg {K : IntKind} {W W' : World} {p o n q : Nat} {f : Nat → Int} (h : Wd K W p o n f) (hk : Kg q W W') (hq : p ≠ q) : Wd K W' p o n f := h.grown ⟨hk.os, hk.tape, hk.output, hk.size, fun k hl hr => hk.block k hl (fun e => hr (by rw [e])) (fun e => hr (by rw [e]))⟩ hq
def xo (a b : Int) : Int := bits .xor .u64 a b
def it (f : Nat → (Nat → Int) → Nat → Int) : Nat → (Nat → Int) → Nat → Int
  | 0, s => s
  | n + 1, s => f n (it f n s)
def cF (A : Nat → Int) (x : Nat) : Int := bits .xor .u64 (bits .xor .u64 (bits .xor .u64 (bits .xor .u64 (A x) (A (x + 5))) (A (x + 10))) (A (x + 15))) (A (x + 20))
def dF (A : Nat → Int) (x : Nat) : Int := bits .xor .u64 (cF A ((x + 4) % 5)) (rotV (cF A ((x + 1) % 5)) 1)
def bF (A : Nat → Int) (x y : Nat) : Int := rotV (bits .xor .u64 (A (x + 5 * y)) (dF A x)) (tu (x + 5 * y))
def bS (A : Nat → Int) (n : Nat) (B : Nat → Int) : Nat → Int := upd B (n % 5 + 5 * ((2 * (n / 5) + 3 * (n % 5)) % 5)) (bF A (n / 5) (n % 5))
def eF (B : Nat → Int) (x y : Nat) : Int := bits .xor .u64 (B (x + y)) (bits .and .u64 (bits .xor .u64 (if IntKind.u64.signed = true then -1 else IntKind.u64.max) (B ((x + 1) % 5 + y))) (B ((x + 2) % 5 + y)))
theorem index_rc (t : Nat) (ht : t < 24) (W : World) : (Instr.index 176 (.agg (rcT.map (Value.int .u64)).toArray) (.int .i64 (t : Nat))).run Tryz.prog W = .ok (.int .u64 (rcT.getD t 0)) W := by
  have h1 : (0 : Int) ≤ (t : Int) := Int.natCast_nonneg _
  have h2 : (t : Int) < 24 := by omega
  have h3 : rcT.length = 24 := rfl
  have h4 : t < rcT.length := by omega
  simp [Instr.index, Tryz.underlying176, asIntOf, h1, h2, h4, go_sem]
  omega
def fill (f : Nat → Int) (n : Nat) : Nat → Int := fun i => if i < n then f i else 0
theorem fill_upd (f : Nat → Int) (n : Nat) : upd (fill f n) n (f n) = fill f (n + 1) := by
  funext i
  unfold upd fill
  by_cases h : i = n
  · subst h; simp
  · by_cases h2 : i < n
    · rw [if_neg h, if_pos h2, if_pos (by omega)]
    · rw [if_neg h, if_neg h2, if_neg (by omega)]
def zf : Nat → Int := fun _ => 0
theorem fill_zero (f : Nat → Int) : fill f 0 = zf := by funext i; simp [fill, zf]
theorem zero_row (w : World) (T : TypeId) (n : Nat) {cs : Array Value} (hc : cs = (Array.replicate n (Value.int .u64 0))) : Wd .u64 (w.alloc (.cells cs T)) w.heap.size 0 n zf := fun j hj => by
  subst hc
  rw [Nat.zero_add]
  have hb : (w.alloc (.cells (Array.replicate n (Value.int .u64 0)) T)).heap[w.heap.size]? = some (.cells (Array.replicate n (Value.int .u64 0)) T (0, 0)) := World.alloc_heap_new w _
  refine ⟨?_, by unfold World.frozen?; dsimp only; rw [hb]; simp⟩
  rw [cell_of_row _ _ j _ _ _ hb, Array.getElem?_replicate, if_pos hj]
  simp [zf]
theorem kg_new {w wr : World} {p cb : Nat} (h : Kg p w wr) (hc : w.heap.size ≤ cb) (j : Nat) (v : Value) : Kg p w (wr.setCell ⟨cb, j, none⟩ v) :=
  ⟨h.os, h.tape, h.output, by simpa using h.size, fun k hk h1 h2 => (Below.heap_setCell _ _ _ k (by dsimp only; omega)).trans (h.block k hk h1 h2)⟩
theorem kg_own {w wr : World} {p : Nat} (h : Kg p w wr) (j : Nat) (v : Value) : Kg p w (wr.setCell ⟨p, j, none⟩ v) := h.tr (Kg.set _ _ _ _)
theorem kg_drew {w wr : World} {p : Nat} (h : Kg p w wr) : Kg p w wr.drew := h.tr (Kg.of (Below.refl _ _).drew)
def eS (B A : Nat → Int) (n : Nat) : Nat → Int := fun i => if i < n then eF B (i % 5) (i - i % 5) else A i
theorem eS_upd (B A : Nat → Int) (n : Nat) : upd (eS B A n) n (eF B (n % 5) (n - n % 5)) = eS B A (n + 1) := by
  funext i
  unfold upd eS
  by_cases h : i = n
  · subst h; simp
  · by_cases h2 : i < n
    · rw [if_neg h, if_pos h2, if_pos (by omega)]
    · rw [if_neg h, if_neg h2, if_neg (by omega)]
theorem eS_zero (B A : Nat → Int) : eS B A 0 = A := by funext i; simp [eS]
def roundF (t : Nat) (A : Nat → Int) : Nat → Int := upd (eS (it (bS A) 25 zf) A 25) 0 (bits .xor .u64 (eS (it (bS A) 25 zf) A 25 0) (rcT.getD t 0))
def permF (A : Nat → Int) : Nat → Int := it roundF 24 A
theorem bs_at (A B : Nat → Int) (x y m : Nat) (hy : y < 5) (hm : (2 * x + 3 * y) % 5 = m) : upd B (y + 5 * m) (bF A x y) = bS A (5 * x + y) B := by
  unfold bS
  rw [show (5 * x + y) / 5 = x by omega, show (5 * x + y) % 5 = y by omega, hm]
theorem it_succ (f : Nat → (Nat → Int) → Nat → Int) (n : Nat) (s : Nat → Int) : it f (n + 1) s = f n (it f n s) := rfl
theorem md (x c : Nat) : ∃ r, r < 5 ∧ Hid ((x + c) % 5 = r) ∧ ((x : Int) + (c : Int)).tmod 5 = (r : Int) := by
  refine ⟨(x + c) % 5, Nat.mod_lt _ (by decide), rfl, ?_⟩
  rw [Int.tmod_eq_emod_of_nonneg (by omega)]
  omega
theorem sm (a b : Nat) (h : a + b < 25) : IntKind.i64.wrap ((a : Int) + (b : Int)) = (a : Int) + (b : Int) ∧ (a : Int) + (b : Int) < 25 ∧ (0 : Int) ≤ (a : Int) + (b : Int) ∧ ((a : Int) + (b : Int)).toNat = a + b :=
  ⟨IntWalk.i64_in _ (by omega), by omega, by omega, by omega⟩
theorem wn (a : Nat) (h : a < 1000) : IntKind.i64.wrap (a : Int) = (a : Int) := IntWalk.i64_in _ (by omega)
theorem add5 {a b k : Nat} (hk : k < 5) (ha : a < 5) (hb : 5 * k = b) : a + b < 25 := by omega
theorem es_step (B A : Nat → Int) (k yy x : Nat) (hy : 5 * k = yy) (hx : x < 5) : upd (eS B A (yy + x)) (x + yy) (eF B x yy) = eS B A (yy + (x + 1)) := by
  have := eS_upd B A (yy + x)
  rw [show (yy + x) % 5 = x by omega, show yy + x - x = yy by omega, show yy + x + 1 = yy + (x + 1) by omega] at this
  rw [← this, Nat.add_comm x yy]
end Go.Proofs.YtfdododighjjpaaGreatDoor.Kc
