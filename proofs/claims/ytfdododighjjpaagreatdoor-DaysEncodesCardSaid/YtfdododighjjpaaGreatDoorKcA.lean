/- Package keccak: a state's words in memory; rotations; the permutation: what it leaves hangs on the words alone. -/
import Derived.Test.YtfdododighjjpaaGreatDoorWiA
import Derived.Deep.MidRow
import Derived.Deep.DeepCutAuto
import Derived.Deep.CutBlock
namespace Go.Proofs.YtfdododighjjpaaGreatDoor.Kc
open Go.RowKit Go.PlainAid Go.Proofs.YtfdododighjjpaaGreatDoor.Wi
set_option linter.unusedVariables false
set_option linter.unusedSimpArgs false
set_option maxHeartbeats 4000000
set_option maxRecDepth 20000

def upd (f : Nat → Int) (j : Nat) (v : Int) : Nat → Int := fun i => if i = j then v else f i
/-- From cell o of block p on lie n numbers f. -/
def Wd (K : IntKind) (W : World) (p o n : Nat) (f : Nat → Int) : Prop := ∀ j, j < n → W.cell? ⟨p, o + j, none⟩ = some (.int K (f j)) ∧ W.frozen? ⟨p, o + j, none⟩ = false
section
variable {K : IntKind} {W W' : World} {p o n : Nat} {f : Nat → Int}
theorem Wd.lt (h : Wd K W p o n f) (hn : 0 < n) : p < W.heap.size := World.block_lt_of_cell? W _ (h 0 hn).1
theorem Wd.grown {q : Nat} (h : Wd K W p o n f) (hg : W.grownBy W' (some q)) (hq : p ≠ q) : Wd K W' p o n f := fun j hj => by
  obtain ⟨h1, h2⟩ := h j hj
  have hlt := World.block_lt_of_cell? W _ h1
  have hb := hg.block p hlt (fun e => hq (Option.some.inj e))
  exact ⟨(World.cell?_of_block (w := W) hb).trans h1, (World.frozen?_of_block (w := W) hb).trans h2⟩
theorem Wd.below (h : Wd K W p o n f) (hb : Below W.heap.size W W') : Wd K W' p o n f := fun j hj => by
  obtain ⟨h1, h2⟩ := h j hj
  have hlt := World.block_lt_of_cell? W _ h1
  exact ⟨(hb.cell (p := ⟨p, o + j, none⟩) hlt).trans h1, (hb.frozen (p := ⟨p, o + j, none⟩) hlt).trans h2⟩
theorem Wd.set (h : Wd K W p o n f) {j : Nat} (hj : j < n) (v : Int) : Wd K (W.setCell ⟨p, o + j, none⟩ (.int K v)) p o n (upd f j v) := fun i hi => by
  obtain ⟨h1, h2⟩ := h i hi
  refine ⟨?_, by rw [World.frozen?_setCell]; exact h2⟩
  by_cases e : i = j
  · subst e
    rw [World.cell?_setCell_same _ _ _ h1]; simp [upd]
  · rw [World.cell?_setCell_other _ _ _ _ (by intro e2; injection e2 with _ e3; omega), h1]; simp [upd, e]
theorem Wd.other (h : Wd K W p o n f) (x : Addr) (v : Value) (hx : x.block ≠ p) : Wd K (W.setCell x v) p o n f := fun i hi => by
  obtain ⟨h1, h2⟩ := h i hi
  refine ⟨?_, by rw [World.frozen?_setCell]; exact h2⟩
  rw [World.cell?_setCell_other _ _ _ _ (by intro e2; apply hx; rw [e2]), h1]
theorem Wd.drew (h : Wd K W p o n f) : Wd K W.drew p o n f := h
theorem Wd.alloc (h : Wd K W p o n f) (ob : Obj) : Wd K (W.alloc ob) p o n f := h.below ((Below.refl _ _).alloc (Nat.le_refl _) _)
end
/-- RotateLeft64, as the library reckons it. -/
def rotV (x : Int) (k : Nat) : Int := bits .or .u64 (IntKind.u64.wrap (x * 2 ^ k)) (x / 2 ^ (64 - k))
theorem rot_any (x : Int) (k : Nat) (hk : k < 64) (w : World) :
    Calls Tryz.prog 134 #[.int .u64 x, .int .i64 (k : Nat)] w fun e w' => e = .returned (.int .u64 (rotV x k)) ∧ w' = w := by
  have h1 : bits BinOp.and IntKind.u64 (k : Int) 63 = (k : Int) := by
    have e : ∀ k : Nat, k < 64 → bits BinOp.and IntKind.u64 (k : Int) 63 = (k : Int) := by decide +kernel
    exact e k hk
  have h2 : (k : Int) < 64 := by omega
  go_enter Tryz.func134, Tryz.ntmps134
  go_wp2_with fail
  go_ret
  exact ⟨rfl, rfl⟩
end Go.Proofs.YtfdododighjjpaaGreatDoor.Kc
