/- Package keccak: a new hash; bytes are written. -/
import Derived.Test.YtfdododighjjpaaGreatDoorKcD
namespace Go.Proofs.YtfdododighjjpaaGreatDoor.Kc
open Go.RowKit Go.PlainAid Go.Proofs.YtfdododighjjpaaGreatDoor.Wi
set_option linter.unusedVariables false
set_option linter.unusedSimpArgs false
set_option maxHeartbeats 4000000
set_option maxRecDepth 20000

def hz : Array Value := Array.replicate 25 (.int .u64 0) ++ Array.replicate 136 (.int .u8 0) ++ #[.int .i64 0, .int .u64 0]
/-- A hash in block h: its words, its bytes, how many. -/
structure Hb (W : World) (h : Nat) (A f : Nat → Int) (used : Nat) (total : Int) : Prop where
  st : Wd .u64 W h 0 25 A
  by_ : Wd .u8 W h 25 136 f
  us : W.cell? ⟨h, 161, none⟩ = some (.int .i64 (used : Nat))
  tt : W.cell? ⟨h, 162, none⟩ = some (.int .u64 total)
  fu : W.frozen? ⟨h, 161, none⟩ = false
  ft : W.frozen? ⟨h, 162, none⟩ = false
theorem hb_new (w : World) : Hb (w.alloc (.cells hz 133)) w.heap.size zf zf 0 0 := by
  have hb : (w.alloc (.cells hz 133)).heap[w.heap.size]? = some (.cells hz 133 (0, 0)) := World.alloc_heap_new w _
  have hf : ∀ j, (w.alloc (.cells hz 133)).frozen? ⟨w.heap.size, j, none⟩ = false := fun j => by unfold World.frozen?; dsimp only; rw [hb]; simp
  have hc : ∀ j, (w.alloc (.cells hz 133)).cell? ⟨w.heap.size, j, none⟩ = hz[j]? := fun j => cell_of_row _ _ j _ _ _ hb
  have h1 : ∀ j, j < 25 → hz[j]? = some (.int .u64 0) := fun j hj => by
    unfold hz; rw [Array.getElem?_append_left (by simp; omega), Array.getElem?_append_left (by simp; omega), Array.getElem?_replicate, if_pos hj]
  have h2 : ∀ j, j < 136 → hz[25 + j]? = some (.int .u8 0) := fun j hj => by
    unfold hz; rw [Array.getElem?_append_left (by simp; omega), Array.getElem?_append_right (by simp), Array.size_replicate, show 25 + j - 25 = j by omega, Array.getElem?_replicate, if_pos hj]
  exact ⟨fun j hj => ⟨by rw [Nat.zero_add, hc, h1 j hj]; rfl, hf _⟩, fun j hj => ⟨by rw [hc, h2 j hj]; rfl, hf _⟩, by rw [hc]; rfl, by rw [hc]; rfl, hf _, hf _⟩
theorem new_any (w : World) : Calls Tryz.prog 74 #[] w fun e w' => e = .returned (.pointer (some ⟨w.heap.size, 0, none⟩)) ∧ w' = w.alloc (.cells hz 133) := by
  go_enter Tryz.func74, Tryz.ntmps74
  go_wp2_with fail
  go_ret
  exact ⟨rfl, rfl⟩
end Go.Proofs.YtfdododighjjpaaGreatDoor.Kc
