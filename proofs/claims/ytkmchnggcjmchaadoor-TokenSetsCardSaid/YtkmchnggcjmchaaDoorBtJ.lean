/- Contract: List. -/
import Derived.Test.YtkmchnggcjmchaaDoorBtI
namespace Go.Proofs.YtkmchnggcjmchaaDoor.Bz
open Go.RowKit Go.PlainAid Go.Shelf
attribute [local go_sem] Oper.semAt_some
set_option linter.unusedVariables false
set_option linter.unusedSimpArgs false
set_option maxHeartbeats 4000000

def i64v (x : Nat) : Value := .int .i64 ((x : Nat) : Int)
theorem info3i : (Tryd.prog.info? 3).map (fun i => (i.zero, i.size, i.bytes)) = some (some (.int .i64 0), 1, 8) := by kernel_rfl
theorem Tz.to {w : World} (h : Tz w) : Tzn w.heap.size w := h
theorem asc_length {l : List Nat} (h : Asc l) : l.length ≤ 4096 := by
  have : l = mlist (fun x => decide (x ∈ l)) := asc_ext h (asc_mlist _) fun x => by
    rw [mem_mlist, decide_eq_true_eq]; exact ⟨fun hx => ⟨h.2 x hx, hx⟩, fun hx => hx.2⟩
  rw [this]
  unfold mlist
  exact Nat.le_trans (List.length_filter_le _ _) (by simp)

end Go.Proofs.YtkmchnggcjmchaaDoor.Bz
