/- The walk of CubeOrders. -/
import Derived.Test.YtadomogbakcokaaGreatDoorCoA
import Derived.Test.YtadomogbakcokaaGreatDoorCoM
import Derived.Test.YtadomogbakcokaaGreatDoorCoN
namespace Go.Proofs.YtadomogbakcokaaGreatDoor
open Go.RowKit Go.PlainAid
theorem cubeOrders_walk (r t u : Rx) (w : World) (hW : Wld w) (hr : RxOk r) (ht : RxOk t) (hu : RxOk u) :
    Calls Tryz.prog 4 #[.agg #[.int .u8 (r.1 : Nat), .int .u8 (r.2.1 : Nat), .bool r.2.2], .agg #[.int .u8 (t.1 : Nat), .int .u8 (t.2.1 : Nat), .bool t.2.2], .agg #[.int .u8 (u.1 : Nat), .int .u8 (u.2.1 : Nat), .bool u.2.2]] w fun e w' => e = .returned (.bool true) ∧ Below w.heap.size w w' := by
  have key : cmpC (cuM (fitM r)) (cuM (fitM t)) ≤ 0 → cmpC (cuM (fitM t)) (cuM (fitM u)) ≤ 0 → cmpC (cuM (fitM r)) (cuM (fitM u)) ≤ 0 := cmpC_le
  have hy := cmpC_cases (cuM (fitM t)) (cuM (fitM u))
  have hv := cmpC_cases (cuM (fitM r)) (cuM (fitM u))
  rcases cmpC_cases (cuM (fitM r)) (cuM (fitM t)) with hz | hz | hz
  · exact orders_eq r t u w hW hr ht hu hz (by omega)
  · exact orders_gt r t u w hW hr ht hu hz
  · exact orders_lt r t u w hW hr ht hu hz (by omega)
end Go.Proofs.YtadomogbakcokaaGreatDoor
