/- Contracts of slices.Grow (of nil) and slices.Concat (of two) of spans. -/
import Derived.Test.YtfdododighjjpaaGreatDoorDaC
import Derived.Lib.AppendZeros
namespace Go.Proofs.YtfdododighjjpaaGreatDoor.Dy
open Go.RowKit Go.PlainAid
set_option linter.unusedVariables false
set_option linter.unusedSimpArgs false
set_option maxHeartbeats 1000000

end Go.Proofs.YtfdododighjjpaaGreatDoor.Dy
