/- Contracts: Meets, Len, Least, Greatest, beyond. -/
import Derived.Test.YtkmchnggcjmchaaDoorBtB
namespace Go.Proofs.YtkmchnggcjmchaaDoor.Bz
open Go.RowKit Go.PlainAid
set_option linter.unusedVariables false
set_option linter.unusedSimpArgs false
set_option maxHeartbeats 1000000

def firstP (l : List Nat) : Ending := .returned (.tuple #[.int .i64 (l.headD 0 : Nat), .bool (!l.isEmpty)])
def lastP (l : List Nat) : Ending := .returned (.tuple #[.int .i64 (l.getLastD 0 : Nat), .bool (!l.isEmpty)])
theorem bitLen_same (x : Nat) (hx : x < 18446744073709551616) : Lib.bitLen x = bitLen x := by
  induction x using Nat.strongRecOn with
  | _ x ih =>
    by_cases h0 : x = 0
    · subst h0; decide
    · rw [Lib.bitLen_half x h0 hx]
      by_cases h1 : x / 2 = 0
      · have : x = 1 := by omega
        subst this; decide
      · rw [ih (x / 2) (by omega) (by omega)]
        have := bitLen_shift x 1 (by simpa using h1)
        rw [this]
end Go.Proofs.YtkmchnggcjmchaaDoor.Bz
