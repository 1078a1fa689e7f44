/- Contract: Below. -/
import Derived.Test.YtkmchnggcjmchaaDoorBtG
namespace Go.Proofs.YtkmchnggcjmchaaDoor.Bz
open Go.RowKit Go.PlainAid
set_option linter.unusedVariables false
set_option linter.unusedSimpArgs false
set_option maxHeartbeats 2000000

def belowL (n : Int) : List Nat := List.range (min (max n 0) 4096).toNat
def ones : Nat := 18446744073709551615
theorem ones_tb (j : Nat) : ones.testBit j = decide (j < 64) := by
  have : ones = 2 ^ 64 - 1 := by decide
  rw [this, Nat.testBit_two_pow_sub_one]
theorem below_rp {us : List Nat} {m q : Nat} (hm : m ≤ 4096) (hq : q = (m + 63) / 64) (hl : us.length = q) (hw : ∀ j, wd us j = if j < q then (if j + 1 = q ∧ 0 < m % 64 then 2 ^ (m % 64) - 1 else ones) else 0) : Rp us (List.range m) := by
  have hp : 0 < m % 64 → 1 < 2 ^ (m % 64) := fun h => Nat.one_lt_two_pow (by omega)
  refine Rp.of ?_ ?_ (by omega) ⟨pw_range m, fun x hx => by have := List.mem_range.1 hx; omega⟩ fun i hi => ?_
  · intro x hx
    obtain ⟨j, hj, rfl⟩ := List.getElem_of_mem hx
    rw [← wd_get hj, hw j]
    split
    · split
      · have := bit_lt (k := m % 64) (by omega); omega
      · unfold ones; omega
    · omega
  · intro j hj
    rw [hw, if_pos (by omega)]
    split
    · rename_i h; have := hp h.2; omega
    · unfold ones; omega
  · rw [List.mem_range]
    unfold mem
    rw [hw]
    by_cases h1 : i / 64 < q
    · rw [if_pos h1]
      by_cases h2 : i / 64 + 1 = q ∧ 0 < m % 64
      · rw [if_pos h2, Nat.testBit_two_pow_sub_one, decide_eq_true_eq]
        omega
      · rw [if_neg h2, ones_tb, decide_eq_true_eq]
        constructor
        · intro _; omega
        · intro _
          by_cases h3 : 0 < m % 64
          · have : i / 64 + 1 ≠ q := fun e => h2 ⟨e, h3⟩
            omega
          · omega
    · rw [if_neg h1, Nat.zero_testBit]
      constructor
      · intro h; omega
      · intro h; cases h

theorem sub_bit {k : Nat} {j : Int} (hj : j = (k % 64 : Nat)) (hk : 0 < k % 64) (hk2 : k % 64 < 64) : IntKind.u64.wrap (IntKind.u64.wrap (2 ^ j.toNat) - 1) = ((2 ^ (k % 64) - 1 : Nat) : Int) := by
  subst hj
  have hb := bit_lt hk2
  have hp : 1 ≤ 2 ^ (k % 64) := Nat.one_le_two_pow
  rw [Int.toNat_natCast, IntKind.wrap_u64, IntKind.wrap_u64]
  have : ((2 : Int) ^ (k % 64)) = ((2 ^ (k % 64) : Nat) : Int) := by simp
  rw [this]
  generalize 2 ^ (k % 64) = y at *
  omega

end Go.Proofs.YtkmchnggcjmchaaDoor.Bz
