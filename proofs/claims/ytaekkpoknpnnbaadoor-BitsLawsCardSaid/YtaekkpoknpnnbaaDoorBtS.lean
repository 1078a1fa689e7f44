/- Plain: the set of bytes (Read). -/
import Derived.Test.YtaekkpoknpnnbaaDoorBtR
namespace Go.Proofs.YtaekkpoknpnnbaaDoor
open Go.RowKit Go.PlainAid
set_option linter.unusedVariables false
set_option linter.unusedSimpArgs false
set_option maxHeartbeats 1000000

/-- The members that the bytes ps spell. -/
def readL (ps : List Nat) : List Nat := (List.range 4096).filter (fun x => (wd ps (x / 8)).testBit (x % 8))
theorem asc_readL (ps : List Nat) : Asc (readL ps) := ⟨(pw_range 4096).filter _, fun x hx => by simp [readL] at hx; exact hx.1⟩
/-- After k bytes. -/
def ReadAt (ps us : List Nat) (k : Nat) : Prop := ∀ j i, i < 64 → (wd us j).testBit i = (decide (8 * j + i / 8 < k) && (wd ps (8 * j + i / 8)).testBit (i % 8))
theorem ReadAt.zero (ps : List Nat) (q : Nat) : ReadAt ps (List.replicate q 0) 0 := by
  intro j i hi
  have : wd (List.replicate q 0) j = 0 := by
    unfold Go.Proofs.YtaekkpoknpnnbaaDoor.wd
    rw [List.getD_eq_getElem?_getD, List.getElem?_replicate]
    split <;> rfl
  rw [this]; simp
theorem ReadAt.next {ps us : List Nat} {k : Nat} (h : ReadAt ps us k) (hk : k / 8 < us.length) (hb : wd ps k < 256) : ReadAt ps (us.set (k / 8) (wd us (k / 8) ||| wd ps k * 2 ^ (8 * (k % 8)))) (k + 1) := by
  intro j i hi
  rw [wd_set hk]
  by_cases hj : j = k / 8
  · rw [if_pos hj, Nat.testBit_or, hj, h (k / 8) i hi, Nat.mul_comm (wd ps k), Nat.testBit_two_pow_mul]
    by_cases hc : 8 * (k / 8) + i / 8 < k
    · have e1 : decide (8 * (k / 8) + i / 8 < k) = true := decide_eq_true hc
      have e2 : decide (8 * (k / 8) + i / 8 < k + 1) = true := decide_eq_true (by omega)
      have e3 : decide (8 * (k % 8) ≤ i) = false := decide_eq_false (by omega)
      rw [e1, e2]
      simp [e3]
    · by_cases hd : 8 * (k / 8) + i / 8 = k
      · have e1 : decide (8 * (k / 8) + i / 8 < k) = false := decide_eq_false hc
        have e2 : decide (8 * (k / 8) + i / 8 < k + 1) = true := decide_eq_true (by omega)
        have e3 : 8 * (k % 8) ≤ i := by omega
        rw [e1, e2, hd, show i % 8 = i - 8 * (k % 8) by omega]
        simp [e3]
      · have e1 : decide (8 * (k / 8) + i / 8 < k) = false := decide_eq_false hc
        have e2 : decide (8 * (k / 8) + i / 8 < k + 1) = false := decide_eq_false (by omega)
        have e4 : (wd ps k).testBit (i - 8 * (k % 8)) = false ∨ i < 8 * (k % 8) := by
          by_cases h2 : i < 8 * (k % 8)
          · exact .inr h2
          · refine .inl (Nat.testBit_lt_two_pow (Nat.lt_of_lt_of_le hb ?_))
            exact Nat.pow_le_pow_right (n := 2) (by omega) (show 8 ≤ i - 8 * (k % 8) by omega)
        rw [e1, e2]
        rcases e4 with e4 | e4
        · simp [e4]
        · have : ¬ 8 * (k % 8) ≤ i := by omega
          simp [this]
  · rw [if_neg hj, h j i hi]
    have : decide (8 * j + i / 8 < k) = decide (8 * j + i / 8 < k + 1) := by
      rw [decide_eq_decide]; omega
    rw [this]
theorem read_lt {b k : Nat} (hb : b < 256) : b * 2 ^ (8 * (k % 8)) < 18446744073709551616 := by
  have h1 : 2 ^ (8 * (k % 8)) ≤ 2 ^ 56 := Nat.pow_le_pow_right (by omega) (by omega)
  calc b * 2 ^ (8 * (k % 8)) ≤ 255 * 2 ^ 56 := Nat.mul_le_mul (by omega) h1
    _ < 18446744073709551616 := by decide
theorem read_rp {ps us : List Nat} (h : ReadAt ps us ps.length) (hu : U64 us) (hl : us.length = (ps.length + 7) / 8) (hp : ps.length ≤ 512) (h0 : ∀ h : 0 < ps.length, ps[ps.length - 1] ≠ 0) (hb : ∀ x ∈ ps, x < 256) : Rp us (readL ps) := by
  refine Rp.of hu ?_ (by omega) (asc_readL ps) ?_
  · intro j hj e
    have hpos : 0 < ps.length := by omega
    apply h0 hpos
    apply Nat.eq_of_testBit_eq
    intro i
    rw [Nat.zero_testBit]
    by_cases hi : i < 8
    · have h2 := h j (8 * ((ps.length - 1) % 8) + i) (by omega)
      rw [e, Nat.zero_testBit] at h2
      have e1 : 8 * j + (8 * ((ps.length - 1) % 8) + i) / 8 = ps.length - 1 := by omega
      rw [e1, show (8 * ((ps.length - 1) % 8) + i) % 8 = i by omega, wd_get (by omega)] at h2
      have e3 : decide (ps.length - 1 < ps.length) = true := decide_eq_true (by omega)
      rw [e3] at h2
      simpa using h2.symm
    · refine Nat.testBit_lt_two_pow (Nat.lt_of_lt_of_le (hb _ (List.getElem_mem _)) ?_)
      exact Nat.pow_le_pow_right (n := 2) (by omega) (show 8 ≤ i by omega)
  · intro i hi
    unfold mem
    rw [h (i / 64) (i % 64) (by omega)]
    simp only [readL, List.mem_filter, List.mem_range]
    rw [show 8 * (i / 64) + i % 64 / 8 = i / 8 by omega, show i % 64 % 8 = i % 8 by omega]
    by_cases hc : i / 8 < ps.length
    · simp [hc, hi]
    · rw [wd_out (by omega)]; simp
end Go.Proofs.YtaekkpoknpnnbaaDoor
