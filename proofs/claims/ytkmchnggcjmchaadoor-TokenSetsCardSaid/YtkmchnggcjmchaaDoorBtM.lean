/- Plain laws of sets as words: equal, within, meeting, number, least and greatest members. -/
import Derived.Test.YtkmchnggcjmchaaDoorBtSpec
import Derived.Test.YtkmchnggcjmchaaDoorBtOc
import Derived.Lib.TrailingZeros
import Derived.Laws.MathBits
namespace Go.Proofs.YtkmchnggcjmchaaDoor.Bz
open Go.RowKit Go.PlainAid
set_option linter.unusedVariables false

theorem eq_words {ws vs l m : List Nat} (h : Rp ws l) (k : Rp vs m) : (l = m) ↔ (ws.length = vs.length ∧ ∀ j, j < ws.length → wd ws j = wd vs j) := by
  refine ⟨fun e => ?_, fun ⟨e1, e2⟩ => ?_⟩
  · subst e
    have := h.uniq k
    subst this
    exact ⟨rfl, fun _ _ => rfl⟩
  · have : ws = vs := by
      apply List.ext_getElem e1
      intro j h1 h2
      have := e2 j h1
      rw [wd_get h1, wd_get h2] at this
      exact this
    subst this
    rw [h.2.2.2, k.2.2.2]
theorem tb_zero {x : Nat} (hx : x < 18446744073709551616) (h : ∀ j, j < 64 → x.testBit j = false) : x = 0 := by
  apply Nat.eq_of_testBit_eq
  intro j
  rw [Nat.zero_testBit]
  by_cases hj : j < 64
  · exact h j hj
  · exact Nat.testBit_lt_two_pow (Nat.lt_of_lt_of_le hx (by show 2 ^ 64 ≤ 2 ^ j; exact Nat.pow_le_pow_right (by omega) (by omega)))
theorem mem_at (ws : List Nat) (k j : Nat) (hj : j < 64) : mem ws (64 * k + j) = (wd ws k).testBit j := by
  unfold mem
  rw [show (64 * k + j) / 64 = k by omega, show (64 * k + j) % 64 = j by omega]
theorem sub_words {ws vs l m : List Nat} (h : Rp ws l) (k : Rp vs m) : (∀ x ∈ l, x ∈ m) ↔ (∀ j, j < ws.length → ldf (wd ws j) (wd vs j) = 0) := by
  refine ⟨fun e j hj => ?_, fun e x hx => ?_⟩
  · apply tb_zero (ldf_lt (wd_lt h.1 j))
    intro i hi
    rw [tb_ldf (wd_lt k.1 j) hi, ← mem_at ws j i hi, ← mem_at vs j i hi]
    by_cases hm : mem ws (64 * j + i) = true
    · rw [(k.mem_iff _).1 (e _ ((h.mem_iff _).2 hm)), hm]; rfl
    · rw [Bool.eq_false_iff.2 hm]; rfl
  · have hm := (h.mem_iff x).1 hx
    rw [k.mem_iff]
    have hx2 : x = 64 * (x / 64) + x % 64 := by omega
    rw [hx2, mem_at _ _ _ (by omega)] at hm ⊢
    by_cases hj : x / 64 < ws.length
    · have h0 := e _ hj
      have h1 := tb_ldf (a := wd ws (x / 64)) (wd_lt k.1 (x / 64)) (show x % 64 < 64 by omega)
      rw [h0, Nat.zero_testBit, hm] at h1
      simpa using h1.symm
    · rw [wd_out (by omega), Nat.zero_testBit] at hm; cases hm
theorem meet_words {ws vs l m : List Nat} (h : Rp ws l) (k : Rp vs m) : (∃ x ∈ l, x ∈ m) ↔ (∃ j, j < min ws.length vs.length ∧ wd ws j &&& wd vs j ≠ 0) := by
  refine ⟨fun ⟨x, hx, hy⟩ => ?_, fun ⟨j, hj, e⟩ => ?_⟩
  · have h1 := (h.mem_iff x).1 hx
    have h2 := (k.mem_iff x).1 hy
    have hx2 : x = 64 * (x / 64) + x % 64 := by omega
    rw [hx2, mem_at _ _ _ (by omega)] at h1 h2
    refine ⟨x / 64, ?_, fun e => ?_⟩
    · by_cases h3 : x / 64 < ws.length
      · by_cases h4 : x / 64 < vs.length
        · omega
        · rw [wd_out (by omega), Nat.zero_testBit] at h2; cases h2
      · rw [wd_out (by omega), Nat.zero_testBit] at h1; cases h1
    · have := Nat.testBit_and (wd ws (x / 64)) (wd vs (x / 64)) (x % 64)
      rw [e, Nat.zero_testBit, h1, h2] at this; cases this
  · by_cases hh : ∃ i, i < 64 ∧ (wd ws j).testBit i = true ∧ (wd vs j).testBit i = true
    · obtain ⟨i, hi, h1, h2⟩ := hh
      rw [← mem_at _ _ _ hi] at h1 h2
      exact ⟨64 * j + i, (h.mem_iff _).2 h1, (k.mem_iff _).2 h2⟩
    · exfalso
      apply e
      apply tb_zero (land_lt (wd_lt h.1 j))
      intro i hi
      rw [Nat.testBit_and]
      cases h1 : (wd ws j).testBit i
      · rfl
      · cases h2 : (wd vs j).testBit i
        · rfl
        · exact absurd ⟨i, hi, h1, h2⟩ hh
def sumPop (ws : List Nat) : Nat → Nat
  | 0 => 0
  | k + 1 => sumPop ws k + popF 64 (wd ws k)
theorem sumPop_succ (ws : List Nat) (k : Nat) : sumPop ws (k + 1) = sumPop ws k + popF 64 (wd ws k) := rfl
theorem count_words (ws : List Nat) : ∀ k, ((List.range (64 * k)).filter (mem ws)).length = sumPop ws k
  | 0 => rfl
  | k + 1 => by
    have hr : List.range (64 * (k + 1)) = List.range (64 * k) ++ (List.range 64).map (64 * k + ·) := by
      rw [Nat.mul_add, Nat.mul_one, List.range_add]
    have hf : (List.range 64).filter (mem ws ∘ (64 * k + ·)) = (List.range 64).filter (wd ws k).testBit := by
      apply List.filter_congr
      intro i hi
      exact mem_at ws k i (by simpa using hi)
    rw [hr, List.filter_append, List.length_append, count_words ws k, List.filter_map, List.length_map, hf, pop_filter, sumPop_succ]
theorem popF_z : popF 64 0 = 0 := by decide
theorem sumPop_out {ws : List Nat} {n : Nat} (h : ws.length ≤ n) : ∀ d, sumPop ws (n + d) = sumPop ws n
  | 0 => by rw [Nat.add_zero]
  | d + 1 => by
    rw [← Nat.add_assoc, sumPop_succ, sumPop_out h d, wd_out (by omega), popF_z, Nat.add_zero]
theorem len_words {ws l : List Nat} (h : Rp ws l) : l.length = sumPop ws ws.length := by
  have h1 := sumPop_out (Nat.le_refl ws.length) (64 - ws.length)
  rw [show ws.length + (64 - ws.length) = 64 by have := h.2.2.1; omega] at h1
  rw [← h1, ← count_words ws 64, h.2.2.2]
  rfl
theorem sumPop_le (ws : List Nat) : ∀ k, sumPop ws k ≤ 64 * k
  | 0 => Nat.le_refl _
  | k + 1 => by rw [sumPop_succ]; have := sumPop_le ws k; have := popF_le 64 (wd ws k); omega

theorem ctz_spec {x : Nat} (h0 : x ≠ 0) (hx : x < 18446744073709551616) : Lib.ctz 64 x < 64 ∧ x.testBit (Lib.ctz 64 x) = true ∧ ∀ j, j < Lib.ctz 64 x → x.testBit j = false := by
  unfold Lib.ctz
  rw [if_neg h0]
  obtain ⟨m, hm, hk⟩ := Lib.ctzFrom_spec 64 x (by omega) hx
  generalize Lib.ctzFrom 64 x = k at *
  subst hm
  refine ⟨hk, ?_, fun j hj => ?_⟩
  · rw [Nat.mul_comm, Nat.testBit_mul_two_pow]; simp
  · rw [Nat.mul_comm, Nat.testBit_mul_two_pow]; simp; omega
theorem head_of {l : List Nat} (ha : Asc l) {x : Nat} (hx : x ∈ l) (hm : ∀ y ∈ l, x ≤ y) : l.headD 0 = x := by
  cases l with
  | nil => simp at hx
  | cons y l =>
    simp only [List.mem_cons] at hx
    rcases hx with rfl | hx
    · rfl
    · have h1 := hm y (by simp)
      have h2 := (List.pairwise_cons.1 ha.1).1 x hx
      omega
theorem least_words {ws l : List Nat} (h : Rp ws l) {k : Nat} (hz : ∀ j, j < k → wd ws j = 0) (hk : wd ws k ≠ 0) : l ≠ [] ∧ l.headD 0 = 64 * k + Lib.ctz 64 (wd ws k) := by
  obtain ⟨h1, h2, h3⟩ := ctz_spec hk (wd_lt h.1 k)
  have hx : 64 * k + Lib.ctz 64 (wd ws k) ∈ l := by rw [h.mem_iff, mem_at _ _ _ h1]; exact h2
  refine ⟨fun e => by rw [e] at hx; simp at hx, head_of h.asc hx fun y hy => ?_⟩
  have hm := (h.mem_iff y).1 hy
  have hy2 : y = 64 * (y / 64) + y % 64 := by omega
  rw [hy2, mem_at _ _ _ (by omega)] at hm
  by_cases h4 : y / 64 < k
  · rw [hz _ h4, Nat.zero_testBit] at hm; cases hm
  · by_cases h5 : y / 64 = k
    · rw [h5] at hm
      by_cases h6 : y % 64 < Lib.ctz 64 (wd ws k)
      · rw [h3 _ h6] at hm; cases hm
      · omega
    · omega
theorem none_words {ws l : List Nat} (h : Rp ws l) (hz : ∀ j, j < ws.length → wd ws j = 0) : l = [] := by
  have h0 : ws = [] := by
    by_cases hl : ws.length = 0
    · exact List.eq_nil_of_length_eq_zero hl
    · exact absurd (hz (ws.length - 1) (by omega)) (h.2.1 (ws.length - 1) (by omega))
  subst h0
  rw [h.2.2.2, ← Rp.nil.2.2.2]
theorem last_of : ∀ {l : List Nat}, l.Pairwise (· < ·) → ∀ {x : Nat}, x ∈ l → (∀ y ∈ l, y ≤ x) → l.getLastD 0 = x
  | [], _, x, hx, _ => by simp at hx
  | [y], _, x, hx, _ => by simp at hx; subst hx; rfl
  | y :: z :: l, ha, x, hx, hm => by
    have h1 : (y :: z :: l).getLastD 0 = (z :: l).getLastD 0 := rfl
    rw [h1]
    obtain ⟨ha1, ha2⟩ := List.pairwise_cons.1 ha
    refine last_of ha2 ?_ (fun w hw => hm w (List.mem_cons_of_mem _ hw))
    simp only [List.mem_cons] at hx ⊢
    rcases hx with rfl | hx
    · have := ha1 z (by simp); have := hm z (by simp); omega
    · exact hx
theorem bitLen_tb {x : Nat} (h0 : x ≠ 0) : x.testBit (bitLen x - 1) = true ∧ ∀ j, bitLen x ≤ j → x.testBit j = false := by
  obtain ⟨h1, h2⟩ := bitLen_spec x
  have h2 := h2 h0
  have hp : 0 < bitLen x := by
    by_cases h : bitLen x = 0
    · rw [h] at h1; simp at h1; omega
    · omega
  refine ⟨?_, fun j hj => Nat.testBit_lt_two_pow (Nat.lt_of_lt_of_le h1 (Nat.pow_le_pow_right (by omega) hj))⟩
  rw [Nat.testBit_eq_decide_div_mod_eq, decide_eq_true_iff]
  have e : 2 ^ bitLen x = 2 * 2 ^ (bitLen x - 1) := by
    conv => lhs; rw [show bitLen x = (bitLen x - 1) + 1 by omega]
    rw [Nat.pow_succ]; omega
  have h3 : x / 2 ^ (bitLen x - 1) < 2 := by rw [Nat.div_lt_iff_lt_mul (Nat.two_pow_pos _)]; omega
  have h4 : 1 ≤ x / 2 ^ (bitLen x - 1) := by rw [Nat.le_div_iff_mul_le (Nat.two_pow_pos _)]; omega
  omega
theorem greatest_words {ws l : List Nat} (h : Rp ws l) (hn : ws.length ≠ 0) : 1 ≤ bitLen (wd ws (ws.length - 1)) ∧ l ≠ [] ∧ l.getLastD 0 = 64 * (ws.length - 1) + bitLen (wd ws (ws.length - 1)) - 1 ∧ bitLen (wd ws (ws.length - 1)) ≤ 64 := by
  have h0 := h.2.1 (ws.length - 1) (by omega)
  have hu := wd_lt h.1 (ws.length - 1)
  obtain ⟨t1, t2⟩ := bitLen_tb h0
  obtain ⟨s1, s2⟩ := bitLen_spec (wd ws (ws.length - 1))
  have s2 := s2 h0
  have hp : 1 ≤ bitLen (wd ws (ws.length - 1)) := by
    by_cases e : bitLen (wd ws (ws.length - 1)) = 0
    · rw [e] at s1; simp at s1; omega
    · omega
  have hb : bitLen (wd ws (ws.length - 1)) ≤ 64 := by
    have : 2 ^ (bitLen (wd ws (ws.length - 1)) - 1) < 2 ^ 64 := Nat.lt_of_le_of_lt s2 hu
    have := (Nat.pow_lt_pow_iff_right (a := 2) (by omega)).1 this
    omega
  have hx : 64 * (ws.length - 1) + (bitLen (wd ws (ws.length - 1)) - 1) ∈ l := by rw [h.mem_iff, mem_at _ _ _ (by omega)]; exact t1
  refine ⟨hp, fun e => by rw [e] at hx; simp at hx, ?_, hb⟩
  rw [last_of h.asc.1 hx fun y hy => ?_]
  · omega
  · have hm := (h.mem_iff y).1 hy
    have hy2 : y = 64 * (y / 64) + y % 64 := by omega
    rw [hy2, mem_at _ _ _ (by omega)] at hm
    by_cases h4 : y / 64 < ws.length
    · by_cases h5 : y / 64 = ws.length - 1
      · rw [h5] at hm
        by_cases h6 : bitLen (wd ws (ws.length - 1)) ≤ y % 64
        · rw [t2 _ h6] at hm; cases hm
        · omega
      · omega
    · rw [wd_out (by omega), Nat.zero_testBit] at hm; cases hm
end Go.Proofs.YtkmchnggcjmchaaDoor.Bz
