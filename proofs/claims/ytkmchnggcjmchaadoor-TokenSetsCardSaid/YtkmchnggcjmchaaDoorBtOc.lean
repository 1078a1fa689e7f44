/- Contract: math/bits.OnesCount64. -/
import Derived.Test.YtkmchnggcjmchaaDoorBtA
namespace Go.Proofs.YtkmchnggcjmchaaDoor.Bz
open Go.RowKit Go.PlainAid
set_option linter.unusedVariables false
set_option linter.unusedSimpArgs false
set_option maxHeartbeats 1000000

def popF : Nat → Nat → Nat
  | 0, _ => 0
  | f + 1, x => x % 2 + popF f (x / 2)
theorem pop_byte (f x : Nat) : popF (f + 8) x = popF 8 (x % 256) + popF f (x / 256) := by
  simp only [popF]
  rw [show x / 2 / 2 / 2 / 2 / 2 / 2 / 2 / 2 = x / 256 by omega]
  omega
theorem pop_filter : ∀ (f x : Nat), ((List.range f).filter x.testBit).length = popF f x
  | 0, x => rfl
  | f + 1, x => by
    rw [List.range_succ_eq_map, List.filter_cons, List.filter_map]
    have ih := pop_filter f (x / 2)
    have e : x.testBit ∘ Nat.succ = (x / 2).testBit := by funext i; simp [Nat.testBit_succ]
    rw [e]
    have h0 : x.testBit 0 = decide (x % 2 = 1) := by simp [Nat.testBit_zero]
    rw [h0]
    unfold popF
    rw [← ih]
    split
    · rename_i h; simp at h; simp; omega
    · rename_i h; simp at h; simp; omega
theorem popF_le : ∀ (f x : Nat), popF f x ≤ f
  | 0, x => Nat.le_refl _
  | f + 1, x => by unfold popF; have := popF_le f (x / 2); omega
theorem land_byte (x y r s : Nat) (hr : r < 256) (hs : s < 256) : (256 * x + r) &&& (256 * y + s) = 256 * (x &&& y) + (r &&& s) := by
  have h1 : r &&& s < 256 := Nat.lt_of_le_of_lt Nat.and_le_left hr
  apply Nat.eq_of_testBit_eq
  intro j
  rw [Nat.testBit_and]
  have e : ∀ a b, b < 256 → (256 * a + b).testBit j = if j < 8 then b.testBit j else a.testBit (j - 8) := fun a b hb => Nat.testBit_two_pow_mul_add (i := 8) a hb j
  rw [e x r hr, e y s hs, e _ _ h1]
  split <;> rw [Nat.testBit_and]

def mask : Nat → Nat → Nat
  | 0, _ => 0
  | n + 1, c => 256 * mask n c + c
theorem mask_succ (n c : Nat) : mask (n + 1) c = 256 * mask n c + c := rfl
def a1b (r : Nat) : Nat := (r / 2 &&& 85) + (r &&& 85)
def a2b (r : Nat) : Nat := (r / 4 &&& 51) + (r &&& 51)
def a3b (r : Nat) : Nat := (r / 16 + r) &&& 15
def a1 (n x : Nat) : Nat := (x / 2 &&& mask n 85) + (x &&& mask n 85)
def a2 (n x : Nat) : Nat := (x / 4 &&& mask n 51) + (x &&& mask n 51)
def a3 (n x : Nat) : Nat := (x / 16 + x) &&& mask n 15
theorem byte1 : ∀ c < 2, ∀ t < 128, (128 * c + t) &&& 85 = t &&& 85 := by decide +kernel
theorem byte2 : ∀ c < 4, ∀ t < 64, (64 * c + t) &&& 51 = t &&& 51 := by decide +kernel
theorem byte3 : ∀ c < 5, ∀ t < 80, (16 * c + t) &&& 15 = t &&& 15 := by decide +kernel
theorem byteG : ∀ r < 256, a3b (a2b (a1b r)) = popF 8 r ∧ a1b r < 256 ∧ a2b (a1b r) ≤ 68 ∧ a2b (a1b r) % 16 ≤ 4 := by decide +kernel
theorem a1_step (n y r : Nat) (hr : r < 256) : a1 (n + 1) (256 * y + r) = 256 * a1 n y + a1b r := by
  unfold a1 a1b
  rw [mask_succ]
  rw [show (256 * y + r) / 2 = 256 * (y / 2) + (128 * (y % 2) + r / 2) by omega, land_byte _ _ _ _ (by omega) (by omega), land_byte _ _ _ _ hr (by omega), byte1 _ (by omega) _ (by omega)]
  omega
theorem a2_step (n y r : Nat) (hr : r < 256) : a2 (n + 1) (256 * y + r) = 256 * a2 n y + a2b r := by
  unfold a2 a2b
  rw [mask_succ]
  rw [show (256 * y + r) / 4 = 256 * (y / 4) + (64 * (y % 4) + r / 4) by omega, land_byte _ _ _ _ (by omega) (by omega), land_byte _ _ _ _ hr (by omega), byte2 _ (by omega) _ (by omega)]
  omega
theorem a3_step (n y r : Nat) (hr : r ≤ 68) (hy : y % 16 ≤ 4) : a3 (n + 1) (256 * y + r) = 256 * a3 n y + a3b r := by
  unfold a3 a3b
  rw [mask_succ]
  rw [show (256 * y + r) / 16 + (256 * y + r) = 256 * (y / 16 + y) + (16 * (y % 16) + (r / 16 + r)) by omega, land_byte _ _ _ _ (by omega) (by omega), byte3 _ (by omega) _ (by omega)]
def bsum : Nat → Nat → Nat
  | 0, _ => 0
  | n + 1, x => 256 * bsum n (x / 256) + popF 8 (x % 256)
theorem a_all : ∀ (n x : Nat), x < 256 ^ n → a3 n (a2 n (a1 n x)) = bsum n x ∧ a2 n (a1 n x) % 16 ≤ 4
  | 0, x, h => by
    have : x = 0 := by simp at h; exact h
    subst this
    exact ⟨rfl, by decide⟩
  | n + 1, x, h => by
    have h1 : x / 256 < 256 ^ n := by rw [Nat.pow_succ] at h; omega
    obtain ⟨i1, i2⟩ := a_all n (x / 256) h1
    obtain ⟨g1, g2, g3, g4⟩ := byteG (x % 256) (Nat.mod_lt _ (by omega))
    have e : x = 256 * (x / 256) + x % 256 := by omega
    have e1 : a1 (n + 1) x = 256 * a1 n (x / 256) + a1b (x % 256) := by
      conv => lhs; rw [e]
      exact a1_step n _ _ (by omega)
    rw [e1, a2_step _ _ _ g2, a3_step _ _ _ g3 i2, i1, g1]
    exact ⟨rfl, by omega⟩
theorem m85 : mask 8 85 = 6148914691236517205 := by decide
theorem m51 : mask 8 51 = 3689348814741910323 := by decide
theorem m15 : mask 8 15 = 1085102592571150095 := by decide
theorem land_le {a b : Nat} : a &&& b ≤ b := Nat.and_le_right
theorem st1 (x : Nat) (hx : x < 18446744073709551616) : IntKind.u64.wrap (bits .and .u64 ((x : Int) / 2) 6148914691236517205 + bits .and .u64 (x : Int) 6148914691236517205) = ((a1 8 x : Nat) : Int) ∧ a1 8 x < 18446744073709551616 := by
  have e1 : ((x / 2 : Nat) : Int) = (x : Int) / 2 := by omega
  have h1 : bits .and .u64 ((x : Int) / 2) 6148914691236517205 = ((x / 2 &&& 6148914691236517205 : Nat) : Int) := by rw [← e1]; exact u64_and_nat (x / 2) 6148914691236517205 (by omega) (by omega)
  have h2 : bits .and .u64 (x : Int) 6148914691236517205 = ((x &&& 6148914691236517205 : Nat) : Int) := u64_and_nat x 6148914691236517205 hx (by omega)
  have l1 : x / 2 &&& 6148914691236517205 ≤ 6148914691236517205 := land_le
  have l2 : x &&& 6148914691236517205 ≤ 6148914691236517205 := land_le
  unfold a1
  rw [m85, h1, h2, IntKind.wrap_u64]
  omega
theorem st2 (x : Nat) (hx : x < 18446744073709551616) : IntKind.u64.wrap (bits .and .u64 ((x : Int) / 4) 3689348814741910323 + bits .and .u64 (x : Int) 3689348814741910323) = ((a2 8 x : Nat) : Int) ∧ a2 8 x ≤ 7378697629483820646 := by
  have e1 : ((x / 4 : Nat) : Int) = (x : Int) / 4 := by omega
  have h1 : bits .and .u64 ((x : Int) / 4) 3689348814741910323 = ((x / 4 &&& 3689348814741910323 : Nat) : Int) := by rw [← e1]; exact u64_and_nat (x / 4) 3689348814741910323 (by omega) (by omega)
  have h2 : bits .and .u64 (x : Int) 3689348814741910323 = ((x &&& 3689348814741910323 : Nat) : Int) := u64_and_nat x 3689348814741910323 hx (by omega)
  have l1 : x / 4 &&& 3689348814741910323 ≤ 3689348814741910323 := land_le
  have l2 : x &&& 3689348814741910323 ≤ 3689348814741910323 := land_le
  unfold a2
  rw [m51, h1, h2, IntKind.wrap_u64]
  omega
theorem st3 (x : Nat) (hx : x ≤ 7378697629483820646) : bits .and .u64 (IntKind.u64.wrap ((x : Int) / 16 + (x : Int))) 1085102592571150095 = ((a3 8 x : Nat) : Int) := by
  have e1 : ((x / 16 + x : Nat) : Int) = IntKind.u64.wrap ((x : Int) / 16 + (x : Int)) := by rw [IntKind.wrap_u64]; omega
  have h1 : bits .and .u64 (IntKind.u64.wrap ((x : Int) / 16 + (x : Int))) 1085102592571150095 = ((x / 16 + x &&& 1085102592571150095 : Nat) : Int) := by rw [← e1]; exact u64_and_nat (x / 16 + x) 1085102592571150095 (by omega) (by omega)
  unfold a3
  rw [m15, h1]
theorem wraps_i64 (n : Int) (h₀ : 0 ≤ n) (h₁ : n < 2 ^ 63) : IntKind.i64.wrap n = n := by rw [IntKind.wrap_i64]; omega
theorem last (p0 p1 p2 p3 p4 p5 p6 p7 : Nat) (h0 : p0 ≤ 8) (h1 : p1 ≤ 8) (h2 : p2 ≤ 8) (h3 : p3 ≤ 8) (h4 : p4 ≤ 8) (h5 : p5 ≤ 8) (h6 : p6 ≤ 8) (h7 : p7 ≤ 8) (z s1 s2 s3 : Nat)
    (hz : z = p0 + 256 * (p1 + 256 * (p2 + 256 * (p3 + 256 * (p4 + 256 * (p5 + 256 * (p6 + 256 * p7)))))))
    (e1 : s1 = z + z / 256) (e2 : s2 = s1 + s1 / 65536) (e3 : s3 = s2 + s2 / 4294967296) : s3 < 9223372036854775808 ∧ s3 % 128 = p0 + p1 + p2 + p3 + p4 + p5 + p6 + p7 := by
  have d1 : z / 256 = p1 + 256 * (p2 + 256 * (p3 + 256 * (p4 + 256 * (p5 + 256 * (p6 + 256 * p7))))) := by
    generalize p1 + 256 * (p2 + 256 * (p3 + 256 * (p4 + 256 * (p5 + 256 * (p6 + 256 * p7))))) = R at *
    omega
  have g1 : s1 = (p0 + p1) + 256 * ((p1 + p2) + 256 * ((p2 + p3) + 256 * ((p3 + p4) + 256 * ((p4 + p5) + 256 * ((p5 + p6) + 256 * ((p6 + p7) + 256 * p7)))))) := by rw [e1, d1, hz]; omega
  clear e1 d1 hz
  have d2 : s1 / 65536 = (p2 + p3) + 256 * ((p3 + p4) + 256 * ((p4 + p5) + 256 * ((p5 + p6) + 256 * ((p6 + p7) + 256 * p7)))) := by
    generalize (p2 + p3) + 256 * ((p3 + p4) + 256 * ((p4 + p5) + 256 * ((p5 + p6) + 256 * ((p6 + p7) + 256 * p7)))) = R at *
    omega
  have g2 : s2 = (p0 + p1 + p2 + p3) + 256 * ((p1 + p2 + p3 + p4) + 256 * ((p2 + p3 + p4 + p5) + 256 * ((p3 + p4 + p5 + p6) + 256 * ((p4 + p5 + p6 + p7) + 256 * ((p5 + p6 + p7) + 256 * ((p6 + p7) + 256 * p7)))))) := by rw [e2, d2, g1]; omega
  clear e2 d2 g1
  have d3 : s2 / 4294967296 = (p4 + p5 + p6 + p7) + 256 * ((p5 + p6 + p7) + 256 * ((p6 + p7) + 256 * p7)) := by
    generalize (p4 + p5 + p6 + p7) + 256 * ((p5 + p6 + p7) + 256 * ((p6 + p7) + 256 * p7)) = R at *
    omega
  have g3 : s3 = (p0 + p1 + p2 + p3 + p4 + p5 + p6 + p7) + 256 * ((p1 + p2 + p3 + p4 + p5 + p6 + p7) + 256 * ((p2 + p3 + p4 + p5 + p6 + p7) + 256 * ((p3 + p4 + p5 + p6 + p7) + 256 * ((p4 + p5 + p6 + p7) + 256 * ((p5 + p6 + p7) + 256 * ((p6 + p7) + 256 * p7)))))) := by rw [e3, d3, g2]; omega
  clear e3 d3 g2
  refine ⟨by omega, ?_⟩
  generalize (p1 + p2 + p3 + p4 + p5 + p6 + p7) + 256 * ((p2 + p3 + p4 + p5 + p6 + p7) + 256 * ((p3 + p4 + p5 + p6 + p7) + 256 * ((p4 + p5 + p6 + p7) + 256 * ((p5 + p6 + p7) + 256 * ((p6 + p7) + 256 * p7))))) = R at *
  omega
theorem popF_zero (x : Nat) : popF 0 x = 0 := rfl
theorem bsum_succ (n x : Nat) : bsum (n + 1) x = 256 * bsum n (x / 256) + popF 8 (x % 256) := rfl
theorem bsum_zero (x : Nat) : bsum 0 x = 0 := rfl
theorem pop64 (x : Nat) : ∃ p0 p1 p2 p3 p4 p5 p6 p7, p0 ≤ 8 ∧ p1 ≤ 8 ∧ p2 ≤ 8 ∧ p3 ≤ 8 ∧ p4 ≤ 8 ∧ p5 ≤ 8 ∧ p6 ≤ 8 ∧ p7 ≤ 8 ∧ popF 64 x = p0 + (p1 + (p2 + (p3 + (p4 + (p5 + (p6 + (p7 + 0))))))) ∧
    bsum 8 x = 256 * (256 * (256 * (256 * (256 * (256 * (256 * (256 * 0 + p7) + p6) + p5) + p4) + p3) + p2) + p1) + p0 := by
  obtain ⟨y1, h1⟩ : ∃ y, y = x / 256 := ⟨_, rfl⟩
  obtain ⟨y2, h2⟩ : ∃ y, y = y1 / 256 := ⟨_, rfl⟩
  obtain ⟨y3, h3⟩ : ∃ y, y = y2 / 256 := ⟨_, rfl⟩
  obtain ⟨y4, h4⟩ : ∃ y, y = y3 / 256 := ⟨_, rfl⟩
  obtain ⟨y5, h5⟩ : ∃ y, y = y4 / 256 := ⟨_, rfl⟩
  obtain ⟨y6, h6⟩ : ∃ y, y = y5 / 256 := ⟨_, rfl⟩
  obtain ⟨y7, h7⟩ : ∃ y, y = y6 / 256 := ⟨_, rfl⟩
  refine ⟨_, _, _, _, _, _, _, _, popF_le 8 (x % 256), popF_le 8 (y1 % 256), popF_le 8 (y2 % 256), popF_le 8 (y3 % 256), popF_le 8 (y4 % 256), popF_le 8 (y5 % 256), popF_le 8 (y6 % 256), popF_le 8 (y7 % 256), ?_, ?_⟩
  · have q0 : popF 64 x = popF 8 (x % 256) + popF 56 y1 := by rw [h1]; exact pop_byte 56 x
    have q1 : popF 56 y1 = popF 8 (y1 % 256) + popF 48 y2 := by rw [h2]; exact pop_byte 48 y1
    have q2 : popF 48 y2 = popF 8 (y2 % 256) + popF 40 y3 := by rw [h3]; exact pop_byte 40 y2
    have q3 : popF 40 y3 = popF 8 (y3 % 256) + popF 32 y4 := by rw [h4]; exact pop_byte 32 y3
    have q4 : popF 32 y4 = popF 8 (y4 % 256) + popF 24 y5 := by rw [h5]; exact pop_byte 24 y4
    have q5 : popF 24 y5 = popF 8 (y5 % 256) + popF 16 y6 := by rw [h6]; exact pop_byte 16 y5
    have q6 : popF 16 y6 = popF 8 (y6 % 256) + popF 8 y7 := by rw [h7]; exact pop_byte 8 y6
    have q7 : popF 8 y7 = popF 8 (y7 % 256) + 0 := pop_byte 0 y7
    rw [q0, q1, q2, q3, q4, q5, q6, q7]
  · rw [bsum_succ 7 x, ← h1, bsum_succ 6 y1, ← h2, bsum_succ 5 y2, ← h3, bsum_succ 4 y3, ← h4, bsum_succ 3 y4, ← h5, bsum_succ 2 y5, ← h6, bsum_succ 1 y6, ← h7, bsum_succ 0 y7, bsum_zero]
theorem sum_end (x : Nat) (s1 s2 s3 : Nat) (e1 : s1 = bsum 8 x + bsum 8 x / 256) (e2 : s2 = s1 + s1 / 65536) (e3 : s3 = s2 + s2 / 4294967296) : s3 < 9223372036854775808 ∧ s3 % 128 = popF 64 x ∧ bsum 8 x < 1000000000000000000 := by
  obtain ⟨p0, p1, p2, p3, p4, p5, p6, p7, h0, h1, h2, h3, h4, h5, h6, h7, hp, hb⟩ := pop64 x
  have hb2 : bsum 8 x = p0 + 256 * (p1 + 256 * (p2 + 256 * (p3 + 256 * (p4 + 256 * (p5 + 256 * (p6 + 256 * p7)))))) := by
    rw [hb]
    clear e1 e2 e3 hp hb
    simp only [Nat.mul_zero, Nat.zero_add, Nat.add_comm, Nat.add_zero]
  have := last p0 p1 p2 p3 p4 p5 p6 p7 h0 h1 h2 h3 h4 h5 h6 h7 (bsum 8 x) s1 s2 s3 hb2 e1 e2 e3
  refine ⟨this.1, ?_, ?_⟩
  · rw [this.2, hp]
    clear this e1 e2 e3 hb hb2 hp
    simp only [Nat.add_assoc, Nat.add_zero]
  · rw [hb2]
    clear this e1 e2 e3 hb hp hb2
    omega

end Go.Proofs.YtkmchnggcjmchaaDoor.Bz
