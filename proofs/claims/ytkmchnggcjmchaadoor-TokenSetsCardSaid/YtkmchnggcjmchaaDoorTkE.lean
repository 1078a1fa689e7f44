/- Contracts: token.number at whatever digits; token.Scan. -/
import Derived.Test.YtkmchnggcjmchaaDoorTkC
import Derived.Test.YtkmchnggcjmchaaDoorTkD
namespace Go.Proofs.YtkmchnggcjmchaaDoor
open Go.RowKit Go.PlainAid
set_option linter.unusedVariables false
set_option maxHeartbeats 400000

theorem number_yes (s : ByteArray) (k : Nat) (w : World) (hs : s.size ≤ 4611686018427387904) (hk : k < s.size) (hd : digB (bt s k) = true) (ho : numOk (rest s k) = true) :
    Calls Tryd.prog 27 #[.string s, .int .i64 k] w fun e w' => e = .returned (.tuple #[.agg #[.int .u8 2, .string (s.extract k (k + runL digB (rest s k))), .int .i64 (numV ((rest s k).take (runL digB (rest s k)))), .int .i64 k], .bool true]) ∧ Below w.heap.size w w' := by
  have h1 : 1 ≤ runL digB (rest s k) := by rw [runL_hit digB s k hk hd]; omega
  have h2 := runL_rest_le digB s k
  unfold numOk at ho
  rw [rest_drop, afterB_rest, zeroB_rest s k hk] at ho
  simp only [Bool.not_eq_true', Bool.or_eq_false_iff, decide_eq_false_iff_not, Bool.and_eq_false_iff] at ho
  obtain ⟨⟨h6, hz⟩, ha⟩ := ho
  refine number_ok s k _ w hs (by omega) h1 rfl (by omega) ?_ ?_
  · rcases hz with hz | hz
    · exact .inr (by simpa using hz)
    · exact .inl (by omega)
  · rcases ha with ha | ⟨ha, hb⟩
    · exact .inl (by omega)
    · by_cases hlt : k + runL digB (rest s k) < s.size
      · exact .inr ⟨hlt, ha, by simpa using hb⟩
      · exact .inl (by omega)

theorem number_no (s : ByteArray) (k : Nat) (w : World) (hs : s.size ≤ 4611686018427387904) (hk : k < s.size) (hd : digB (bt s k) = true) (ho : numOk (rest s k) = false) :
    Calls Tryd.prog 27 #[.string s, .int .i64 k] w fun e w' => e = .returned (.tuple #[.agg #[.int .u8 0, .string ⟨#[]⟩, .int .i64 0, .int .i64 0], .bool false]) ∧ Below w.heap.size w w' := by
  have h1 : 1 ≤ runL digB (rest s k) := by rw [runL_hit digB s k hk hd]; omega
  have h2 := runL_rest_le digB s k
  unfold numOk at ho
  rw [rest_drop, afterB_rest, zeroB_rest s k hk] at ho
  simp only [Bool.not_eq_false', Bool.or_eq_true, decide_eq_true_eq, Bool.and_eq_true] at ho
  refine number_bad s k _ w hs (by omega) h1 rfl ?_
  by_cases h7 : 7 ≤ runL digB (rest s k)
  · exact .inl h7
  by_cases hz : 2 ≤ runL digB (rest s k) ∧ bt s k = 48
  · exact .inr (.inl ⟨hz.1, by omega, by simpa using hz.2⟩)
  rcases ho with (ho | ho) | ho
  · omega
  · exact absurd ⟨by omega, ho.1⟩ hz
  · refine .inr (.inr ⟨by omega, ?_, ho.1, ?_⟩)
    · by_cases h2 : runL digB (rest s k) ≤ 1
      · exact .inl h2
      · exact .inr (by simp; intro h; exact hz ⟨by omega, h⟩)
    · by_cases hl : letB (bt s (k + runL digB (rest s k))) = true
      · exact .inl hl
      · have hl' : letB (bt s (k + runL digB (rest s k))) = false := by simpa using hl
        exact .inr ⟨hl', by rcases ho.2 with h | h; exact absurd h hl; simpa using h⟩

theorem symbol_yes (s : ByteArray) (k : Nat) (x : List UInt8) (w : World) (hs : s.size ≤ 4611686018427387904) (hk : k ≤ s.size) (hx : symL (rest s k) = some x) :
    Calls Tryd.prog 28 #[.string s, .int .i64 k] w fun e w' => e = .returned (.tuple #[.agg #[.int .u8 3, .string ⟨x.toArray⟩, .int .i64 0, .int .i64 k], .bool true]) ∧ Below w.heap.size w w' :=
  (symbol_any s k w hs hk).mono fun e w' ⟨h, hb⟩ => by
    rcases h with ⟨y, hy, rfl⟩ | ⟨hy, rfl⟩
    · rw [hx] at hy; cases hy; exact ⟨rfl, hb⟩
    · rw [hx] at hy; cases hy
theorem symbol_no (s : ByteArray) (k : Nat) (w : World) (hs : s.size ≤ 4611686018427387904) (hk : k ≤ s.size) (hx : symL (rest s k) = none) :
    Calls Tryd.prog 28 #[.string s, .int .i64 k] w fun e w' => e = .returned (.tuple #[.agg #[.int .u8 0, .string ⟨#[]⟩, .int .i64 0, .int .i64 0], .bool false]) ∧ Below w.heap.size w w' :=
  (symbol_any s k w hs hk).mono fun e w' ⟨h, hb⟩ => by
    rcases h with ⟨y, hy, rfl⟩ | ⟨hy, rfl⟩
    · rw [hx] at hy; cases hy
    · exact ⟨rfl, hb⟩

end Go.Proofs.YtkmchnggcjmchaaDoor
