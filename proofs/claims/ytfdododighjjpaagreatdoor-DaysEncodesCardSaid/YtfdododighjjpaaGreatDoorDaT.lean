/- The text of a set of days, in plain words. No program in sight. -/
import Derived.Test.YtfdododighjjpaaGreatDoorDaB
import Derived.Lib.ItoaNum
import Derived.Lib.ItoaMem
import Derived.Lib.ItoaLen
import Derived.Lib.Join
namespace Go.Proofs.YtfdododighjjpaaGreatDoor.Dy
set_option linter.unusedVariables false

def spanT (p : Int × Int) : List UInt8 := if p.1 = p.2 then Lib.itoa p.1 else if p.2 = 30000 then Lib.itoa p.1 ++ [45] else Lib.itoa p.1 ++ [45] ++ Lib.itoa p.2
def noneT : List UInt8 := [110, 111, 110, 101]
def allT : List UInt8 := [97, 108, 108]
def textL (l : List (Int × Int)) : List UInt8 := if l = [] then noneT else if lenD l = 30001 then allT else Lib.join (l.map spanT) [44]
theorem dec_day (x : Nat) (h : x ≤ 30000) : 1 ≤ (Lib.decDigits x).length ∧ (Lib.decDigits x).length ≤ 5 := by
  rw [Lib.decDigits_length]
  refine ⟨Lib.nDigits_pos x, ?_⟩
  by_cases h1 : x < 10
  · rw [Lib.nDigits_small h1]; omega
  · rw [Lib.nDigits_big h1]
    by_cases h2 : x / 10 < 10
    · rw [Lib.nDigits_small h2]; omega
    · rw [Lib.nDigits_big h2]
      by_cases h3 : x / 10 / 10 < 10
      · rw [Lib.nDigits_small h3]; omega
      · rw [Lib.nDigits_big h3]
        by_cases h4 : x / 10 / 10 / 10 < 10
        · rw [Lib.nDigits_small h4]; omega
        · rw [Lib.nDigits_big h4, Lib.nDigits_small (by omega)]; omega
theorem itoa_day {z : Int} (h0 : 0 ≤ z) (h1 : z ≤ 30000) : 1 ≤ (Lib.itoa z).length ∧ (Lib.itoa z).length ≤ 5 := by
  obtain ⟨x, rfl⟩ : ∃ x : Nat, z = x := ⟨z.toNat, by omega⟩
  rw [Lib.itoa_nonneg]; exact dec_day x (by omega)
theorem spanT_len {p : Int × Int} (h : Okp p) : 1 ≤ (spanT p).length ∧ (spanT p).length ≤ 11 := by
  unfold Okp at h
  have h1 := itoa_day (z := p.1) (by omega) (by omega)
  have h2 := itoa_day (z := p.2) (by omega) (by omega)
  unfold spanT
  split
  · omega
  · split <;> simp <;> omega
theorem lens_le : ∀ (l : List (Int × Int)), (∀ x ∈ l, Okp x) → Lib.lens (l.map spanT) ≤ 11 * l.length
  | [], _ => by simp [Lib.lens]
  | x :: l, h => by
    have h1 := lens_le l (fun z hz => h z (List.mem_cons_of_mem _ hz))
    have h2 := (spanT_len (h x (by simp))).2
    simp [Lib.lens] at h1 ⊢
    omega
theorem joinT_len (l : List (Int × Int)) (h : ∀ x ∈ l, Okp x) : (Lib.join (l.map spanT) [44]).length ≤ 12 * l.length := by
  cases l with
  | nil => simp [Lib.join_nil]
  | cons x l =>
    have h1 := lens_le (x :: l) h
    rw [List.map_cons, Lib.join_length]
    rw [List.map_cons] at h1
    simp at h1 ⊢
    omega
theorem textL_len {l : List (Int × Int)} (h : Can l) : (textL l).length ≤ 180012 := by
  unfold textL
  have h1 := joinT_len l h.1
  have h2 := can_len h
  split
  · decide
  · split
    · decide
    · omega

theorem can_a : Can [((3 : Int), (8 : Int)), (10, 10), (20, 30000)] := ⟨by unfold Okp; decide, by decide⟩
theorem can_b : Can [((0 : Int), (2 : Int)), (9, 9), (11, 19)] := ⟨by unfold Okp; decide, by decide⟩
theorem can_c : Can [((30000 : Int), (30000 : Int))] := ⟨by unfold Okp; decide, by decide⟩
theorem i1 (n : Nat) (h : n < 10) : Lib.itoa (n : Int) = [UInt8.ofNat (48 + n)] := by rw [Lib.itoa_nonneg, Lib.decDigits_one h]
theorem i2 (n : Nat) (h1 : ¬ n < 10) (h : n < 100) : Lib.itoa (n : Int) = [UInt8.ofNat (48 + n / 10), UInt8.ofNat (48 + n % 10)] := by rw [Lib.itoa_nonneg, Lib.decDigits_two h1 h]
theorem i5 : Lib.itoa (30000 : Int) = [51, 48, 48, 48, 48] := by decide +kernel
theorem text_a : textL [(3, 8), (10, 10), (20, 30000)] = [51, 45, 56, 44, 49, 48, 44, 50, 48, 45] := by decide +kernel
theorem text_b : textL [(0, 2), (9, 9), (11, 19)] = [48, 45, 50, 44, 57, 44, 49, 49, 45, 49, 57] := by decide +kernel
theorem text_c : textL [(30000, 30000)] = [51, 48, 48, 48, 48] := by decide +kernel
end Go.Proofs.YtfdododighjjpaaGreatDoor.Dy
