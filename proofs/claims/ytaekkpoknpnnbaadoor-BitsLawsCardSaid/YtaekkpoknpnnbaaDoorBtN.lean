/- Contract: Compare. -/
import Derived.Test.YtaekkpoknpnnbaaDoorBtL
namespace Go.Proofs.YtaekkpoknpnnbaaDoor
open Go.RowKit Go.PlainAid
set_option linter.unusedVariables false
set_option linter.unusedSimpArgs false
set_option maxHeartbeats 4000000

def cmpL : List Nat → List Nat → Int
  | [], [] => 0
  | [], _ :: _ => -1
  | _ :: _, [] => 1
  | x :: l, y :: r => if x < y then -1 else if y < x then 1 else cmpL l r
theorem cmpL_neg : ∀ l r, cmpL r l = - cmpL l r
  | [], [] => rfl
  | [], _ :: _ => rfl
  | _ :: _, [] => rfl
  | x :: l, y :: r => by
    unfold cmpL
    by_cases h : x < y
    · rw [if_neg (by omega), if_pos h, if_pos h]; rfl
    · by_cases h2 : y < x
      · rw [if_pos h2, if_neg h, if_pos h2]
      · rw [if_neg h2, if_neg h, if_neg h, if_neg h2, cmpL_neg l r]
theorem cmpL_self : ∀ l, cmpL l l = 0
  | [] => rfl
  | x :: l => by unfold cmpL; rw [if_neg (Nat.lt_irrefl _), if_neg (Nat.lt_irrefl _), cmpL_self l]
theorem cmpL_zero : ∀ l r, cmpL l r = 0 → l = r
  | [], [] => fun _ => rfl
  | [], _ :: _ => fun h => by simp [cmpL] at h
  | _ :: _, [] => fun h => by simp [cmpL] at h
  | x :: l, y :: r => fun h => by
    unfold cmpL at h
    by_cases h1 : x < y
    · rw [if_pos h1] at h; simp at h
    · rw [if_neg h1] at h
      by_cases h2 : y < x
      · rw [if_pos h2] at h; simp at h
      · rw [if_neg h2] at h
        rw [cmpL_zero l r h, show x = y by omega]
theorem cmp_at : ∀ {l r : List Nat} {i : Nat}, l.Pairwise (· < ·) → r.Pairwise (· < ·) → (∀ j, j < i → (j ∈ l ↔ j ∈ r)) → i ∈ l → i ∉ r → cmpL l r = if (∃ y ∈ r, i < y) then -1 else 1
  | [], _, _, _, _, _, hi, _ => by simp at hi
  | _ :: _, [], _, _, _, _, _, _ => by simp [cmpL]
  | x :: l, y :: r, i, hl, hr, hlow, hi, hn => by
    obtain ⟨l1, l2⟩ := List.pairwise_cons.1 hl
    obtain ⟨r1, r2⟩ := List.pairwise_cons.1 hr
    have hxi : x ≤ i := by
      rcases List.mem_cons.1 hi with e | e
      · omega
      · have := l1 _ e; omega
    have hyi : y ≠ i := fun e => hn (by simp [e])
    unfold cmpL
    by_cases h1 : x < y
    · rw [if_pos h1]
      have : x = i := by
        rcases Nat.lt_or_ge x i with h | h
        · have h3 := (hlow x h).1 (by simp)
          rcases List.mem_cons.1 h3 with e | e
          · omega
          · have := r1 _ e; omega
        · omega
      rw [if_pos ⟨y, by simp, by omega⟩]
    · rw [if_neg h1]
      by_cases h2 : y < x
      · exfalso
        have h3 := (hlow y (by omega)).2 (by simp)
        rcases List.mem_cons.1 h3 with e | e
        · omega
        · have := l1 _ e; omega
      · rw [if_neg h2]
        have hxy : x = y := by omega
        have hx : x < i := by omega
        have ih := cmp_at (l := l) (r := r) (i := i) l2 r2 (fun j hj => by
          have h3 := hlow j hj
          constructor
          · intro hm
            have := l1 _ hm
            rcases List.mem_cons.1 (h3.1 (by simp [hm])) with e | e
            · omega
            · exact e
          · intro hm
            have := r1 _ hm
            rcases List.mem_cons.1 (h3.2 (by simp [hm])) with e | e
            · omega
            · exact e) (by
          rcases List.mem_cons.1 hi with e | e
          · omega
          · exact e) (fun hm => hn (by simp [hm]))
        rw [ih]
        by_cases hb : ∃ z ∈ r, i < z
        · rw [if_pos hb, if_pos]; obtain ⟨z, hz, h⟩ := hb; exact ⟨z, by simp [hz], h⟩
        · rw [if_neg hb, if_neg]
          rintro ⟨z, hz, h⟩
          rcases List.mem_cons.1 hz with e | e
          · omega
          · exact hb ⟨z, e, h⟩
theorem beyond_iff {l : List Nat} (hl : l.Pairwise (· < ·)) (i : Nat) : (!l.isEmpty && decide ((i : Int) < (l.getLastD 0 : Nat))) = decide (∃ y ∈ l, i < y) := by
  match l, hl with
  | [], _ => simp
  | x :: r, hl =>
    have hne : x :: r ≠ [] := by simp
    have hm : (x :: r).getLastD 0 ∈ x :: r := by
      rw [List.getLastD_eq_getLast?, List.getLast?_eq_some_getLast hne]; exact List.getLast_mem hne
    rw [Bool.eq_iff_iff]
    simp only [List.isEmpty_cons, Bool.not_false, Bool.true_and, decide_eq_true_eq]
    constructor
    · intro h; exact ⟨_, hm, by omega⟩
    · rintro ⟨y, hy, h⟩
      have : y ≤ (x :: r).getLastD 0 := by
        rw [List.getLastD_eq_getLast?, List.getLast?_eq_some_getLast hne]
        show y ≤ (x :: r).getLast hne
        obtain ⟨k, hk, rfl⟩ := List.getElem_of_mem hy
        rw [List.getLast_eq_getElem]
        rcases Nat.lt_or_ge k ((x :: r).length - 1) with hlt | hge
        · exact Nat.le_of_lt (List.pairwise_iff_getElem.1 hl _ _ _ _ hlt)
        · have : k = (x :: r).length - 1 := by omega
          subst this; exact Nat.le_refl _
      omega
theorem differ_at {ws vs l r : List Nat} (h : Rp ws l) (k : Rp vs r) {j : Nat} (hpre : ∀ i, i < j → wd ws i = wd vs i) (hne : wd ws j ^^^ wd vs j ≠ 0) (hlt : wd ws j ^^^ wd vs j < 18446744073709551616) :
    Lib.ctz 64 (wd ws j ^^^ wd vs j) < 64 ∧ (∀ i, i < 64 * j + Lib.ctz 64 (wd ws j ^^^ wd vs j) → (i ∈ l ↔ i ∈ r)) ∧ (64 * j + Lib.ctz 64 (wd ws j ^^^ wd vs j) ∈ l ↔ ¬ 64 * j + Lib.ctz 64 (wd ws j ^^^ wd vs j) ∈ r) := by
  obtain ⟨c1, c2, c3⟩ := ctz_spec hne hlt
  generalize Lib.ctz 64 (wd ws j ^^^ wd vs j) = c at *
  refine ⟨c1, fun i hi => ?_, ?_⟩
  · rw [h.mem_iff, k.mem_iff]
    unfold mem
    by_cases hij : i / 64 < j
    · rw [hpre _ hij]
    · have e : i / 64 = j := by omega
      rw [e]
      have := c3 (i % 64) (by omega)
      rw [Nat.testBit_xor] at this
      have h2 : (wd ws j).testBit (i % 64) = (wd vs j).testBit (i % 64) := by
        revert this; cases (wd ws j).testBit (i % 64) <;> cases (wd vs j).testBit (i % 64) <;> simp
      rw [h2]
  · rw [h.mem_iff, k.mem_iff, mem_at ws j c c1, mem_at vs j c c1]
    rw [Nat.testBit_xor] at c2
    revert c2; cases (wd ws j).testBit c <;> cases (wd vs j).testBit c <;> simp
end Go.Proofs.YtaekkpoknpnnbaaDoor
