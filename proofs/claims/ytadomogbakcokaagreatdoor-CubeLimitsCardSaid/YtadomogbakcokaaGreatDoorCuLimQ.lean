/- The plain law of CubeLimits: n cubes of two literals each split the full cube into 2 to the power of n cubes. No program in sight. -/
import Derived.Test.YtadomogbakcokaaGreatDoorQgg
namespace Go.Proofs.YtadomogbakcokaaGreatDoor
open Go.RowKit Go.PlainAid
set_option linter.unusedVariables false

def pairC (i : Nat) : Cu := ([2 * i, 2 * i + 1], [])
def limL (n : Nat) : List Cu := (List.range n).map pairC
def UpC (k : Nat) (x : Cu) : Prop := CuOk x ∧ emptyC x = false ∧ (∀ y ∈ x.1, y < k) ∧ ∀ y ∈ x.2, y < k
theorem pairC_ok {i : Nat} (hi : i < 100) : CuOk (pairC i) := by
  refine ⟨⟨?_, fun x hx => ?_⟩, ⟨List.Pairwise.nil, fun x hx => by cases hx⟩⟩
  · show [2 * i, 2 * i + 1].Pairwise (· < ·)
    simp
  · have hx : x ∈ [2 * i, 2 * i + 1] := hx
    simp at hx; omega
theorem pair_or {i : Nat} (hi : i < 100) : orL (pairC i).1 (pairC i).2 = [2 * i, 2 * i + 1] := by
  refine asc_ext (asc_or _ _) (pairC_ok hi).1 fun x => ?_
  rw [mem_or]
  show x < 4096 ∧ (x ∈ [2 * i, 2 * i + 1] ∨ x ∈ ([] : List Nat)) ↔ x ∈ [2 * i, 2 * i + 1]
  simp
  omega
theorem minus_pair {x : Cu} {i : Nat} (hi : i < 100) (h : UpC (2 * i) x) : minusC x (pairC i) = [(x.1, withL x.2 (2 * i : Nat)), (withL x.1 (2 * i : Nat), withL x.2 (2 * i + 1 : Nat))] := by
  obtain ⟨⟨ha1, ha2⟩, he, h1, h2⟩ := h
  have hb : emptyC (bothC x (pairC i)) = false := by
    have he' := he
    unfold emptyC at he' ⊢
    rw [meetB_not] at he' ⊢
    intro y y1 y2
    rcases (mem_b2.1 y2).2 with y2 | y2
    · rcases (mem_b1.1 y1).2 with y1 | y1
      · exact he' y y1 y2
      · have y1 : y ∈ [2 * i, 2 * i + 1] := y1
        have := h2 y y2
        simp at y1; omega
    · cases y2
  unfold minusC
  rw [if_neg (by rw [he]; decide), if_neg (by rw [hb]; decide), pair_or hi]
  have n1 : 2 * i ∉ x.1 := fun hx => by have := h1 _ hx; omega
  have n2 : 2 * i + 1 ∉ withL x.1 (2 * i : Nat) := fun hx => by
    rw [mem_with (by omega) ha1] at hx
    rcases hx with hx | hx
    · have := h1 _ hx; omega
    · omega
  have m1 : 2 * i ∈ (pairC i).1 := by show 2 * i ∈ [2 * i, 2 * i + 1]; simp
  have m2 : 2 * i + 1 ∈ (pairC i).1 := by show 2 * i + 1 ∈ [2 * i, 2 * i + 1]; simp
  have e1 : minusGo (pairC i) (x, []) (2 * i) = ((withL x.1 (2 * i : Nat), x.2), [(x.1, withL x.2 (2 * i : Nat))]) := by
    unfold minusGo
    rw [if_pos (by rw [decide_eq_true m1, decide_eq_false n1]; rfl)]; rfl
  have e2 : minusGo (pairC i) ((withL x.1 (2 * i : Nat), x.2), [(x.1, withL x.2 (2 * i : Nat))]) (2 * i + 1) = ((withL (withL x.1 (2 * i : Nat)) (2 * i + 1 : Nat), x.2), [(x.1, withL x.2 (2 * i : Nat)), (withL x.1 (2 * i : Nat), withL x.2 (2 * i + 1 : Nat))]) := by
    unfold minusGo
    rw [if_pos (by rw [decide_eq_true m2, decide_eq_false n2]; rfl)]; rfl
  rw [List.foldl_cons, e1, List.foldl_cons, e2, List.foldl_nil]
theorem up_pair {x : Cu} {i : Nat} (hi : i < 100) (h : UpC (2 * i) x) : ∀ y ∈ minusC x (pairC i), UpC (2 * (i + 1)) y := by
  have hm := (minus_law h.1 (pairC_ok hi)).1
  intro y hy
  have hy' := hm y hy
  rw [minus_pair hi h] at hy
  obtain ⟨⟨ha1, ha2⟩, he, h1, h2⟩ := h
  have w1 : ∀ z, z ∈ withL x.1 (2 * i : Nat) → z < 2 * (i + 1) := fun z hz => by
    rw [mem_with (by omega) ha1] at hz
    rcases hz with hz | hz
    · have := h1 _ hz; omega
    · omega
  have w2 : ∀ z, z ∈ withL x.2 (2 * i : Nat) → z < 2 * (i + 1) := fun z hz => by
    rw [mem_with (by omega) ha2] at hz
    rcases hz with hz | hz
    · have := h2 _ hz; omega
    · omega
  have w3 : ∀ z, z ∈ withL x.2 (2 * i + 1 : Nat) → z < 2 * (i + 1) := fun z hz => by
    rw [mem_with (by omega) ha2] at hz
    rcases hz with hz | hz
    · have := h2 _ hz; omega
    · omega
  refine ⟨hy'.1, hy'.2.1, ?_⟩
  rcases List.mem_cons.1 hy with rfl | hy
  · exact ⟨fun z hz => by have := h1 _ hz; omega, w2⟩
  · rw [List.mem_singleton] at hy
    rw [hy]
    refine ⟨fun z hz => w1 z hz, fun z hz => ?_⟩
    dsimp only at hz
    exact w3 z hz
theorem flat_pair {i : Nat} (hi : i < 100) : ∀ out : List Cu, (∀ x ∈ out, UpC (2 * i) x) → (out.flatMap fun x => minusC x (pairC i)).length = 2 * out.length ∧ ∀ y ∈ out.flatMap fun x => minusC x (pairC i), UpC (2 * (i + 1)) y
  | [], _ => ⟨rfl, fun y hy => by cases hy⟩
  | x :: out, h => by
    obtain ⟨i1, i2⟩ := flat_pair hi out (fun y hy => h y (by simp [hy]))
    have hx := h x (by simp)
    rw [List.flatMap_cons]
    refine ⟨?_, fun y hy => ?_⟩
    · rw [List.length_append, i1, minus_pair hi hx]; simp; omega
    · rcases List.mem_append.1 hy with hy | hy
      · exact up_pair hi hx y hy
      · exact i2 y hy
theorem split_pairs : ∀ (k i : Nat) (out : List Cu), i + k < 100 → 2 ^ i ≤ 2000 → (∀ x ∈ out, UpC (2 * i) x) → out.length = 2 ^ i →
    (2000 < 2 ^ (i + k) → splitGo out ((List.range' i k).map pairC) = none) ∧ (2 ^ (i + k) ≤ 2000 → ∃ got, splitGo out ((List.range' i k).map pairC) = some got ∧ got.length = 2 ^ (i + k))
  | 0, i, out, _, hs, _, hl => by
    rw [Nat.add_zero]
    refine ⟨fun h => absurd h (by omega), fun _ => ⟨out, ?_, hl⟩⟩
    simp [splitGo]
  | k + 1, i, out, hk, hs, hu, hl => by
    obtain ⟨f1, f2⟩ := flat_pair (i := i) (by omega) out hu
    rw [hl, ← Nat.pow_succ'] at f1
    have e : (List.range' i (k + 1)).map pairC = pairC i :: (List.range' (i + 1) k).map pairC := by
      rw [List.range'_succ]; rfl
    rw [e]
    have hpw : 2 ^ (i + 1) ≤ 2 ^ (i + (k + 1)) := Nat.pow_le_pow_right (by omega) (by omega)
    unfold splitGo
    rw [f1]
    by_cases hc : 2000 < 2 ^ (i + 1)
    · rw [if_pos hc]
      exact ⟨fun _ => rfl, fun h => absurd (Nat.le_trans hpw h) (by omega)⟩
    · rw [if_neg hc]
      have ih := split_pairs k (i + 1) _ (by omega) (by omega) f2 f1
      rw [show i + 1 + k = i + (k + 1) by omega] at ih
      exact ih
theorem split_lim {n : Nat} (hn : n < 100) : (2000 < 2 ^ n → splitC ([], []) (limL n) = none) ∧ (2 ^ n ≤ 2000 → ∃ got, splitC ([], []) (limL n) = some got ∧ got.length = 2 ^ n) := by
  have h := split_pairs n 0 [([], [])] (by omega) (by decide) (fun x hx => by
    rw [List.mem_singleton] at hx
    subst hx
    exact ⟨⟨⟨List.Pairwise.nil, fun y hy => by cases hy⟩, ⟨List.Pairwise.nil, fun y hy => by cases hy⟩⟩, by decide, (fun y hy => by cases hy), (fun y hy => by cases hy)⟩) rfl
  rw [Nat.zero_add, ← List.range_eq_range'] at h
  have he : emptyC ([], []) = false := by decide
  unfold splitC
  rw [he, if_neg (by decide)]
  exact h
theorem limL_ok {n : Nat} (hn : n < 100) : ∀ x ∈ limL n, CuOk x := by
  intro x hx
  unfold limL at hx
  obtain ⟨i, hi, rfl⟩ := List.mem_map.1 hx
  exact pairC_ok (by simp at hi; omega)
theorem covered_lim {n : Nat} (hn : n < 100) : coveredC (limL n) ([], []) = false := by
  rw [← Bool.not_eq_true, covered_law (limL n) ([], []) ⟨⟨List.Pairwise.nil, fun y hy => by cases hy⟩, ⟨List.Pairwise.nil, fun y hy => by cases hy⟩⟩ (limL_ok hn)]
  intro h
  have := h (fun _ => false) (by decide)
  unfold sats limL at this
  rw [List.any_eq_true] at this
  obtain ⟨c, hc, hs⟩ := this
  obtain ⟨i, hi, rfl⟩ := List.mem_map.1 hc
  rw [sat_iff] at hs
  have := hs.1 (2 * i) (by show 2 * i ∈ [2 * i, 2 * i + 1]; simp)
  cases this
end Go.Proofs.YtadomogbakcokaaGreatDoor
