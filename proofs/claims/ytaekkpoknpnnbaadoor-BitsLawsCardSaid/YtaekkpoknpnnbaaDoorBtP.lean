/- Plain: the text of a set is taken apart again. -/
import Derived.Lib.AtoiAllCases
import Derived.Lib.Fields
import Derived.Shelf.Strings.FieldsAny
import Derived.Test.YtaekkpoknpnnbaaDoorBtO
namespace Go.Proofs.YtaekkpoknpnnbaaDoor
open Go.RowKit Go.PlainAid
set_option linter.unusedVariables false
set_option linter.unusedSimpArgs false

theorem dec_digit (x : Nat) : ∀ b ∈ Lib.decDigits x, 48 ≤ b.toNat ∧ b.toNat ≤ 57 := by
  induction x using Nat.strongRecOn with
  | _ x ih =>
    intro b hb
    rw [Lib.decDigits] at hb
    by_cases h : x < 10
    · rw [dif_pos h, List.mem_singleton] at hb
      subst hb
      rw [UInt8.toNat_ofNat']; omega
    · rw [dif_neg h, List.mem_append, List.mem_singleton] at hb
      rcases hb with hb | rfl
      · exact ih (x / 10) (by omega) b hb
      · rw [UInt8.toNat_ofNat']; omega
theorem parse_append : ∀ (l r : List UInt8) (acc u : Nat), Lib.parseUint10 acc l = .ok u → Lib.parseUint10 acc (l ++ r) = Lib.parseUint10 u r
  | [], r, acc, u, h => by simp only [Lib.parseUint10, Lib.NumEnd.ok.injEq] at h; rw [h]; rfl
  | c :: l, r, acc, u, h => by
    rw [List.cons_append]
    unfold Lib.parseUint10 at h
    conv => lhs; unfold Lib.parseUint10
    split at h
    · rename_i h1
      split at h
      · cases h
      · rename_i h2
        split at h
        · cases h
        · rename_i h3
          rw [if_pos h1, if_neg h2, if_neg h3]
          exact parse_append l r _ u h
    · cases h
theorem parse_dec (x : Nat) (hx : x < 4096) : Lib.parseUint10 0 (Lib.decDigits x) = .ok x := by
  induction x using Nat.strongRecOn with
  | _ x ih =>
    rw [Lib.decDigits]
    by_cases h : x < 10
    · rw [dif_pos h]
      have e : (UInt8.ofNat (48 + x)).toNat = 48 + x := by rw [UInt8.toNat_ofNat']; omega
      simp only [Lib.parseUint10, e]
      rw [if_pos (by omega), if_neg (by omega), if_neg (by omega)]
      congr 1; omega
    · rw [dif_neg h, parse_append _ _ 0 (x / 10) (ih (x / 10) (by omega) (by omega))]
      have e : (UInt8.ofNat (48 + x % 10)).toNat = 48 + x % 10 := by rw [UInt8.toNat_ofNat']; omega
      simp only [Lib.parseUint10, e]
      rw [if_pos (by omega), if_neg (by omega), if_neg (by omega)]
      congr 1; omega
theorem dec_ne (x : Nat) : Lib.decDigits x ≠ [] := by
  intro e
  have := Lib.nDigits_pos x
  have h := congrArg List.length e
  rw [Lib.decDigits_eq, List.length_map, List.length_range] at h
  simp at h; omega
theorem atoi_dec (x : Nat) (hx : x < 4096) : Lib.atoiAll (Lib.decDigits x) = .ok (x : Int) := by
  have h := parse_dec x hx
  have hd := dec_digit x
  have hne := dec_ne x
  generalize Lib.decDigits x = l at *
  match l, hne with
  | c :: r, _ =>
    have hc := hd c (by simp)
    rw [Lib.atoiAll_plain c r (by omega) (by omega), Lib.parseMag, if_neg (by simp), h, Lib.signless, if_neg (by omega)]
theorem nosp {b : UInt8} (h : 48 ≤ b.toNat ∧ b.toNat ≤ 57) : Lib.isSp b = false := by
  have key : ∀ c : UInt8, c.toNat < 48 → b ≠ c := fun c hc e => by rw [e] at h; omega
  simp [Lib.isSp, key 9 (by decide), key 10 (by decide), key 11 (by decide), key 12 (by decide), key 13 (by decide), key 32 (by decide)]
theorem go_word : ∀ (d : List UInt8) (cur rest : List UInt8), (∀ b ∈ d, Lib.isSp b = false) → Lib.fieldsGo cur (d ++ rest) = Lib.fieldsGo (cur ++ d) rest
  | [], cur, rest, _ => by simp
  | b :: d, cur, rest, h => by
    rw [List.cons_append, Lib.fieldsGo_more _ _ _ (h b (by simp)), go_word d (cur ++ [b]) rest (fun c hc => h c (by simp [hc]))]
    simp
theorem go_dig : ∀ (l : List Nat) (cur : List UInt8), cur ≠ [] → Lib.fieldsGo cur (l.flatMap dig) = cur :: l.map Lib.decDigits
  | [], cur, h => by
    cases cur with
    | nil => exact absurd rfl h
    | cons _ _ => simp [Lib.fieldsGo]
  | x :: r, cur, h => by
    rw [List.flatMap_cons, dig, List.cons_append, Lib.fieldsGo_end cur 32 _ rfl h, go_word _ _ _ (fun b hb => nosp (dec_digit x b hb)), List.nil_append, go_dig r _ (dec_ne x)]
    rfl
theorem fields_join (l : List Nat) : Lib.fields (joinB l) = l.map Lib.decDigits := by
  match l with
  | [] => rfl
  | x :: r =>
    rw [Lib.fields, joinB, List.flatMap_cons, dig, List.cons_append, List.tail_cons, go_word _ _ _ (fun b hb => nosp (dec_digit x b hb)), List.nil_append, go_dig r _ (dec_ne x)]
    rfl
theorem join_ascii (l : List Nat) : ∀ b ∈ joinB l, b.toNat < 128 := by
  intro b hb
  have hb2 := List.mem_of_mem_tail hb
  obtain ⟨x, _, hx⟩ := List.mem_flatMap.1 hb2
  rw [dig, List.mem_cons] at hx
  rcases hx with rfl | hx
  · decide
  · have := dec_digit x b hx; omega
theorem fieldsD_join (l : List Nat) : Lib.fieldsD (joinB l) = l.map Lib.decDigits := by
  rw [Go.Lib.fieldsD_ascii _ (join_ascii l), fields_join]
theorem ofL_self {l : List Nat} (h : Asc l) : ofL (l.map fun x : Nat => (x : Int)) = l :=
  asc_ext (asc_ofL _) h fun x => by
    rw [mem_ofL]
    constructor
    · rintro ⟨_, hx⟩
      obtain ⟨y, hy, e⟩ := List.mem_map.1 hx
      have : y = x := by omega
      exact this ▸ hy
    · intro hx
      exact ⟨h.2 x hx, List.mem_map.2 ⟨x, hx, rfl⟩⟩
end Go.Proofs.YtaekkpoknpnnbaaDoor
