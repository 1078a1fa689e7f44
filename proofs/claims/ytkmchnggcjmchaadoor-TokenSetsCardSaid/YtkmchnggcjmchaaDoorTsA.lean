/- Plain: the text of a set of numbers, with blanks or commas, is scanned as its numbers. -/
import Derived.Test.YtkmchnggcjmchaaDoorBtL
import Derived.Test.YtkmchnggcjmchaaDoorTkF
import Derived.Test.YtkmchnggcjmchaaDoorTkS
import Derived.Lib.Replace
import Derived.Lib.SlTrimSet
namespace Go.Proofs.YtkmchnggcjmchaaDoor.Ts
open Go.RowKit Go.PlainAid Go.Proofs.YtkmchnggcjmchaaDoor Go.Proofs.YtkmchnggcjmchaaDoor.Bz
set_option linter.unusedVariables false
set_option linter.unusedSimpArgs false

def tl (c : UInt8) (r : List Nat) : List UInt8 := r.flatMap fun y => c :: Lib.decDigits y
/-- The numbers, with c between them. -/
def jn (c : UInt8) : List Nat → List UInt8
  | [] => []
  | x :: r => Lib.decDigits x ++ tl c r
theorem jn_join (l : List Nat) : joinB l = jn 32 l := by
  cases l with
  | nil => rfl
  | cons x r => simp [joinB, dig, jn, tl]; rfl
theorem tl_cons (c : UInt8) (y : Nat) (r : List Nat) : tl c (y :: r) = c :: jn c (y :: r) := by simp [tl, jn]
theorem dec_dig (x : Nat) : ∀ b ∈ Lib.decDigits x, 48 ≤ b.toNat ∧ b.toNat ≤ 57 := by
  induction x using Nat.strongRecOn with
  | _ x ih =>
    intro b hb
    rw [Lib.decDigits] at hb
    by_cases h : x < 10
    · rw [dif_pos h, List.mem_singleton] at hb
      subst hb
      rw [UInt8.toNat_ofNat']; omega
    · rw [dif_neg h, List.mem_append, List.mem_singleton] at hb
      rcases hb with hb | rfl
      · exact ih (x / 10) (by omega) b hb
      · rw [UInt8.toNat_ofNat']; omega
theorem dec_cut (n : Nat) (h : ¬ n < 10) : Lib.decDigits n = Lib.decDigits (n / 10) ++ [UInt8.ofNat (48 + n % 10)] := by
  conv => lhs; rw [Lib.decDigits]
  rw [dif_neg h]
theorem dec_val (x : Nat) : numV (Lib.decDigits x) = x := by
  induction x using Nat.strongRecOn with
  | _ x ih =>
    by_cases h : x < 10
    · rw [Lib.decDigits_one h]
      show 10 * 0 + ((UInt8.ofNat (48 + x)).toNat - 48) = x
      rw [UInt8.toNat_ofNat']; omega
    · have e : numV (Lib.decDigits (x / 10) ++ [UInt8.ofNat (48 + x % 10)]) = 10 * numV (Lib.decDigits (x / 10)) + ((UInt8.ofNat (48 + x % 10)).toNat - 48) := by
        unfold numV; rw [List.foldl_append]; rfl
      rw [dec_cut x h, e, ih (x / 10) (by omega), UInt8.toNat_ofNat']
      omega
/-- The first digit is no zero, but that of 0. -/
theorem dec_zero (x : Nat) : ∃ b r, Lib.decDigits x = b :: r ∧ (10 ≤ x → b.toNat ≠ 48) ∧ (x < 10 → r = []) := by
  induction x using Nat.strongRecOn with
  | _ x ih =>
    by_cases h : x < 10
    · exact ⟨_, [], Lib.decDigits_one h, fun h2 => by omega, fun _ => rfl⟩
    · obtain ⟨b, r, e, h1, h2⟩ := ih (x / 10) (by omega)
      refine ⟨b, r ++ [UInt8.ofNat (48 + x % 10)], by rw [dec_cut x h, e]; rfl, fun _ => ?_, fun h3 => absurd h3 h⟩
      by_cases h10 : 10 ≤ x / 10
      · exact h1 h10
      · have h4 := Lib.decDigits_one (i := x / 10) (by omega)
        rw [e] at h4
        injection h4 with h4 _
        rw [h4, UInt8.toNat_ofNat']; omega
theorem runL_word (p : Int → Bool) : ∀ (l r : List UInt8), (∀ b ∈ l, p b.toNat = true) → (r = [] ∨ ∃ c t, r = c :: t ∧ p c.toNat = false) → runL p (l ++ r) = l.length
  | [], r, _, h => by
    rcases h with rfl | ⟨c, t, rfl, h⟩
    · rfl
    · show (if p c.toNat then _ else 0) = 0
      rw [h]; rfl
  | b :: l, r, hl, h => by
    show (if p b.toNat then runL p (l ++ r) + 1 else 0) = _
    rw [hl b (by simp), runL_word p l r (fun x hx => hl x (by simp [hx])) h]; rfl
theorem dig_true {b : UInt8} (h : 48 ≤ b.toNat ∧ b.toNat ≤ 57) : digB b.toNat = true := by
  unfold digB; simp; omega
theorem let_false {b : UInt8} (h : 48 ≤ b.toNat ∧ b.toNat ≤ 57) : letB b.toNat = false := by
  unfold letB; simp; omega
/-- What may stand behind a number here: nothing, a blank or a comma. -/
def Aft (r : List UInt8) : Prop := r = [] ∨ ∃ t, r = 32 :: t ∨ r = 44 :: t
theorem tok_num (x : Nat) (hx : x < 4096) (r : List UInt8) (h : Aft r) : tokL (Lib.decDigits x ++ r) = some (2, Lib.decDigits x, x) := by
  have hd := dec_dig x
  have hr : runL digB (Lib.decDigits x ++ r) = (Lib.decDigits x).length := by
    refine runL_word _ _ _ (fun b hb => dig_true (hd b hb)) ?_
    rcases h with h | ⟨t, h | h⟩
    · exact .inl h
    · exact .inr ⟨_, _, h, by decide⟩
    · exact .inr ⟨_, _, h, by decide⟩
  have ha : afterB r = false := by
    rcases h with rfl | ⟨t, rfl | rfl⟩ <;> rfl
  have hs := (dec_small x hx).2
  obtain ⟨b, q, e, hb1, hb2⟩ := dec_zero x
  have hv := dec_val x
  have ht : (Lib.decDigits x ++ r).take (Lib.decDigits x).length = Lib.decDigits x := List.take_left' rfl
  have hdr : (Lib.decDigits x ++ r).drop (Lib.decDigits x).length = r := List.drop_left' rfl
  have hb := hd b (by rw [e]; simp)
  have hok : numOk (Lib.decDigits x ++ r) = true := by
    unfold numOk
    rw [hr, hdr, ha]
    have h6 : decide (6 < (Lib.decDigits x).length) = false := decide_eq_false (by omega)
    rw [h6]
    by_cases h10 : x < 10
    · have : (Lib.decDigits x).length = 1 := by rw [e, hb2 h10]; rfl
      rw [this]; simp
    · have : zeroB (Lib.decDigits x ++ r) = false := by
        rw [e]
        show decide ((b.toNat : Int) = 48) = false
        exact decide_eq_false (by have := hb1 (by omega); omega)
      rw [this]; rfl
  generalize hD : Lib.decDigits x = D at *
  rw [e] at hr ht hok ⊢
  rw [List.cons_append] at *
  unfold tokL
  dsimp only
  rw [let_false hb, dig_true hb]
  simp only [Bool.false_eq_true, if_false, if_true]
  rw [hok]
  simp only [if_true]
  rw [hr, ht, ← e, hv]
theorem tok_comma (r : List UInt8) : tokL (44 :: r) = some (3, [44], 0) := by
  unfold tokL
  dsimp only
  have h1 : letB ((44 : UInt8).toNat : Int) = false := by decide
  have h2 : digB ((44 : UInt8).toNat : Int) = false := by decide
  rw [h1, h2]
  simp only [Bool.false_eq_true, if_false]
  have h3 : symL (44 :: r) = some [44] := by
    unfold symL syms
    simp [List.find?, List.isPrefixOf]
  rw [h3]; rfl
theorem skip_dig {b : UInt8} {r : List UInt8} (h : 48 ≤ b.toNat ∧ b.toNat ≤ 57) : skipL false (b :: r) = 0 := by
  show (if false = true then _ else if blkB b.toNat then _ else if (b.toNat : Int) = 35 then _ else 0) = 0
  have h1 : blkB b.toNat = false := by unfold blkB; simp; omega
  rw [h1]
  simp only [Bool.false_eq_true, if_false]
  rw [if_neg (by omega)]
theorem skip_jn (c : UInt8) (l : List Nat) : skipL false (jn c l) = 0 := by
  cases l with
  | nil => rfl
  | cons x r =>
    obtain ⟨b, q, e, _, _⟩ := dec_zero x
    have hb := dec_dig x b (by rw [e]; simp)
    show skipL false (Lib.decDigits x ++ tl c r) = 0
    rw [e]; exact skip_dig hb
/-- The tokens' kinds, texts and numbers. -/
def plainL (c : Bool) : List Nat → List (Nat × List UInt8 × Nat)
  | [] => [(0, [], 0)]
  | [x] => [(2, Lib.decDigits x, x), (0, [], 0)]
  | x :: y :: r => (2, Lib.decDigits x, x) :: (if c then (3, [44], 0) :: plainL c (y :: r) else plainL c (y :: r))
def pT (t : Tok) : Nat × List UInt8 × Nat := (t.kind, t.text, t.n)
def sepC (c : Bool) : UInt8 := if c then 44 else 32
theorem scan_step {f a : Nat} {l t : List UInt8} {kd n : Nat} (hl : l ≠ []) (ht : tokL l = some (kd, t, n)) :
    scanA (f + 1) a l = (⟨kd, t, n, a⟩ :: (scanA f (a + (t.length + skipL false (l.drop t.length))) (l.drop (t.length + skipL false (l.drop t.length)))).1, (scanA f (a + (t.length + skipL false (l.drop t.length))) (l.drop (t.length + skipL false (l.drop t.length)))).2) := by
  cases l with
  | nil => exact absurd rfl hl
  | cons c r =>
    conv => lhs; unfold scanA
    simp only [ht]
theorem scan_jn (c : Bool) : ∀ (l : List Nat) (f a : Nat), (∀ x ∈ l, x < 4096) → 2 * l.length ≤ f → 1 ≤ f → (scanA f a (jn (sepC c) l)).2 = (0, 0) ∧ (scanA f a (jn (sepC c) l)).1.map pT = plainL c l
  | [], f, a, _, _, hf => by
    obtain ⟨f, rfl⟩ : ∃ k, f = k + 1 := ⟨f - 1, by omega⟩
    exact ⟨rfl, rfl⟩
  | [x], f, a, hx, hf, _ => by
    obtain ⟨f, rfl⟩ : ∃ k, f = k + 1 + 1 := ⟨f - 2, by simp at hf; omega⟩
    have ht := tok_num x (hx x (by simp)) [] (.inl rfl)
    have e : jn (sepC c) [x] = Lib.decDigits x ++ [] := by simp [jn, tl]
    have hne : Lib.decDigits x ++ [] ≠ [] := by
      obtain ⟨b, q, e, _, _⟩ := dec_zero x
      rw [e]; simp
    rw [e, scan_step hne ht]
    have hd : (Lib.decDigits x ++ []).drop (Lib.decDigits x).length = [] := by simp
    rw [hd]
    have hs : skipL false [] = 0 := rfl
    rw [hs]
    simp only [Nat.add_zero]
    rw [hd]
    exact ⟨rfl, rfl⟩
  | x :: y :: r, f, a, hx, hf, _ => by
    have hlen : (x :: y :: r).length = (y :: r).length + 1 := rfl
    rw [hlen] at hf
    have hyr : 1 ≤ (y :: r).length := by simp
    obtain ⟨f, rfl⟩ : ∃ k, f = k + 1 := ⟨f - 1, by omega⟩
    have e : jn (sepC c) (x :: y :: r) = Lib.decDigits x ++ sepC c :: jn (sepC c) (y :: r) := by
      show Lib.decDigits x ++ tl (sepC c) (y :: r) = _
      rw [tl_cons]
    have haf : Aft (sepC c :: jn (sepC c) (y :: r)) := by
      cases c
      · exact .inr ⟨_, .inl rfl⟩
      · exact .inr ⟨_, .inr rfl⟩
    have ht := tok_num x (hx x (by simp)) _ haf
    have hne : Lib.decDigits x ++ sepC c :: jn (sepC c) (y :: r) ≠ [] := by simp
    have hd : (Lib.decDigits x ++ sepC c :: jn (sepC c) (y :: r)).drop (Lib.decDigits x).length = sepC c :: jn (sepC c) (y :: r) := List.drop_left' rfl
    rw [e, scan_step hne ht, hd]
    cases c with
    | false =>
      have hs : skipL false (sepC false :: jn (sepC false) (y :: r)) = 1 := by
        show skipL false (jn 32 (y :: r)) + 1 = 1
        rw [skip_jn]
      rw [hs, ← List.drop_drop, hd, List.drop_succ_cons, List.drop_zero]
      have ih := scan_jn false (y :: r) f (a + ((Lib.decDigits x).length + 1)) (fun z hz => hx z (by simp [hz])) (by omega) (by omega)
      exact ⟨ih.1, by rw [List.map_cons, ih.2]; rfl⟩
    | true =>
      have hs : skipL false (sepC true :: jn (sepC true) (y :: r)) = 0 := by
        show (if false = true then _ else if blkB ((44 : UInt8).toNat : Int) then _ else if ((44 : UInt8).toNat : Int) = 35 then _ else 0) = 0
        rw [show blkB ((44 : UInt8).toNat : Int) = false from by decide]
        rfl
      rw [hs]
      simp only [Nat.add_zero]
      rw [hd]
      obtain ⟨f, rfl⟩ : ∃ k, f = k + 1 := ⟨f - 1, by omega⟩
      have hs2 : skipL false ((44 :: jn 44 (y :: r)).drop [(44 : UInt8)].length) = 0 := by
        show skipL false (jn 44 (y :: r)) = 0
        exact skip_jn _ _
      have hst := scan_step (f := f) (a := a + (Lib.decDigits x).length) (l := 44 :: jn 44 (y :: r)) (by simp) (tok_comma (jn 44 (y :: r)))
      rw [hs2] at hst
      have ih := scan_jn true (y :: r) f (a + (Lib.decDigits x).length + ([(44 : UInt8)].length + 0)) (fun z hz => hx z (by simp [hz])) (by omega) (by omega)
      have e44 : sepC true = 44 := rfl
      rw [e44] at ih ⊢
      rw [hst]
      refine ⟨ih.1, ?_⟩
      have h2 := ih.2
      show _ :: _ :: _ = _
      rw [show (44 :: jn 44 (y :: r)).drop ([(44 : UInt8)].length + 0) = jn 44 (y :: r) from rfl, h2]
      rfl
end Go.Proofs.YtkmchnggcjmchaaDoor.Ts
