/- Several of the texts below, joined: TkSpec TkA TkB Mem TkC. -/
import Derived.Handy
import Derived.PlainAid
import Derived.Lib.Hide
import Derived.Test.YtfjpbkmnlmecgaaGreatDoorProg
import Derived.BigGuardPart
import Derived.Lib.Strings
import Derived.WalkSmall
import Derived.WalkSpells
import Derived.WalkLawsBesides
section
/- The plain specification of the scanner: lists of bytes and numbers; no program in sight. -/
namespace Go.Proofs.YtfjpbkmnlmecgaaGreatDoor
open Go.RowKit Go.PlainAid
set_option linter.unusedVariables false

theorem ret_bool {a b : Bool} (h : a = b) : Ending.returned (.bool a) = .returned (.bool b) := by rw [h]
theorem ret_int {k : IntKind} {a b : Int} (h : a = b) : Ending.returned (.int k a) = .returned (.int k b) := by rw [h]

def letB (c : Int) : Bool := decide (97 ≤ c) && decide (c ≤ 122)
def digB (c : Int) : Bool := decide (48 ≤ c) && decide (c ≤ 57)
def innB (c : Int) : Bool := letB c || digB c || decide (c = 95)
def nlB (c : Int) : Bool := !decide (c = 10)
def blkB (c : Int) : Bool := decide (c = 32) || decide (c = 9) || decide (c = 10) || decide (c = 13)

/-- How many bytes from the head on satisfy p. -/
def runL (p : Int → Bool) : List UInt8 → Nat
  | [] => 0
  | c :: r => if p c.toNat then runL p r + 1 else 0

/-- How many bytes at the head are blanks and comments; inC: within a comment. -/
def skipL (inC : Bool) : List UInt8 → Nat
  | [] => 0
  | c :: r => if inC then skipL (nlB c.toNat) r + 1 else if blkB c.toNat then skipL false r + 1 else if (c.toNat : Int) = 35 then skipL true r + 1 else 0

structure Tok where
  kind : Nat
  text : List UInt8
  n : Nat
  pos : Nat
deriving DecidableEq

def afterB : List UInt8 → Bool
  | [] => false
  | c :: _ => letB c.toNat || decide ((c.toNat : Int) = 95)
def zeroB : List UInt8 → Bool
  | [] => false
  | c :: _ => decide ((c.toNat : Int) = 48)
def numOk (l : List UInt8) : Bool := !(decide (6 < runL digB l) || (zeroB l && decide (1 < runL digB l)) || afterB (l.drop (runL digB l)))
def numV (l : List UInt8) : Nat := l.foldl (fun n c => 10 * n + (c.toNat - 48)) 0
def syms : List (List UInt8) := [[45, 62], [60, 61], [62, 61], [61, 61], [60], [62], [40], [41], [44], [59], [58], [43], [45]]
def symL (l : List UInt8) : Option (List UInt8) := syms.find? (fun x => x.isPrefixOf l)

/-- The token at the head: kind, text, value. -/
def tokL : List UInt8 → Option (Nat × List UInt8 × Nat)
  | [] => none
  | c :: r =>
    if letB c.toNat then some (1, (c :: r).take (runL innB (c :: r)), 0)
    else if digB c.toNat then (if numOk (c :: r) then some (2, (c :: r).take (runL digB (c :: r)), numV ((c :: r).take (runL digB (c :: r)))) else none)
    else (symL (c :: r)).map fun x => (3, x, 0)

/-- The tokens of what is left, at a place behind blanks; the offset and the number of the error. -/
def scanA : Nat → Nat → List UInt8 → List Tok × Nat × Nat
  | 0, _, _ => ([], 0, 0)
  | f + 1, a, l =>
    match l with
    | [] => ([⟨0, [], 0, a⟩], 0, 0)
    | c :: r =>
      match tokL (c :: r) with
      | none => ([], a, 8)
      | some (kd, t, n) =>
        let k := t.length + skipL false ((c :: r).drop t.length)
        let q := scanA f (a + k) ((c :: r).drop k)
        (⟨kd, t, n, a⟩ :: q.1, q.2)

def scanR (l : List UInt8) : List Tok × Nat × Nat := scanA (l.length + 1) (skipL false l) (l.drop (skipL false l))
def scanP (l : List UInt8) : List Tok × Nat × Nat :=
  if 8000 < l.length then ([], 0, 3) else if (scanR l).2.2 = 0 then scanR l else ([], (scanR l).2)

/-! ### At a place of a string -/
abbrev rest (s : ByteArray) (k : Nat) : List UInt8 := s.data.toList.drop k
theorem rest_cons (s : ByteArray) (k : Nat) (h : k < s.size) : rest s k = s[k] :: rest s (k + 1) := by
  unfold rest; rw [List.drop_eq_getElem_cons (by simpa using h)]; rfl
theorem rest_end (s : ByteArray) (k : Nat) (h : s.size ≤ k) : rest s k = [] := List.drop_of_length_le (by simpa using h)
theorem rest_length (s : ByteArray) (k : Nat) : (rest s k).length = s.size - k := by simp [rest]
theorem rest_drop (s : ByteArray) (k n : Nat) : (rest s k).drop n = rest s (k + n) := by simp [rest]

theorem runL_hit (p : Int → Bool) (s : ByteArray) (k : Nat) (h : k < s.size) (hp : p (bt s k) = true) : runL p (rest s k) = runL p (rest s (k + 1)) + 1 := by
  rw [rest_cons s k h, runL, if_pos (by rw [get_bt s k h]; exact hp)]
theorem runL_miss (p : Int → Bool) (s : ByteArray) (k : Nat) (h : k < s.size) (hp : p (bt s k) = false) : runL p (rest s k) = 0 := by
  rw [rest_cons s k h, runL, if_neg (by rw [get_bt s k h, hp]; simp)]
theorem runL_end (p : Int → Bool) (s : ByteArray) (k : Nat) (h : s.size ≤ k) : runL p (rest s k) = 0 := by
  rw [rest_end s k h]; rfl
theorem runL_le (p : Int → Bool) : ∀ l : List UInt8, runL p l ≤ l.length
  | [] => by simp [runL]
  | c :: r => by have := runL_le p r; unfold runL; split <;> simp <;> omega
theorem runL_rest_le (p : Int → Bool) (s : ByteArray) (k : Nat) : runL p (rest s k) ≤ s.size - k := by
  have := runL_le p (rest s k); rw [rest_length] at this; exact this

theorem skipL_le : ∀ (l : List UInt8) (b : Bool), skipL b l ≤ l.length
  | [], b => by simp [skipL]
  | c :: r, b => by
    unfold skipL
    have h1 := skipL_le r (nlB c.toNat); have h2 := skipL_le r false; have h3 := skipL_le r true
    split
    · simp; omega
    · split
      · simp; omega
      · split <;> simp <;> omega
theorem skipL_rest_le (s : ByteArray) (k : Nat) : skipL false (rest s k) ≤ s.size - k := by
  have := skipL_le (rest s k) false; rw [rest_length] at this; exact this
theorem skipL_blank (s : ByteArray) (k : Nat) (h : k < s.size) (hp : blkB (bt s k) = true) : skipL false (rest s k) = skipL false (rest s (k + 1)) + 1 := by
  rw [rest_cons s k h, skipL]
  simp only [Bool.false_eq_true, if_false]
  rw [if_pos (by rw [get_bt s k h]; exact hp)]
theorem skipL_true (l : List UInt8) : skipL true l = runL nlB l + skipL false (l.drop (runL nlB l)) := by
  induction l with
  | nil => rfl
  | cons c r ih =>
    unfold runL
    by_cases h : nlB c.toNat = true
    · rw [if_pos h]; simp only [List.drop_succ_cons]; rw [skipL]; simp only [if_true, h, ih]; omega
    · rw [if_neg h]; simp only [List.drop_zero]; rw [skipL, skipL]
      have hb : blkB c.toNat = true := by
        have : (c.toNat : Int) = 10 := by simpa [nlB] using h
        rw [this]; rfl
      simp only [if_true, hb, Bool.eq_false_iff.2 h, Bool.false_eq_true, if_false]; omega
theorem skipL_hash (s : ByteArray) (k : Nat) (h : k < s.size) (hp : bt s k = 35) : skipL false (rest s k) = runL nlB (rest s k) + skipL false (rest s (k + runL nlB (rest s k))) := by
  rw [← rest_drop, ← skipL_true]
  conv => lhs; rw [rest_cons s k h]
  conv => rhs; rw [rest_cons s k h]
  have h1 : (s[k].toNat : Int) = 35 := by rw [get_bt s k h]; exact hp
  rw [skipL, skipL, h1]
  simp [blkB, nlB]
theorem skipL_miss (s : ByteArray) (k : Nat) (h : k < s.size) (hp : blkB (bt s k) = false) (hq : bt s k ≠ 35) : skipL false (rest s k) = 0 := by
  rw [rest_cons s k h, skipL]
  simp only [Bool.false_eq_true, if_false]
  rw [if_neg (by rw [get_bt s k h, hp]; simp), if_neg (by rw [get_bt s k h]; exact hq)]
theorem skipL_end (s : ByteArray) (k : Nat) (h : s.size ≤ k) : skipL false (rest s k) = 0 := by rw [rest_end s k h]; rfl
theorem runnl_pos (s : ByteArray) (k : Nat) (h : k < s.size) (hp : bt s k = 35) : 0 < runL nlB (rest s k) := by
  rw [runL_hit nlB s k h (by rw [hp]; rfl)]; omega

theorem runL_all (p : Int → Bool) (s : ByteArray) : ∀ (n k j : Nat), s.size - k ≤ n → j < runL p (rest s k) → p (bt s (k + j)) = true := by
  intro n
  induction n with
  | zero => intro k j hn hj; rw [runL_end p s k (by omega)] at hj; omega
  | succ n ih =>
    intro k j hn hj
    by_cases hk : k < s.size
    · by_cases hp : p (bt s k) = true
      · rw [runL_hit p s k hk hp] at hj
        cases j with
        | zero => exact hp
        | succ j => have := ih (k + 1) j (by omega) (by omega); rw [show k + (j + 1) = k + 1 + j from by omega]; exact this
      · rw [runL_miss p s k hk (by simpa using hp)] at hj; omega
    · rw [runL_end p s k (by omega)] at hj; omega
theorem dig_of {c : Int} (h : digB c = true) : 48 ≤ c ∧ c ≤ 57 := by simpa [digB] using h
theorem rest_take_succ (s : ByteArray) (k j : Nat) (h : k + j < s.size) : (rest s k).take (j + 1) = (rest s k).take j ++ [s[k + j]] := by
  rw [List.take_succ_eq_append_getElem (by rw [rest_length]; omega)]
  congr 1
  simp [rest]; rfl
theorem numV_snoc (s : ByteArray) (k j : Nat) (h : k + j < s.size) (hd : digB (bt s (k + j)) = true) :
    ((numV ((rest s k).take (j + 1)) : Nat) : Int) = 10 * (numV ((rest s k).take j) : Nat) + (bt s (k + j) - 48) := by
  rw [rest_take_succ s k j h]
  unfold numV
  rw [List.foldl_append]
  have := dig_of hd
  rw [← get_bt s (k + j) h] at this ⊢
  simp only [List.foldl_cons, List.foldl_nil]
  omega
theorem numV_bd (s : ByteArray) (k m : Nat) (h : k + m ≤ s.size) (hd : ∀ j, j < m → digB (bt s (k + j)) = true) : ∀ j, j ≤ m → numV ((rest s k).take j) < 10 ^ j := by
  intro j
  induction j with
  | zero => intro _; simp [numV]
  | succ j ih =>
    intro hj
    have h1 := ih (by omega)
    have h2 := numV_snoc s k j (by omega) (hd j (by omega))
    have h3 := dig_of (hd j (by omega))
    have : numV ((rest s k).take (j + 1)) ≤ 10 * numV ((rest s k).take j) + 9 := by omega
    rw [Nat.pow_succ]; omega

/-- The cells of tokens of the program. -/
def tokV (t : Tok) : List Value := [.int .u8 t.kind, .string ⟨t.text.toArray⟩, .int .i64 t.n, .int .i64 t.pos]
def flatP (l : List Tok) : List Value := l.flatMap tokV
/-- The cells of tokens of the reference. -/
def tokW (t : Tok) : List Value := [.int .i64 t.kind, .string ⟨t.text.toArray⟩, .int .i64 t.n, .int .i64 t.pos]
def flatR (l : List Tok) : List Value := l.flatMap tokW
theorem flatP_length (l : List Tok) : (flatP l).length = l.length * 4 := by
  induction l with
  | nil => rfl
  | cons t l ih => simp [flatP, tokV] at ih ⊢; omega
theorem flatR_length (l : List Tok) : (flatR l).length = l.length * 4 := by
  induction l with
  | nil => rfl
  | cons t l ih => simp [flatR, tokW] at ih ⊢; omega
theorem flatP_snoc (l : List Tok) (t : Tok) : flatP (l ++ [t]) = flatP l ++ tokV t := by simp [flatP]
theorem flatR_snoc (l : List Tok) (t : Tok) : flatR (l ++ [t]) = flatR l ++ tokW t := by simp [flatR]

theorem bt_rest (s : ByteArray) (k : Nat) (h : k < s.size) : (s[k].toNat : Int) = bt s k := get_bt s k h

/-- One step of the scanner at a place behind blanks. -/
theorem scanA_end (s : ByteArray) (f k : Nat) (hf : 0 < f) (h : s.size ≤ k) : scanA f k (rest s k) = ([⟨0, [], 0, k⟩], 0, 0) := by
  obtain ⟨f, rfl⟩ : ∃ g, f = g + 1 := ⟨f - 1, by omega⟩
  rw [rest_end s k h]; rfl
theorem scanA_bad (s : ByteArray) (f k : Nat) (hf : 0 < f) (h : k < s.size) (ht : tokL (rest s k) = none) : scanA f k (rest s k) = ([], k, 8) := by
  obtain ⟨f, rfl⟩ : ∃ g, f = g + 1 := ⟨f - 1, by omega⟩
  rw [rest_cons s k h] at ht ⊢
  simp only [scanA, ht]
theorem scanA_tok (s : ByteArray) (f k : Nat) (h : k < s.size) (kd n : Nat) (t : List UInt8) (ht : tokL (rest s k) = some (kd, t, n)) :
    scanA (f + 1) k (rest s k) = (⟨kd, t, n, k⟩ :: (scanA f (k + t.length + skipL false (rest s (k + t.length))) (rest s (k + t.length + skipL false (rest s (k + t.length))))).1,
      (scanA f (k + t.length + skipL false (rest s (k + t.length))) (rest s (k + t.length + skipL false (rest s (k + t.length))))).2) := by
  have hd : ∀ n, (s[k] :: rest s (k + 1)).drop n = rest s (k + n) := fun n => by rw [← rest_cons s k h, rest_drop]
  rw [rest_cons s k h] at ht ⊢
  simp only [scanA, ht, hd, Nat.add_assoc]

theorem tokL_word (s : ByteArray) (k : Nat) (h : k < s.size) (hl : letB (bt s k) = true) : tokL (rest s k) = some (1, (rest s k).take (runL innB (rest s k)), 0) := by
  have h1 := bt_rest s k h
  rw [rest_cons s k h, tokL, h1, if_pos hl]
theorem tokL_num (s : ByteArray) (k : Nat) (h : k < s.size) (hl : letB (bt s k) = false) (hd : digB (bt s k) = true) (ho : numOk (rest s k) = true) :
    tokL (rest s k) = some (2, (rest s k).take (runL digB (rest s k)), numV ((rest s k).take (runL digB (rest s k)))) := by
  have h1 := bt_rest s k h
  rw [rest_cons s k h] at ho ⊢
  rw [tokL, h1, if_neg (by rw [hl]; simp), if_pos hd, if_pos ho]
theorem tokL_numbad (s : ByteArray) (k : Nat) (h : k < s.size) (hl : letB (bt s k) = false) (hd : digB (bt s k) = true) (ho : numOk (rest s k) = false) : tokL (rest s k) = none := by
  have h1 := bt_rest s k h
  rw [rest_cons s k h] at ho ⊢
  rw [tokL, h1, if_neg (by rw [hl]; simp), if_pos hd, if_neg (by rw [ho]; simp)]
theorem tokL_sym (s : ByteArray) (k : Nat) (h : k < s.size) (hl : letB (bt s k) = false) (hd : digB (bt s k) = false) : tokL (rest s k) = (symL (rest s k)).map fun x => (3, x, 0) := by
  have h1 := bt_rest s k h
  rw [rest_cons s k h, tokL, h1, if_neg (by rw [hl]; simp), if_neg (by rw [hd]; simp)]
theorem symL_len {l x : List UInt8} (h : symL l = some x) : 1 ≤ x.length ∧ x.length ≤ 2 ∧ x.length ≤ l.length ∧ l.take x.length = x := by
  have h1 := List.mem_of_find?_eq_some h
  have h2 := @List.find?_some _ (fun y : List UInt8 => y.isPrefixOf l) x syms h
  obtain ⟨r, hr⟩ := List.isPrefixOf_iff_prefix.1 (show x.isPrefixOf l = true from h2)
  have h3 : ∀ x ∈ syms, 1 ≤ x.length ∧ x.length ≤ 2 := by decide
  refine ⟨(h3 x h1).1, (h3 x h1).2, by rw [← hr]; simp, by rw [← hr]; simp⟩
theorem afterB_rest (s : ByteArray) (k : Nat) : afterB (rest s k) = (decide (k < s.size) && (letB (bt s k) || decide (bt s k = 95))) := by
  by_cases h : k < s.size
  · rw [rest_cons s k h, afterB, bt_rest s k h]; simp [h]
  · rw [rest_end s k (by omega)]; simp [afterB, h]
theorem zeroB_rest (s : ByteArray) (k : Nat) (h : k < s.size) : zeroB (rest s k) = decide (bt s k = 48) := by
  rw [rest_cons s k h, zeroB, bt_rest s k h]

end Go.Proofs.YtfjpbkmnlmecgaaGreatDoor
end

section
/- Contracts of small functions of package token: classes of bytes, 'while', 'skip'. -/
namespace Go.Proofs.YtfjpbkmnlmecgaaGreatDoor
open Go.RowKit Go.PlainAid
set_option linter.unusedVariables false
set_option maxHeartbeats 400000

theorem letter_any (c : Int) (w : World) (h0 : 0 ≤ c) (h1 : c ≤ 255) :
    Calls Tryz.prog 139 #[.int .u8 c] w fun e w' => e = .returned (.bool (letB c)) ∧ w = w' := by
  unfold letB
  go_enter Tryz.func139, Tryz.ntmps139
  go_wp2
  all_goals
    go_ret
    exact ⟨ret_bool (by simp; omega), rfl⟩

theorem digit_any (c : Int) (w : World) (h0 : 0 ≤ c) (h1 : c ≤ 255) :
    Calls Tryz.prog 142 #[.int .u8 c] w fun e w' => e = .returned (.bool (digB c)) ∧ w = w' := by
  unfold digB
  go_enter Tryz.func142, Tryz.ntmps142
  go_wp2
  all_goals
    go_ret
    exact ⟨ret_bool (by simp; omega), rfl⟩

theorem inner_any (c : Int) (w : World) (h0 : 0 ≤ c) (h1 : c ≤ 255) :
    Calls Tryz.prog 141 #[.int .u8 c] w fun e w' => e = .returned (.bool (innB c)) ∧ w = w' := by
  go_enter Tryz.func141, Tryz.ntmps141
  go_wp2_with (first
    | (go_at_call 139; refine (letter_any c _ h0 h1).mono ?_; rintro e w' ⟨rfl, rfl⟩)
    | (go_at_call 142; refine (digit_any c _ h0 h1).mono ?_; rintro e w' ⟨rfl, rfl⟩))
  all_goals
    go_ret
    refine ⟨ret_bool ?_, rfl⟩
    unfold innB
    simp_all <;> (rw [Bool.eq_iff_iff]; simp)

theorem notnl_any (c : Int) (w : World) (h0 : 0 ≤ c) (h1 : c ≤ 255) :
    Calls Tryz.prog 214 #[.int .u8 c] w fun e w' => e = .returned (.bool (nlB c)) ∧ w = w' := by
  go_enter Tryz.func214, Tryz.ntmps214
  go_wp2
  all_goals
    go_ret
    refine ⟨ret_bool ?_, rfl⟩
    unfold nlB
    rw [Bool.eq_iff_iff]; simp

theorem while_inner (s : ByteArray) (at0 : Nat) (w : World) (hs : s.size ≤ 4611686018427387904) (ha : at0 ≤ s.size) :
    Calls Tryz.prog 140 #[.string s, .int .i64 at0, .func (.func 141) #[] #[]] w fun e w' => e = .returned (.int .i64 ↑(at0 + runL innB (rest s at0))) ∧ w = w' := by
  have hb := get_bt s
  go_enter Tryz.func140, Tryz.ntmps140
  go_wp2_with fail
  go_loop [1] (fun i => ∃ k : Nat, k ≤ s.size ∧ i = .int .i64 k ∧ Hid (at0 + runL innB (rest s at0) = k + runL innB (rest s k))) (fun i => s.size - (intOf i).toNat)
  case atStart => exact ⟨at0, ha, rfl, rfl⟩
  case round =>
    obtain ⟨k, hk, rfl, hr⟩ := hrel
    go_wp2_with (go_at_call 141; refine (inner_any (bt s k) _ (bt_nonneg s k) (bt_le s k)).mono ?_; rintro e w' ⟨rfl, rfl⟩)
    · have hlt : k < s.size := by assumption
      have hp : innB (bt s k) = true := by assumption
      go_round
      case rel => exact ⟨k + 1, by omega, by go_num, by have := runL_hit innB s k hlt hp; have := hr.out; show _ = _; omega⟩
      case measure => simp [intOf]; omega
    · have hlt : k < s.size := by assumption
      have hp : innB (bt s k) = false := by assumption
      go_ret
      exact ⟨ret_int (by have := runL_miss innB s k hlt hp; have := hr.out; omega), rfl⟩
    · go_ret
      exact ⟨ret_int (by have := runL_end innB s k (by omega); have := hr.out; omega), rfl⟩

theorem while_digit (s : ByteArray) (at0 : Nat) (w : World) (hs : s.size ≤ 4611686018427387904) (ha : at0 ≤ s.size) :
    Calls Tryz.prog 140 #[.string s, .int .i64 at0, .func (.func 142) #[] #[]] w fun e w' => e = .returned (.int .i64 ↑(at0 + runL digB (rest s at0))) ∧ w = w' := by
  have hb := get_bt s
  go_enter Tryz.func140, Tryz.ntmps140
  go_wp2_with fail
  go_loop [1] (fun i => ∃ k : Nat, k ≤ s.size ∧ i = .int .i64 k ∧ Hid (at0 + runL digB (rest s at0) = k + runL digB (rest s k))) (fun i => s.size - (intOf i).toNat)
  case atStart => exact ⟨at0, ha, rfl, rfl⟩
  case round =>
    obtain ⟨k, hk, rfl, hr⟩ := hrel
    go_wp2_with (go_at_call 142; refine (digit_any (bt s k) _ (bt_nonneg s k) (bt_le s k)).mono ?_; rintro e w' ⟨rfl, rfl⟩)
    · have hlt : k < s.size := by assumption
      have hp : digB (bt s k) = true := by assumption
      go_round
      case rel => exact ⟨k + 1, by omega, by go_num, by have := runL_hit digB s k hlt hp; have := hr.out; show _ = _; omega⟩
      case measure => simp [intOf]; omega
    · have hlt : k < s.size := by assumption
      have hp : digB (bt s k) = false := by assumption
      go_ret
      exact ⟨ret_int (by have := runL_miss digB s k hlt hp; have := hr.out; omega), rfl⟩
    · go_ret
      exact ⟨ret_int (by have := runL_end digB s k (by omega); have := hr.out; omega), rfl⟩

theorem while_notnl (s : ByteArray) (at0 : Nat) (w : World) (hs : s.size ≤ 4611686018427387904) (ha : at0 ≤ s.size) :
    Calls Tryz.prog 140 #[.string s, .int .i64 at0, .func (.func 214) #[] #[]] w fun e w' => e = .returned (.int .i64 ↑(at0 + runL nlB (rest s at0))) ∧ w = w' := by
  have hb := get_bt s
  go_enter Tryz.func140, Tryz.ntmps140
  go_wp2_with fail
  go_loop [1] (fun i => ∃ k : Nat, k ≤ s.size ∧ i = .int .i64 k ∧ Hid (at0 + runL nlB (rest s at0) = k + runL nlB (rest s k))) (fun i => s.size - (intOf i).toNat)
  case atStart => exact ⟨at0, ha, rfl, rfl⟩
  case round =>
    obtain ⟨k, hk, rfl, hr⟩ := hrel
    go_wp2_with (go_at_call 214; refine (notnl_any (bt s k) _ (bt_nonneg s k) (bt_le s k)).mono ?_; rintro e w' ⟨rfl, rfl⟩)
    · have hlt : k < s.size := by assumption
      have hp : nlB (bt s k) = true := by assumption
      go_round
      case rel => exact ⟨k + 1, by omega, by go_num, by have := runL_hit nlB s k hlt hp; have := hr.out; show _ = _; omega⟩
      case measure => simp [intOf]; omega
    · have hlt : k < s.size := by assumption
      have hp : nlB (bt s k) = false := by assumption
      go_ret
      exact ⟨ret_int (by have := runL_miss nlB s k hlt hp; have := hr.out; omega), rfl⟩
    · go_ret
      exact ⟨ret_int (by have := runL_end nlB s k (by omega); have := hr.out; omega), rfl⟩

end Go.Proofs.YtfjpbkmnlmecgaaGreatDoor
end

section
/- Contracts: token.skip. -/
namespace Go.Proofs.YtfjpbkmnlmecgaaGreatDoor
open Go.RowKit Go.PlainAid
set_option linter.unusedVariables false
set_option maxHeartbeats 400000

theorem skip_any (s : ByteArray) (at0 : Nat) (w : World) (hs : s.size ≤ 4611686018427387904) (ha : at0 ≤ s.size) :
    Calls Tryz.prog 138 #[.string s, .int .i64 at0] w fun e w' => e = .returned (.int .i64 ↑(at0 + skipL false (rest s at0))) ∧ w = w' := by
  have hb := get_bt s
  go_enter Tryz.func138, Tryz.ntmps138
  go_wp2_with fail
  go_loop [1] (fun i => ∃ k : Nat, k ≤ s.size ∧ i = .int .i64 k ∧ Hid (at0 + skipL false (rest s at0) = k + skipL false (rest s k))) (fun i => s.size - (intOf i).toNat)
  case atStart => exact ⟨at0, ha, rfl, rfl⟩
  case round =>
    obtain ⟨k, hk, rfl, hr⟩ := hrel
    have hle := runL_rest_le nlB s k
    go_wp2_with (go_at_call 140; refine (while_notnl s k _ hs hk).mono ?_; rintro e w' ⟨rfl, rfl⟩)
    · have hlt : k < s.size := by assumption
      have hx : bt s k = 32 := by assumption
      have := skipL_blank s k hlt (by rw [hx]; rfl)
      go_round
      case rel => exact ⟨k + 1, by omega, by go_num, by have := hr.out; show _ = _; omega⟩
      case measure => simp [intOf]; omega
    · have hlt : k < s.size := by assumption
      have hx : bt s k = 9 := by assumption
      have := skipL_blank s k hlt (by rw [hx]; rfl)
      go_round
      case rel => exact ⟨k + 1, by omega, by go_num, by have := hr.out; show _ = _; omega⟩
      case measure => simp [intOf]; omega
    · have hlt : k < s.size := by assumption
      have hx : bt s k = 10 := by assumption
      have := skipL_blank s k hlt (by rw [hx]; rfl)
      go_round
      case rel => exact ⟨k + 1, by omega, by go_num, by have := hr.out; show _ = _; omega⟩
      case measure => simp [intOf]; omega
    · have hlt : k < s.size := by assumption
      have hx : (bt s k == 13) = true := by assumption
      have hx' : bt s k = 13 := by simpa using hx
      have := skipL_blank s k hlt (by rw [hx']; rfl)
      go_round
      case rel => exact ⟨k + 1, by omega, by go_num, by have := hr.out; show _ = _; omega⟩
      case measure => simp [intOf]; omega
    · have hlt : k < s.size := by assumption
      have hx : (bt s k == 35) = true := by assumption
      have hx' : bt s k = 35 := by simpa using hx
      have h1 := skipL_hash s k hlt hx'
      have h2 := runnl_pos s k hlt hx'
      go_round
      case rel => exact ⟨k + runL nlB (rest s k), by omega, by go_num, by have := hr.out; show _ = _; omega⟩
      case measure => simp [intOf]; omega
    · have hlt : k < s.size := by assumption
      have hx : (bt s k == 35) = false := by assumption
      have hx' : (bt s k == 13) = false := by assumption
      have h1 : ¬ bt s k = 32 := by assumption
      have h2 : ¬ bt s k = 9 := by assumption
      have h3 : ¬ bt s k = 10 := by assumption
      have h4 := skipL_miss s k hlt (by simp at hx'; simp [blkB, h1, h2, h3, hx']) (by simpa using hx)
      go_ret
      exact ⟨ret_int (by have := hr.out; omega), rfl⟩
    · go_ret
      exact ⟨ret_int (by have := skipL_end s k (by omega); have := hr.out; omega), rfl⟩

end Go.Proofs.YtfjpbkmnlmecgaaGreatDoor
end

section
/- Memory: what a slice value reads as; texts of strings. No program in sight. -/
namespace Go.Proofs.YtfjpbkmnlmecgaaGreatDoor
open Go.RowKit Go.PlainAid
set_option linter.unusedVariables false

/-- The slice value v has n elements of 'size' cells each; they hold xs. -/
def Sl (w : World) (v : Value) (n size : Nat) (xs : List Value) : Prop :=
  xs.length = n * size ∧ ∃ a cap, v = .slice a n cap ∧ n ≤ cap ∧ cap ≤ maxLen ∧
    (n = 0 ∨ ∃ b o, a = some ⟨b, o, none⟩ ∧ b < w.heap.size ∧ ∀ j, j < n * size → w.cell? ⟨b, o + j, none⟩ = some (xs.getD j undef))

theorem Sl.below {w w' : World} {v : Value} {n size : Nat} {xs : List Value} (h : Sl w v n size xs) (hb : Below w.heap.size w w') : Sl w' v n size xs := by
  obtain ⟨h1, a, cap, hv, hc, hm, h2⟩ := h
  refine ⟨h1, a, cap, hv, hc, hm, ?_⟩
  rcases h2 with h2 | ⟨b, o, ha, hlt, h3⟩
  · exact .inl h2
  · exact .inr ⟨b, o, ha, Nat.lt_of_lt_of_le hlt hb.size, fun j hj => (hb.cell (p := ⟨b, o + j, none⟩) hlt).trans (h3 j hj)⟩

theorem Sl.owned {w : World} {base : Nat} {e : TypeId} {size : Nat} {v : Value} {n : Nat} {xs : List Value} (h : w.ownsRow base e size v n xs) : Sl w v n size xs := by
  obtain ⟨h1, h2⟩ := h
  refine ⟨h1, ?_⟩
  rcases h2 with ⟨rfl, rfl⟩ | ⟨g, cap, cur, rfl, hg, hh, hc, hm, hs, ht⟩
  · exact ⟨none, 0, rfl, Nat.le_refl _, Nat.zero_le _, .inl rfl⟩
  · refine ⟨_, _, rfl, hc, hm, .inr ⟨g, 0, rfl, (Array.getElem?_eq_some_iff.1 hh).1, fun j hj => ?_⟩⟩
    have : w.cell? ⟨g, j, none⟩ = cur[j]? := cell_of_row w g j cur e (0, 0) hh
    rw [Nat.zero_add, this, ← ht]
    have hj2 : j < cur.size := by rw [hs]; exact Nat.lt_of_lt_of_le hj (Nat.mul_le_mul_right _ hc)
    rw [List.getD_eq_getElem?_getD, List.getElem?_take_of_lt hj]
    simp [hj2]


theorem owns_below {w0 w2 : World} {base size n N : Nat} {e : TypeId} {v : Value} {xs : List Value} (h : w0.ownsRow base e size v n xs) (hN : w0.heap.size ≤ N) (hb : Below N w0 w2) : w2.ownsRow base e size v n xs := by
  refine ⟨h.1, ?_⟩
  rcases h.2 with hn | ⟨g, cap, cur, rfl, hg, hgg, r⟩
  · exact .inl hn
  · exact .inr ⟨g, cap, cur, rfl, hg, by rw [hb.block g (by have := (Array.getElem?_eq_some_iff.1 hgg).1; omega)]; exact hgg, r⟩
theorem owns_set {w : World} {base size n : Nat} {e : TypeId} {v : Value} {xs : List Value} (h : w.ownsRow base e size v n xs) {a : Addr} (hne : ∀ b, v.ownBlock = some b → b ≠ a.block) (u : Value) : (w.setCell a u).ownsRow base e size v n xs := by
  refine ⟨h.1, ?_⟩
  rcases h.2 with hn | ⟨g, cap, cur, rfl, hg, hgg, r⟩
  · exact .inl hn
  · exact .inr ⟨g, cap, cur, rfl, hg, by rw [Below.heap_setCell _ _ _ _ (hne g rfl)]; exact hgg, r⟩
/-- A block laid after the row: the row is owned behind a callee and four stores into that block. -/
theorem owns_four {wr w2 : World} {base size n : Nat} {e : TypeId} {v : Value} {xs : List Value} {o : Obj} (h : wr.ownsRow base e size v n xs) (hb : Below (wr.alloc o).heap.size (wr.alloc o) w2) (a b c d : Value) :
    ((((w2.setCell ⟨wr.heap.size, 0, none⟩ a).setCell ⟨wr.heap.size, 1, none⟩ b).setCell ⟨wr.heap.size, 2, none⟩ c).setCell ⟨wr.heap.size, 3, none⟩ d).ownsRow base e size v n xs := by
  have h1 := owns_below (h.alloc o) (Nat.le_refl _) hb
  have hne : ∀ b, v.ownBlock = some b → b ≠ wr.heap.size := fun b hb => by have := (h.lt b hb).2; omega
  exact owns_set (owns_set (owns_set (owns_set h1 hne _) hne _) hne _) hne _

theorem keep1 {w : World} {b i : Nat} {v : Value} (h : b < w.heap.size) (hc : w.cell? ⟨b, i, none⟩ = some v) (o1 : Obj) : (w.alloc o1).drew.cell? ⟨b, i, none⟩ = some v := by
  show (w.alloc o1).cell? _ = _
  rw [World.cell?_alloc_lt _ _ _ h]; exact hc
theorem keep2 {w : World} {b i : Nat} {v : Value} (h : b < w.heap.size) (hc : w.cell? ⟨b, i, none⟩ = some v) (o1 o2 : Obj) : ((w.alloc o1).alloc o2).drew.cell? ⟨b, i, none⟩ = some v := by
  show ((w.alloc o1).alloc o2).cell? _ = _
  rw [World.cell?_alloc_lt _ _ _ (by simp; omega), World.cell?_alloc_lt _ _ _ h]; exact hc
theorem keep3 {w : World} {b i : Nat} {v : Value} (h : b < w.heap.size) (hc : w.cell? ⟨b, i, none⟩ = some v) (o1 o2 o3 : Obj) : (((w.alloc o1).alloc o2).alloc o3).drew.cell? ⟨b, i, none⟩ = some v := by
  show (((w.alloc o1).alloc o2).alloc o3).cell? _ = _
  rw [World.cell?_alloc_lt _ _ _ (by simp; omega), World.cell?_alloc_lt _ _ _ (by simp; omega), World.cell?_alloc_lt _ _ _ h]; exact hc

/-- A block of four known cells. -/
def Blk4 (w : World) (g : Nat) (a b c d : Value) : Prop :=
  w.cell? ⟨g, 0, none⟩ = some a ∧ w.cell? ⟨g, 1, none⟩ = some b ∧ w.cell? ⟨g, 2, none⟩ = some c ∧ w.cell? ⟨g, 3, none⟩ = some d ∧
  w.frozen? ⟨g, 0, none⟩ = false ∧ w.frozen? ⟨g, 1, none⟩ = false ∧ w.frozen? ⟨g, 2, none⟩ = false ∧ w.frozen? ⟨g, 3, none⟩ = false ∧ g + 1 ≤ w.heap.size
theorem Blk4.new (w : World) (a b c d : Value) (T : TypeId) : Blk4 (w.alloc (.cells #[a, b, c, d] T)) w.heap.size a b c d := by
  refine ⟨?_, ?_, ?_, ?_, ?_, ?_, ?_, ?_, ?_⟩ <;> simp
theorem Blk4.below {w w' : World} {g N : Nat} {a b c d : Value} (h : Blk4 w g a b c d) (hb : Below N w w') (hg : g < N) : Blk4 w' g a b c d := by
  obtain ⟨h0, h1, h2, h3, f0, f1, f2, f3, hs⟩ := h
  have hz := hb.size
  exact ⟨(hb.cell (p := ⟨g, 0, none⟩) hg).trans h0, (hb.cell (p := ⟨g, 1, none⟩) hg).trans h1, (hb.cell (p := ⟨g, 2, none⟩) hg).trans h2, (hb.cell (p := ⟨g, 3, none⟩) hg).trans h3,
    (hb.frozen (p := ⟨g, 0, none⟩) hg).trans f0, (hb.frozen (p := ⟨g, 1, none⟩) hg).trans f1, (hb.frozen (p := ⟨g, 2, none⟩) hg).trans f2, (hb.frozen (p := ⟨g, 3, none⟩) hg).trans f3, by omega⟩
theorem Blk4.set2 {w : World} {g : Nat} {a b c d : Value} (h : Blk4 w g a b c d) (c' : Value) : Blk4 (w.setCell ⟨g, 2, none⟩ c') g a b c' d := by
  obtain ⟨h0, h1, h2, h3, f0, f1, f2, f3, hs⟩ := h
  refine ⟨?_, ?_, World.cell?_setCell_same _ _ _ h2, ?_, ?_, ?_, ?_, ?_, by simpa using hs⟩
  · rw [World.cell?_setCell_other _ _ _ _ (by simp)]; exact h0
  · rw [World.cell?_setCell_other _ _ _ _ (by simp)]; exact h1
  · rw [World.cell?_setCell_other _ _ _ _ (by simp)]; exact h3
  · rw [World.frozen?_setCell]; exact f0
  · rw [World.frozen?_setCell]; exact f1
  · rw [World.frozen?_setCell]; exact f2
  · rw [World.frozen?_setCell]; exact f3
theorem Blk4.drew {w : World} {g : Nat} {a b c d : Value} (h : Blk4 w g a b c d) : Blk4 w.drew g a b c d := h

theorem bytesRow_get (s : ByteArray) (cap j : Nat) (h : j < s.size) : (bytesRow s cap)[j]? = some (.int .u8 (bt s j)) := by
  unfold bytesRow
  rw [Array.getElem?_append_left (by simpa using h)]
  have h' : j < s.data.size := h
  rw [Array.getElem?_map, Array.getElem?_eq_getElem h', ← get_bt s j h]
  rfl

/-- '[]byte(s)' of a string: a new block with the bytes. -/
theorem conv_bytes {P : Program} (src dst e : TypeId) (hs : P.underlying src = some .string) (hd : P.underlying dst = some (.slice e)) (he : P.underlying e = some (.int .u8)) (w : World) (s : ByteArray) :
    ∃ cp C mk, (convert src dst (.string s)).run P w = .ok (.slice (some ⟨w.heap.size, 0, none⟩) s.size cp) ((w.alloc (.cells C e mk)).drew) ∧ s.size ≤ cp ∧
      ∀ j, j < s.size → (w.alloc (.cells C e mk)).cell? ⟨w.heap.size, j, none⟩ = some (.int .u8 (bt s j)) := by
  refine ⟨_, _, _, run_bytes_of_string w src dst e s hs hd he, grownCap_ge _ _ _ _, fun j hj => ?_⟩
  rw [World.cell?_alloc_mark]
  exact bytesRow_get s _ j hj

theorem bt_ext (s : ByteArray) (a b j : Nat) (h : a + j < b) (hb : b ≤ s.size) : bt (s.extract a b) j = bt s (a + j) := by
  have h1 : j < (s.extract a b).size := by simp; omega
  rw [← get_bt _ j h1, ← get_bt s (a + j) (by omega)]
  rw [ByteArray.getElem_extract]

/-- The bytes of a cut string. -/
theorem ext_list (s : ByteArray) (a b : Nat) : (s.extract a b).data.toList = (s.data.toList.drop a).take (b - a) := by
  simp [ByteArray.data_extract, List.extract_eq_take_drop]
theorem str_list (s : ByteArray) : (⟨s.data.toList.toArray⟩ : ByteArray) = s := rfl
theorem str_eq {s : ByteArray} {l : List UInt8} (h : s.data.toList = l) : s = ⟨l.toArray⟩ := by rw [← h]

end Go.Proofs.YtfjpbkmnlmecgaaGreatDoor
end

section
/- Contracts: token.number. -/
namespace Go.Proofs.YtfjpbkmnlmecgaaGreatDoor
open Go.RowKit Go.PlainAid
set_option linter.unusedVariables false
set_option maxHeartbeats 400000

set_option maxRecDepth 100000 in
theorem number_ok (s : ByteArray) (at0 m : Nat) (w : World) (hs : s.size ≤ 4611686018427387904) (ha : at0 + m ≤ s.size) (h1 : 1 ≤ m)
    (hm : Hid (runL digB (rest s at0) = m)) (h6 : m ≤ 6) (hz : ((m : Int) ≤ 1) ∨ (bt s at0 == 48) = false) (hend : s.size ≤ at0 + m ∨ (at0 + m < s.size ∧ Hid (letB (bt s (at0 + m)) = false) ∧ (bt s (at0 + m) == 95) = false)) :
    Calls Tryz.prog 143 #[.string s, .int .i64 at0] w fun e w' => e = .returned (.tuple #[.agg #[.int .u8 2, .string (s.extract at0 (at0 + m)), .int .i64 (numV ((rest s at0).take m)), .int .i64 at0], .bool true]) ∧ Below w.heap.size w w' := by
  have hb := get_bt s
  have hwh : Hid (∀ w, Calls Tryz.prog 140 #[.string s, .int .i64 at0, .func (.func 142) #[] #[]] w fun e w' => e = .returned (.int .i64 ↑(at0 + m)) ∧ w = w') := by
    intro w; have := while_digit s at0 w hs (by omega); rw [hm.out] at this; exact this
  have hdig : Hid (∀ j, j < m → digB (bt s (at0 + j)) = true) := fun j hj => runL_all digB s s.size at0 j (by omega) (by rw [hm.out]; exact hj)
  clear hm
  obtain ⟨cp, C, mk, hcv, hcp, hC⟩ := conv_bytes (P := Tryz.prog) 9 23 5 Tryz.underlying9 Tryz.underlying23 Tryz.underlying5 (w.alloc (.cells #[.int .u8 0, .string ⟨#[]⟩, .int .i64 0, .int .i64 0] 139)) (s.extract at0 (at0 + m))
  have hsz : (s.extract at0 (at0 + m)).size = m := by simp; omega
  have hhs : (w.alloc (.cells #[.int .u8 0, .string ⟨#[]⟩, .int .i64 0, .int .i64 0] 139)).heap.size = w.heap.size + 1 := by simp
  rw [hsz] at hcv hcp hC
  rw [hhs] at hcv hC
  have HC : Hid (∀ j, j < m → ((w.alloc (.cells #[.int .u8 0, .string ⟨#[]⟩, .int .i64 0, .int .i64 0] 139)).alloc (.cells C 5 mk)).cell? ⟨w.heap.size + 1, j, none⟩ = some (.int .u8 (bt s (at0 + j)))) := by
    intro j hj; rw [hC j hj, bt_ext s at0 _ j (by omega) ha]
  clear hC hsz hhs
  have hbd : Hid (∀ j, j ≤ m → numV ((rest s at0).take j) < 1000000) := fun j hj => Nat.lt_of_lt_of_le (numV_bd s at0 m ha hdig.out j hj) (by have : 10 ^ j ≤ 10 ^ 6 := Nat.pow_le_pow_right (by omega) (by omega); omega)
  rcases hz with hz | hz <;> rcases hend with he | ⟨he, hl, h95⟩
  all_goals
    go_enter Tryz.func143, Tryz.ntmps143
    go_wp2_with (first
        | (go_at_call 140; refine (hwh.out _).mono ?_; rintro e w' ⟨rfl, rfl⟩)
        | (go_at_call 139; first | (exfalso; omega) | (refine (letter_any _ _ (bt_nonneg _ _) (bt_le _ _)).mono ?_; rintro e w' ⟨rfl, rfl⟩; rw [hl.out])))
    all_goals first | (exfalso; omega) | skip
    all_goals
      go_loop [7, 54] (fun n i => ∃ j : Nat, j ≤ m ∧ i = .int .i64 j ∧ n = .int .i64 (numV ((rest s at0).take j))) (fun _ i => m - (intOf i).toNat)
      case atStart => exact ⟨0, by omega, rfl, rfl⟩
      case round =>
        obtain ⟨j, hj, rfl, rfl⟩ := hrel
        by_cases hjm : j < m
        · have hcj := HC.out j hjm
          have hd := dig_of (hdig.out j hjm)
          have hsn := Lib.hid (numV_snoc s at0 j (by omega) (hdig.out j hjm))
          have hb1 := hbd.out j hj
          go_wp2_with fail
          go_round
          case rel => exact ⟨j + 1, by omega, by go_num, by rw [hsn.out]⟩
          case measure => simp [intOf]; omega
        · have hjm' : j = m := by omega
          subst hjm'
          go_wp2_with fail
          go_returns
          exact ⟨rfl, by go_grown⟩

end Go.Proofs.YtfjpbkmnlmecgaaGreatDoor
end
