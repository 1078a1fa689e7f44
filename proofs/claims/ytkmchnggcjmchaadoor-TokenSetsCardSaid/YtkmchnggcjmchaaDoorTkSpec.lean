/- The plain specification of the scanner: lists of bytes and numbers; no program in sight. -/
import Derived.Handy
import Derived.PlainAid
import Derived.Lib.Hide
namespace Go.Proofs.YtkmchnggcjmchaaDoor
open Go.RowKit Go.PlainAid
set_option linter.unusedVariables false

theorem ret_bool {a b : Bool} (h : a = b) : Ending.returned (.bool a) = .returned (.bool b) := by rw [h]
theorem ret_int {k : IntKind} {a b : Int} (h : a = b) : Ending.returned (.int k a) = .returned (.int k b) := by rw [h]

def letB (c : Int) : Bool := decide (97 ≤ c) && decide (c ≤ 122)
def digB (c : Int) : Bool := decide (48 ≤ c) && decide (c ≤ 57)
def innB (c : Int) : Bool := letB c || digB c || decide (c = 95)
def nlB (c : Int) : Bool := !decide (c = 10)
def blkB (c : Int) : Bool := decide (c = 32) || decide (c = 9) || decide (c = 10) || decide (c = 13)

/-- How many bytes from the head on satisfy p. -/
def runL (p : Int → Bool) : List UInt8 → Nat
  | [] => 0
  | c :: r => if p c.toNat then runL p r + 1 else 0

/-- How many bytes at the head are blanks and comments; inC: within a comment. -/
def skipL (inC : Bool) : List UInt8 → Nat
  | [] => 0
  | c :: r => if inC then skipL (nlB c.toNat) r + 1 else if blkB c.toNat then skipL false r + 1 else if (c.toNat : Int) = 35 then skipL true r + 1 else 0

structure Tok where
  kind : Nat
  text : List UInt8
  n : Nat
  pos : Nat
deriving DecidableEq

def afterB : List UInt8 → Bool
  | [] => false
  | c :: _ => letB c.toNat || decide ((c.toNat : Int) = 95)
def zeroB : List UInt8 → Bool
  | [] => false
  | c :: _ => decide ((c.toNat : Int) = 48)
def numOk (l : List UInt8) : Bool := !(decide (6 < runL digB l) || (zeroB l && decide (1 < runL digB l)) || afterB (l.drop (runL digB l)))
def numV (l : List UInt8) : Nat := l.foldl (fun n c => 10 * n + (c.toNat - 48)) 0
def syms : List (List UInt8) := [[45, 62], [60, 61], [62, 61], [61, 61], [60], [62], [40], [41], [44], [59], [58], [43], [45]]
def symL (l : List UInt8) : Option (List UInt8) := syms.find? (fun x => x.isPrefixOf l)

/-- The token at the head: kind, text, value. -/
def tokL : List UInt8 → Option (Nat × List UInt8 × Nat)
  | [] => none
  | c :: r =>
    if letB c.toNat then some (1, (c :: r).take (runL innB (c :: r)), 0)
    else if digB c.toNat then (if numOk (c :: r) then some (2, (c :: r).take (runL digB (c :: r)), numV ((c :: r).take (runL digB (c :: r)))) else none)
    else (symL (c :: r)).map fun x => (3, x, 0)

/-- The tokens of what is left, at a place behind blanks; the offset and the number of the error. -/
def scanA : Nat → Nat → List UInt8 → List Tok × Nat × Nat
  | 0, _, _ => ([], 0, 0)
  | f + 1, a, l =>
    match l with
    | [] => ([⟨0, [], 0, a⟩], 0, 0)
    | c :: r =>
      match tokL (c :: r) with
      | none => ([], a, 8)
      | some (kd, t, n) =>
        let k := t.length + skipL false ((c :: r).drop t.length)
        let q := scanA f (a + k) ((c :: r).drop k)
        (⟨kd, t, n, a⟩ :: q.1, q.2)

def scanR (l : List UInt8) : List Tok × Nat × Nat := scanA (l.length + 1) (skipL false l) (l.drop (skipL false l))
def scanP (l : List UInt8) : List Tok × Nat × Nat :=
  if 8000 < l.length then ([], 0, 3) else if (scanR l).2.2 = 0 then scanR l else ([], (scanR l).2)

/-! ### At a place of a string -/
abbrev rest (s : ByteArray) (k : Nat) : List UInt8 := s.data.toList.drop k
theorem rest_cons (s : ByteArray) (k : Nat) (h : k < s.size) : rest s k = s[k] :: rest s (k + 1) := by
  unfold rest; rw [List.drop_eq_getElem_cons (by simpa using h)]; rfl
theorem rest_end (s : ByteArray) (k : Nat) (h : s.size ≤ k) : rest s k = [] := List.drop_of_length_le (by simpa using h)
theorem rest_length (s : ByteArray) (k : Nat) : (rest s k).length = s.size - k := by simp [rest]
theorem rest_drop (s : ByteArray) (k n : Nat) : (rest s k).drop n = rest s (k + n) := by simp [rest]

theorem runL_hit (p : Int → Bool) (s : ByteArray) (k : Nat) (h : k < s.size) (hp : p (bt s k) = true) : runL p (rest s k) = runL p (rest s (k + 1)) + 1 := by
  rw [rest_cons s k h, runL, if_pos (by rw [get_bt s k h]; exact hp)]
theorem runL_miss (p : Int → Bool) (s : ByteArray) (k : Nat) (h : k < s.size) (hp : p (bt s k) = false) : runL p (rest s k) = 0 := by
  rw [rest_cons s k h, runL, if_neg (by rw [get_bt s k h, hp]; simp)]
theorem runL_end (p : Int → Bool) (s : ByteArray) (k : Nat) (h : s.size ≤ k) : runL p (rest s k) = 0 := by
  rw [rest_end s k h]; rfl
theorem runL_le (p : Int → Bool) : ∀ l : List UInt8, runL p l ≤ l.length
  | [] => by simp [runL]
  | c :: r => by have := runL_le p r; unfold runL; split <;> simp <;> omega
theorem runL_rest_le (p : Int → Bool) (s : ByteArray) (k : Nat) : runL p (rest s k) ≤ s.size - k := by
  have := runL_le p (rest s k); rw [rest_length] at this; exact this

theorem skipL_le : ∀ (l : List UInt8) (b : Bool), skipL b l ≤ l.length
  | [], b => by simp [skipL]
  | c :: r, b => by
    unfold skipL
    have h1 := skipL_le r (nlB c.toNat); have h2 := skipL_le r false; have h3 := skipL_le r true
    split
    · simp; omega
    · split
      · simp; omega
      · split <;> simp <;> omega
theorem skipL_rest_le (s : ByteArray) (k : Nat) : skipL false (rest s k) ≤ s.size - k := by
  have := skipL_le (rest s k) false; rw [rest_length] at this; exact this
theorem skipL_blank (s : ByteArray) (k : Nat) (h : k < s.size) (hp : blkB (bt s k) = true) : skipL false (rest s k) = skipL false (rest s (k + 1)) + 1 := by
  rw [rest_cons s k h, skipL]
  simp only [Bool.false_eq_true, if_false]
  rw [if_pos (by rw [get_bt s k h]; exact hp)]
theorem skipL_true (l : List UInt8) : skipL true l = runL nlB l + skipL false (l.drop (runL nlB l)) := by
  induction l with
  | nil => rfl
  | cons c r ih =>
    unfold runL
    by_cases h : nlB c.toNat = true
    · rw [if_pos h]; simp only [List.drop_succ_cons]; rw [skipL]; simp only [if_true, h, ih]; omega
    · rw [if_neg h]; simp only [List.drop_zero]; rw [skipL, skipL]
      have hb : blkB c.toNat = true := by
        have : (c.toNat : Int) = 10 := by simpa [nlB] using h
        rw [this]; rfl
      simp only [if_true, hb, Bool.eq_false_iff.2 h, Bool.false_eq_true, if_false]; omega
theorem skipL_hash (s : ByteArray) (k : Nat) (h : k < s.size) (hp : bt s k = 35) : skipL false (rest s k) = runL nlB (rest s k) + skipL false (rest s (k + runL nlB (rest s k))) := by
  rw [← rest_drop, ← skipL_true]
  conv => lhs; rw [rest_cons s k h]
  conv => rhs; rw [rest_cons s k h]
  have h1 : (s[k].toNat : Int) = 35 := by rw [get_bt s k h]; exact hp
  rw [skipL, skipL, h1]
  simp [blkB, nlB]
theorem skipL_miss (s : ByteArray) (k : Nat) (h : k < s.size) (hp : blkB (bt s k) = false) (hq : bt s k ≠ 35) : skipL false (rest s k) = 0 := by
  rw [rest_cons s k h, skipL]
  simp only [Bool.false_eq_true, if_false]
  rw [if_neg (by rw [get_bt s k h, hp]; simp), if_neg (by rw [get_bt s k h]; exact hq)]
theorem skipL_end (s : ByteArray) (k : Nat) (h : s.size ≤ k) : skipL false (rest s k) = 0 := by rw [rest_end s k h]; rfl
theorem runnl_pos (s : ByteArray) (k : Nat) (h : k < s.size) (hp : bt s k = 35) : 0 < runL nlB (rest s k) := by
  rw [runL_hit nlB s k h (by rw [hp]; rfl)]; omega

theorem runL_all (p : Int → Bool) (s : ByteArray) : ∀ (n k j : Nat), s.size - k ≤ n → j < runL p (rest s k) → p (bt s (k + j)) = true := by
  intro n
  induction n with
  | zero => intro k j hn hj; rw [runL_end p s k (by omega)] at hj; omega
  | succ n ih =>
    intro k j hn hj
    by_cases hk : k < s.size
    · by_cases hp : p (bt s k) = true
      · rw [runL_hit p s k hk hp] at hj
        cases j with
        | zero => exact hp
        | succ j => have := ih (k + 1) j (by omega) (by omega); rw [show k + (j + 1) = k + 1 + j from by omega]; exact this
      · rw [runL_miss p s k hk (by simpa using hp)] at hj; omega
    · rw [runL_end p s k (by omega)] at hj; omega
theorem dig_of {c : Int} (h : digB c = true) : 48 ≤ c ∧ c ≤ 57 := by simpa [digB] using h
theorem rest_take_succ (s : ByteArray) (k j : Nat) (h : k + j < s.size) : (rest s k).take (j + 1) = (rest s k).take j ++ [s[k + j]] := by
  rw [List.take_succ_eq_append_getElem (by rw [rest_length]; omega)]
  congr 1
  simp [rest]; rfl
theorem numV_snoc (s : ByteArray) (k j : Nat) (h : k + j < s.size) (hd : digB (bt s (k + j)) = true) :
    ((numV ((rest s k).take (j + 1)) : Nat) : Int) = 10 * (numV ((rest s k).take j) : Nat) + (bt s (k + j) - 48) := by
  rw [rest_take_succ s k j h]
  unfold numV
  rw [List.foldl_append]
  have := dig_of hd
  rw [← get_bt s (k + j) h] at this ⊢
  simp only [List.foldl_cons, List.foldl_nil]
  omega
theorem numV_bd (s : ByteArray) (k m : Nat) (h : k + m ≤ s.size) (hd : ∀ j, j < m → digB (bt s (k + j)) = true) : ∀ j, j ≤ m → numV ((rest s k).take j) < 10 ^ j := by
  intro j
  induction j with
  | zero => intro _; simp [numV]
  | succ j ih =>
    intro hj
    have h1 := ih (by omega)
    have h2 := numV_snoc s k j (by omega) (hd j (by omega))
    have h3 := dig_of (hd j (by omega))
    have : numV ((rest s k).take (j + 1)) ≤ 10 * numV ((rest s k).take j) + 9 := by omega
    rw [Nat.pow_succ]; omega

/-- The cells of tokens of the program. -/
def tokV (t : Tok) : List Value := [.int .u8 t.kind, .string ⟨t.text.toArray⟩, .int .i64 t.n, .int .i64 t.pos]
def flatP (l : List Tok) : List Value := l.flatMap tokV
/-- The cells of tokens of the reference. -/
def tokW (t : Tok) : List Value := [.int .i64 t.kind, .string ⟨t.text.toArray⟩, .int .i64 t.n, .int .i64 t.pos]
def flatR (l : List Tok) : List Value := l.flatMap tokW
theorem flatP_length (l : List Tok) : (flatP l).length = l.length * 4 := by
  induction l with
  | nil => rfl
  | cons t l ih => simp [flatP, tokV] at ih ⊢; omega
theorem flatR_length (l : List Tok) : (flatR l).length = l.length * 4 := by
  induction l with
  | nil => rfl
  | cons t l ih => simp [flatR, tokW] at ih ⊢; omega
theorem flatP_snoc (l : List Tok) (t : Tok) : flatP (l ++ [t]) = flatP l ++ tokV t := by simp [flatP]
theorem flatR_snoc (l : List Tok) (t : Tok) : flatR (l ++ [t]) = flatR l ++ tokW t := by simp [flatR]

theorem bt_rest (s : ByteArray) (k : Nat) (h : k < s.size) : (s[k].toNat : Int) = bt s k := get_bt s k h

/-- One step of the scanner at a place behind blanks. -/
theorem scanA_end (s : ByteArray) (f k : Nat) (hf : 0 < f) (h : s.size ≤ k) : scanA f k (rest s k) = ([⟨0, [], 0, k⟩], 0, 0) := by
  obtain ⟨f, rfl⟩ : ∃ g, f = g + 1 := ⟨f - 1, by omega⟩
  rw [rest_end s k h]; rfl
theorem scanA_bad (s : ByteArray) (f k : Nat) (hf : 0 < f) (h : k < s.size) (ht : tokL (rest s k) = none) : scanA f k (rest s k) = ([], k, 8) := by
  obtain ⟨f, rfl⟩ : ∃ g, f = g + 1 := ⟨f - 1, by omega⟩
  rw [rest_cons s k h] at ht ⊢
  simp only [scanA, ht]
theorem scanA_tok (s : ByteArray) (f k : Nat) (h : k < s.size) (kd n : Nat) (t : List UInt8) (ht : tokL (rest s k) = some (kd, t, n)) :
    scanA (f + 1) k (rest s k) = (⟨kd, t, n, k⟩ :: (scanA f (k + t.length + skipL false (rest s (k + t.length))) (rest s (k + t.length + skipL false (rest s (k + t.length))))).1,
      (scanA f (k + t.length + skipL false (rest s (k + t.length))) (rest s (k + t.length + skipL false (rest s (k + t.length))))).2) := by
  have hd : ∀ n, (s[k] :: rest s (k + 1)).drop n = rest s (k + n) := fun n => by rw [← rest_cons s k h, rest_drop]
  rw [rest_cons s k h] at ht ⊢
  simp only [scanA, ht, hd, Nat.add_assoc]

theorem tokL_word (s : ByteArray) (k : Nat) (h : k < s.size) (hl : letB (bt s k) = true) : tokL (rest s k) = some (1, (rest s k).take (runL innB (rest s k)), 0) := by
  have h1 := bt_rest s k h
  rw [rest_cons s k h, tokL, h1, if_pos hl]
theorem tokL_num (s : ByteArray) (k : Nat) (h : k < s.size) (hl : letB (bt s k) = false) (hd : digB (bt s k) = true) (ho : numOk (rest s k) = true) :
    tokL (rest s k) = some (2, (rest s k).take (runL digB (rest s k)), numV ((rest s k).take (runL digB (rest s k)))) := by
  have h1 := bt_rest s k h
  rw [rest_cons s k h] at ho ⊢
  rw [tokL, h1, if_neg (by rw [hl]; simp), if_pos hd, if_pos ho]
theorem tokL_numbad (s : ByteArray) (k : Nat) (h : k < s.size) (hl : letB (bt s k) = false) (hd : digB (bt s k) = true) (ho : numOk (rest s k) = false) : tokL (rest s k) = none := by
  have h1 := bt_rest s k h
  rw [rest_cons s k h] at ho ⊢
  rw [tokL, h1, if_neg (by rw [hl]; simp), if_pos hd, if_neg (by rw [ho]; simp)]
theorem tokL_sym (s : ByteArray) (k : Nat) (h : k < s.size) (hl : letB (bt s k) = false) (hd : digB (bt s k) = false) : tokL (rest s k) = (symL (rest s k)).map fun x => (3, x, 0) := by
  have h1 := bt_rest s k h
  rw [rest_cons s k h, tokL, h1, if_neg (by rw [hl]; simp), if_neg (by rw [hd]; simp)]
theorem symL_len {l x : List UInt8} (h : symL l = some x) : 1 ≤ x.length ∧ x.length ≤ 2 ∧ x.length ≤ l.length ∧ l.take x.length = x := by
  have h1 := List.mem_of_find?_eq_some h
  have h2 := @List.find?_some _ (fun y : List UInt8 => y.isPrefixOf l) x syms h
  obtain ⟨r, hr⟩ := List.isPrefixOf_iff_prefix.1 (show x.isPrefixOf l = true from h2)
  have h3 : ∀ x ∈ syms, 1 ≤ x.length ∧ x.length ≤ 2 := by decide
  refine ⟨(h3 x h1).1, (h3 x h1).2, by rw [← hr]; simp, by rw [← hr]; simp⟩
theorem afterB_rest (s : ByteArray) (k : Nat) : afterB (rest s k) = (decide (k < s.size) && (letB (bt s k) || decide (bt s k = 95))) := by
  by_cases h : k < s.size
  · rw [rest_cons s k h, afterB, bt_rest s k h]; simp [h]
  · rw [rest_end s k (by omega)]; simp [afterB, h]
theorem zeroB_rest (s : ByteArray) (k : Nat) (h : k < s.size) : zeroB (rest s k) = decide (bt s k = 48) := by
  rw [rest_cons s k h, zeroB, bt_rest s k h]

end Go.Proofs.YtkmchnggcjmchaaDoor
