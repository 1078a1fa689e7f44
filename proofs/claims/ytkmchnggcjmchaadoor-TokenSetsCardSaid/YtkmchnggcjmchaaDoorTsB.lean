/- Plain: the braces are trimmed off; blanks become commas; what a reader sees of the tokens. -/
import Derived.Test.YtkmchnggcjmchaaDoorTsA
namespace Go.Proofs.YtkmchnggcjmchaaDoor.Ts
open Go.RowKit Go.PlainAid Go.Proofs.YtkmchnggcjmchaaDoor Go.Proofs.YtkmchnggcjmchaaDoor.Bz
set_option linter.unusedVariables false
set_option linter.unusedSimpArgs false

theorem jn_last (c : UInt8) : ∀ l : List Nat, l ≠ [] → ∃ q b, jn c l = q ++ [b] ∧ 48 ≤ b.toNat ∧ b.toNat ≤ 57
  | [], h => absurd rfl h
  | [x], _ => by
    obtain ⟨b, r, e, _, _⟩ := dec_zero x
    have hne : Lib.decDigits x ≠ [] := by rw [e]; simp
    have h := dec_dig x _ (List.getLast_mem hne)
    refine ⟨(Lib.decDigits x).dropLast, (Lib.decDigits x).getLast hne, ?_, h⟩
    rw [List.dropLast_concat_getLast]
    simp [jn, tl]
  | x :: y :: r, _ => by
    obtain ⟨q, b, e, h⟩ := jn_last c (y :: r) (by simp)
    refine ⟨Lib.decDigits x ++ c :: q, b, ?_, h⟩
    show Lib.decDigits x ++ tl c (y :: r) = _
    rw [tl_cons, e]; simp
theorem not_brace {b : UInt8} (h : 48 ≤ b.toNat ∧ b.toNat ≤ 57) : ([123, 125] : List UInt8).contains b = false := by
  have h1 : b ≠ 123 := by rintro rfl; revert h; decide
  have h2 : b ≠ 125 := by rintro rfl; revert h; decide
  simp [h1, h2]
theorem trim_text (l : List Nat) : Lib.trimS (textB l) [123, 125] = jn 32 l := by
  have e : textB l = 123 :: jn 32 l ++ [125] := by unfold textB headB; rw [jn_join]
  rw [e]
  unfold Lib.trimS
  by_cases hl : l = []
  · subst hl; decide
  · obtain ⟨q, b, hq, hb⟩ := jn_last 32 l hl
    have h1 : Lib.trimRightS (123 :: jn 32 l ++ [125]) [123, 125] = 123 :: jn 32 l := by
      unfold Lib.trimRightS
      rw [List.reverse_append, List.reverse_singleton, List.singleton_append, List.dropWhile_cons_of_pos (by decide), hq, ← List.cons_append, List.reverse_append, List.reverse_singleton, List.singleton_append,
        List.dropWhile_cons_of_neg (by rw [not_brace hb]; simp)]
      simp
    rw [h1]
    unfold Lib.trimLeftS
    rw [List.dropWhile_cons_of_pos (by decide)]
    cases l with
    | nil => exact absurd rfl hl
    | cons x r =>
      obtain ⟨b, q, e, _, _⟩ := dec_zero x
      show (Lib.decDigits x ++ tl 32 r).dropWhile _ = Lib.decDigits x ++ tl 32 r
      rw [e, List.cons_append, List.dropWhile_cons_of_neg (by rw [not_brace (dec_dig x b (by rw [e]; simp))]; simp)]
theorem index_ne {b c : UInt8} (l : List UInt8) (h : b ≠ c) : Lib.index (b :: l) [c] = if Lib.index l [c] == -1 then -1 else Lib.index l [c] + 1 := by
  have hp : ([c] : List UInt8).isPrefixOf (b :: l) = false := by simp [List.isPrefixOf, Ne.symm h]
  rw [Lib.index, hp]; simp
theorem index_eq (c : UInt8) (l : List UInt8) : Lib.index (c :: l) [c] = 0 := by
  rw [Lib.index]; simp [List.isPrefixOf]
def swp (b : UInt8) : UInt8 := if b = 32 then 44 else b
theorem replace_map : ∀ l : List UInt8, Lib.replaceK [32] [44] (l.count 32) l = l.map swp
  | [] => rfl
  | b :: l => by
    have ih := replace_map l
    by_cases h : b = 32
    · subst h
      rw [List.count_cons_self, Lib.replaceK_hit _ _ _ _ 0 (index_eq 32 l)]
      show [] ++ [44] ++ Lib.replaceK [32] [44] (l.count 32) l = _
      rw [ih]; rfl
    · rw [List.count_cons_of_ne (by simpa using h)]
      have hs : swp b = b := if_neg h
      cases hn : l.count 32 with
      | zero =>
        rw [hn] at ih
        rw [List.map_cons, hs, ← ih]; rfl
      | succ k =>
        rw [hn] at ih
        rw [List.map_cons, hs, ← ih]
        have hi := index_ne l h
        by_cases hm : Lib.index l [32] == -1
        · rw [if_pos hm] at hi
          rw [Lib.replaceK, Lib.replaceK, hi, if_pos (by decide), if_pos hm]
        · rw [if_neg hm] at hi
          have hge := Lib.index_ge l [32]
          have hne : Lib.index l [32] ≠ -1 := fun e => hm (by rw [e]; decide)
          obtain ⟨j, hj⟩ : ∃ j : Nat, Lib.index l [32] = j := ⟨(Lib.index l [32]).toNat, by omega⟩
          rw [Lib.replaceK_hit _ _ _ l j hj, Lib.replaceK_hit _ _ _ (b :: l) (j + 1) (by rw [hi, hj]; rfl)]
          simp
theorem swp_dec (x : Nat) : (Lib.decDigits x).map swp = Lib.decDigits x := by
  conv => rhs; rw [← List.map_id (Lib.decDigits x)]
  refine List.map_congr_left fun b hb => ?_
  have := dec_dig x b hb
  unfold swp
  rw [if_neg (by rintro rfl; revert this; decide)]; rfl
theorem swp_tl : ∀ r : List Nat, (tl 32 r).map swp = tl 44 r
  | [] => rfl
  | y :: r => by
    show (32 :: Lib.decDigits y ++ tl 32 r).map swp = 44 :: Lib.decDigits y ++ tl 44 r
    rw [List.map_append, List.map_cons, swp_dec, swp_tl r]; rfl
theorem replace_jn (l : List Nat) : Lib.replaceAll (jn 32 l) [32] [44] = jn 44 l := by
  unfold Lib.replaceAll Lib.replace Lib.replaceNum
  rw [if_neg (by decide), if_pos (.inl (by decide)), Lib.count_one, replace_map]
  cases l with
  | nil => rfl
  | cons x r =>
    show (Lib.decDigits x ++ tl 32 r).map swp = Lib.decDigits x ++ tl 44 r
    rw [List.map_append, swp_dec, swp_tl]
theorem tl_len (c : UInt8) : ∀ r : List Nat, (∀ x ∈ r, x < 4096) → 2 * r.length ≤ (tl c r).length ∧ (tl c r).length ≤ 5 * r.length
  | [], _ => ⟨by simp [tl], by simp [tl]⟩
  | y :: r, h => by
    have ih := tl_len c r (fun x hx => h x (by simp [hx]))
    have hd := dec_small y (h y (by simp))
    have e : tl c (y :: r) = c :: Lib.decDigits y ++ tl c r := rfl
    rw [e]
    simp only [List.length_append, List.length_cons]
    omega
theorem jn_len (c : UInt8) (l : List Nat) (h : ∀ x ∈ l, x < 4096) : 2 * l.length ≤ (jn c l).length + 1 ∧ (jn c l).length ≤ 5 * l.length := by
  cases l with
  | nil => simp [jn]
  | cons x r =>
    have ht := tl_len c r (fun x hx => h x (by simp [hx]))
    have hd := dec_small x (h x (by simp))
    show _ ≤ (Lib.decDigits x ++ tl c r).length + 1 ∧ (Lib.decDigits x ++ tl c r).length ≤ _
    simp only [List.length_append, List.length_cons]
    omega
/-- The scan of the numbers' text: no error, and these tokens. -/
theorem scan_nums (c : Bool) (l : List Nat) (h : ∀ x ∈ l, x < 4096) (hn : l.length ≤ 20) : ∃ ts, scanP (jn (sepC c) l) = (ts, 0, 0) ∧ ts.map pT = plainL c l := by
  have hl := jn_len (sepC c) l h
  have hs := scan_jn c l ((jn (sepC c) l).length + 1) 0 h (by omega) (by omega)
  have hr : scanR (jn (sepC c) l) = scanA ((jn (sepC c) l).length + 1) 0 (jn (sepC c) l) := by
    unfold scanR; rw [skip_jn]; rfl
  refine ⟨(scanR (jn (sepC c) l)).1, ?_, by rw [hr]; exact hs.2⟩
  unfold scanP
  rw [if_neg (by omega), hr, if_pos (by rw [hs.1])]
  exact Prod.ext rfl hs.1
/-- The tokens from a place on are those of the numbers. -/
def TokAt (ts : List Tok) (pos : Nat) (c : Bool) (r : List Nat) : Prop := (ts.drop pos).map pT = plainL c r
theorem tok_drop {ts : List Tok} {pos : Nat} {x : Nat × List UInt8 × Nat} {r : List (Nat × List UInt8 × Nat)} (h : (ts.drop pos).map pT = x :: r) : ∃ t, ts[pos]? = some t ∧ pT t = x ∧ (ts.drop (pos + 1)).map pT = r ∧ pos < ts.length := by
  cases hd : ts.drop pos with
  | nil => rw [hd] at h; cases h
  | cons t q =>
    rw [hd] at h
    injection h with h1 h2
    have hlt : pos < ts.length := by
      rcases Nat.lt_or_ge pos ts.length with h | h
      · exact h
      · rw [List.drop_of_length_le h] at hd; cases hd
    have h3 := List.drop_eq_getElem_cons hlt
    rw [hd] at h3
    injection h3 with h4 h5
    exact ⟨t, by rw [List.getElem?_eq_getElem hlt, h4], h1, by rw [← h5]; exact h2, hlt⟩
theorem pk_of {ts : List Tok} {pos : Nat} {t : Tok} (h : ts[pos]? = some t) : pkF ts pos 0 = t := by
  unfold pkF
  rw [if_pos rfl, List.getD_eq_getElem?_getD, h]; rfl
theorem at_end {ts : List Tok} {pos : Nat} {c : Bool} (h : TokAt ts pos c []) : (pkF ts pos 0).kind = 0 ∧ pos ≤ ts.length := by
  obtain ⟨t, h1, h2, _, h4⟩ := tok_drop (show _ = (0, [], 0) :: [] from h)
  rw [pk_of h1]
  exact ⟨congrArg (·.1) h2, Nat.le_of_lt h4⟩
theorem isB_no {t : Tok} {x : ByteArray} (h1 : t.kind ≠ 1) (h3 : t.kind ≠ 3) : isB t x = false := by
  unfold isB
  rw [decide_eq_false h1, decide_eq_false h3]; rfl
theorem at_num {ts : List Tok} {pos : Nat} {c : Bool} {x : Nat} {r : List Nat} (h : TokAt ts pos c (x :: r)) (hx : x < 4096) :
    (pkF ts pos 0).kind = 2 ∧ pos < ts.length ∧ nuV (pkF ts pos 0) 0 4095 = x ∧ nuP ts pos 0 0 4095 = pos + 1 ∧ (∀ off, nuO ts pos off 0 0 4095 = off) ∧ nuE ts pos 0 0 4095 = 0 ∧
      acF ts (pos + 1) 0 ⟨#[44]⟩ ≤ ts.length ∧ TokAt ts (acF ts (pos + 1) 0 ⟨#[44]⟩) c r := by
  have key : ∃ q, plainL c (x :: r) = (2, Lib.decDigits x, x) :: q := by
    cases r with
    | nil => exact ⟨_, rfl⟩
    | cons y r => exact ⟨_, rfl⟩
  obtain ⟨q, hq⟩ := key
  unfold TokAt at h
  obtain ⟨t, h1, h2, h3, h4⟩ := tok_drop (h.trans hq)
  have hk : t.kind = 2 := congrArg (·.1) h2
  have hn : t.n = x := congrArg (·.2.2) h2
  have hnb : nuB t 0 4095 = true := by
    unfold nuB
    rw [decide_eq_true hk, hn, decide_eq_false (by omega), decide_eq_false (by omega)]; rfl
  rw [pk_of h1]
  unfold nuV nuP nuO nuE
  rw [pk_of h1, hnb]
  simp only [if_true]
  refine ⟨hk, h4, hn, trivial, fun _ => trivial, trivial, ?_⟩
  cases r with
  | nil =>
    have e : q = [(0, [], 0)] := by injection hq with _ e; exact e.symm
    rw [e] at h3
    obtain ⟨u, u1, u2, _, u4⟩ := tok_drop h3
    have hu : u.kind = 0 := congrArg (·.1) u2
    have ha : acF ts (pos + 1) 0 ⟨#[44]⟩ = pos + 1 := by
      unfold acF
      rw [pk_of u1, isB_no (by omega) (by omega)]; rfl
    rw [ha]
    exact ⟨by omega, h3⟩
  | cons y r =>
    cases c with
    | false =>
      have e : q = plainL false (y :: r) := by injection hq with _ e; exact e.symm
      rw [e] at h3
      have key : ∃ q, plainL false (y :: r) = (2, Lib.decDigits y, y) :: q := by
        cases r with
        | nil => exact ⟨_, rfl⟩
        | cons y r => exact ⟨_, rfl⟩
      obtain ⟨q2, hq2⟩ := key
      obtain ⟨u, u1, u2, _, u4⟩ := tok_drop (h3.trans hq2)
      have hu : u.kind = 2 := congrArg (·.1) u2
      have ha : acF ts (pos + 1) 0 ⟨#[44]⟩ = pos + 1 := by
        unfold acF
        rw [pk_of u1, isB_no (by omega) (by omega)]; rfl
      rw [ha]
      exact ⟨by omega, h3⟩
    | true =>
      have e : q = (3, [44], 0) :: plainL true (y :: r) := by injection hq with _ e; exact e.symm
      rw [e] at h3
      obtain ⟨u, u1, u2, u3, u4⟩ := tok_drop h3
      have hu : u.kind = 3 := congrArg (·.1) u2
      have ht : u.text = [44] := congrArg (·.2.1) u2
      have hb : isB u ⟨#[44]⟩ = true := by
        unfold isB
        rw [decide_eq_true hu, ht, ByteArray.toList_eq]; simp
      have ha : acF ts (pos + 1) 0 ⟨#[44]⟩ = pos + 1 + 1 := by
        unfold acF
        rw [pk_of u1, hb]; rfl
      rw [ha]
      exact ⟨by omega, u3⟩
/-- The numbers of a list, ascending. -/
def setL (l : List Nat) : List Nat := (List.range 4096).filter fun x => decide (x ∈ l)
theorem mem_setL {l : List Nat} {x : Nat} : x ∈ setL l ↔ x < 4096 ∧ x ∈ l := by unfold setL; simp
theorem asc_setL (l : List Nat) : Asc (setL l) := ⟨(pw_range 4096).filter _, fun x hx => (mem_setL.1 hx).1⟩
theorem with_setL (l : List Nat) (k : Nat) (h : k < 4096) : withL (setL l) (k : Int) = setL (l ++ [k]) := by
  unfold withL
  rw [if_pos (by omega)]
  unfold setL
  refine List.filter_congr fun x hx => ?_
  have hx := List.mem_range.1 hx
  rw [Bool.eq_iff_iff, Bool.or_eq_true, decide_eq_true_iff, decide_eq_true_iff, decide_eq_true_iff]
  rw [show ((List.range 4096).filter fun x => decide (x ∈ l)) = setL l from rfl, mem_setL, List.mem_append, List.mem_singleton, Int.toNat_natCast]
  constructor
  · rintro (⟨_, h⟩ | h)
    · exact .inl h
    · exact .inr h
  · rintro (h | h)
    · exact .inl ⟨hx, h⟩
    · exact .inr h
theorem setL_setL (l : List Nat) : setL (setL l) = setL l := by
  refine List.filter_congr fun x hx => ?_
  rw [decide_eq_decide, mem_setL]
  exact ⟨fun h => h.2, fun h => ⟨List.mem_range.1 hx, h⟩⟩
theorem filter_or_len (p q : Nat → Bool) : ∀ L : List Nat, (L.filter fun x => p x || q x).length ≤ (L.filter p).length + (L.filter q).length
  | [] => by simp
  | a :: L => by
    have ih := filter_or_len p q L
    cases hp : p a <;> cases hq : q a <;> simp [List.filter_cons, hp, hq] <;> omega
theorem filter_eq_len (a n : Nat) : ((List.range n).filter fun x => decide (x = a)).length ≤ 1 := by
  induction n with
  | zero => simp
  | succ n ih =>
    rw [List.range_succ, List.filter_append, List.length_append]
    by_cases h : n = a
    · have : ((List.range n).filter fun x => decide (x = a)) = [] := by
        rw [List.filter_eq_nil_iff]
        intro x hx
        have := List.mem_range.1 hx
        simp; omega
      rw [this]; simp [List.filter_cons]; split <;> simp
    · have : ([n].filter fun x => decide (x = a)) = [] := by simp [h]
      rw [this]; simpa using ih
theorem setL_len : ∀ l : List Nat, (setL l).length ≤ l.length
  | [] => by
    have : setL [] = [] := by unfold setL; simp
    rw [this]; exact Nat.le_refl _
  | a :: l => by
    have h1 := setL_len l
    have h2 := filter_or_len (fun x => decide (x = a)) (fun x => decide (x ∈ l)) (List.range 4096)
    have h3 := filter_eq_len a 4096
    have e : setL (a :: l) = (List.range 4096).filter fun x => decide (x = a) || decide (x ∈ l) := by
      unfold setL
      refine List.filter_congr fun x _ => ?_
      rw [Bool.eq_iff_iff, Bool.or_eq_true, decide_eq_true_iff, decide_eq_true_iff, decide_eq_true_iff, List.mem_cons]
    rw [e, List.length_cons]
    unfold setL at h1
    omega
end Go.Proofs.YtkmchnggcjmchaaDoor.Ts
