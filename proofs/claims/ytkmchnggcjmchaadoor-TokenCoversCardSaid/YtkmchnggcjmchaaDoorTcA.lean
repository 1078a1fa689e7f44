/- Plain: each token of a source stands at its offset, and what lies between consists of blanks and comments. -/
import Derived.Test.YtkmchnggcjmchaaDoorTkSpec
import Derived.Lib.SplitLaws
import Derived.Lib.SlTrimSet
namespace Go.Proofs.YtkmchnggcjmchaaDoor
open Go.RowKit Go.PlainAid
set_option linter.unusedVariables false
set_option linter.unusedSimpArgs false

/-- The lines of a text. -/
def linesL (c : UInt8) : List UInt8 → List (List UInt8)
  | [] => [[]]
  | b :: l => if b = c then [] :: linesL c l else match linesL c l with
    | [] => [[b]]
    | h :: t => (b :: h) :: t
theorem linesL_ne (c : UInt8) : ∀ l, linesL c l ≠ []
  | [] => by simp [linesL]
  | b :: l => by
    rw [linesL]
    split
    · simp
    · split <;> simp
theorem linesL_put {b c : UInt8} {l h : List UInt8} {t : List (List UInt8)} (hb : b ≠ c) (hl : linesL c l = h :: t) : linesL c (b :: l) = (b :: h) :: t := by
  rw [linesL, if_neg hb, hl]
theorem linesL_cut {c : UInt8} (l : List UInt8) : linesL c (c :: l) = [] :: linesL c l := by
  rw [linesL, if_pos rfl]
theorem index_ne {b c : UInt8} (l : List UInt8) (h : b ≠ c) : Lib.index (b :: l) [c] = if Lib.index l [c] == -1 then -1 else Lib.index l [c] + 1 := by
  have hp : ([c] : List UInt8).isPrefixOf (b :: l) = false := by simp [List.isPrefixOf, Ne.symm h]
  rw [Lib.index, hp]; simp
theorem index_eq (c : UInt8) (l : List UInt8) : Lib.index (c :: l) [c] = 0 := by
  rw [Lib.index]; simp [List.isPrefixOf]
theorem split_lines (c : UInt8) : ∀ l : List UInt8, Lib.splitK [c] 0 (l.count c) l = linesL c l
  | [] => rfl
  | b :: l => by
    have ih := split_lines c l
    by_cases h : b = c
    · subst h
      rw [List.count_cons_self, Lib.splitK, index_eq, if_neg (by decide), linesL_cut]
      simp only [Int.toNat_zero, Nat.zero_add, List.take_zero, List.length_singleton, List.drop_succ_cons, List.drop_zero]
      rw [ih]
    · rw [List.count_cons_of_ne (by simpa using h)]
      cases hn : l.count c with
      | zero =>
        rw [hn] at ih
        exact (linesL_put h (ih.symm)).symm
      | succ k =>
        rw [hn, Lib.splitK] at ih
        have hi := index_ne l h
        by_cases hm : Lib.index l [c] == -1
        · rw [if_pos hm] at ih hi
          rw [Lib.splitK, hi, if_pos (by decide)]
          exact (linesL_put h ih.symm).symm
        · rw [if_neg hm] at ih hi
          have hge := Lib.index_ge l [c]
          have hne : Lib.index l [c] ≠ -1 := fun e => hm (by rw [e]; decide)
          obtain ⟨j, hj⟩ : ∃ j : Nat, Lib.index l [c] = j := ⟨(Lib.index l [c]).toNat, by omega⟩
          rw [hj] at ih hi
          have hi2 : Lib.index (b :: l) [c] = ((j + 1 : Nat) : Int) := by rw [hi]; rfl
          rw [Lib.splitK, hi2, if_neg (fun e => by have := beq_iff_eq.1 e; omega)]
          refine ((linesL_put h ih.symm).symm ▸ ?_)
          simp only [Int.toNat_natCast, Nat.add_zero, List.length_singleton, List.take_succ_cons]
          congr 1
theorem cut_one (c : UInt8) : ∀ l : List UInt8, (Lib.cut l [c]).1 = l.takeWhile (fun b => b != c)
  | [] => rfl
  | b :: l => by
    have ih := cut_one c l
    unfold Lib.cut at ih ⊢
    by_cases h : b = c
    · subst h
      rw [index_eq, if_pos (by decide), List.takeWhile_cons_of_neg (by simp)]; rfl
    · rw [List.takeWhile_cons_of_pos (by simpa using h), ← ih]
      have hi := index_ne l h
      have hge := Lib.index_ge l [c]
      by_cases hm : Lib.index l [c] == -1
      · have e := beq_iff_eq.1 hm
        rw [hi, if_pos hm, if_neg (by decide), if_neg (by omega)]
      · have hne : Lib.index l [c] ≠ -1 := fun e => hm (by rw [e]; decide)
        obtain ⟨j, hj⟩ : ∃ j : Nat, Lib.index l [c] = j := ⟨(Lib.index l [c]).toNat, by omega⟩
        rw [if_neg hm, hj] at hi
        rw [hi, hj, if_pos (by omega), if_pos (by omega)]
        show (b :: l).take ((j : Int) + 1).toNat = b :: l.take ((j : Int)).toNat
        rw [show ((j : Int) + 1).toNat = j + 1 by omega, Int.toNat_natCast, List.take_succ_cons]
/-- Before a comment a line holds blanks alone. -/
def goodL (x : List UInt8) : Prop := ∀ b ∈ x.takeWhile (fun b => b != 35), b = 32 ∨ b = 9 ∨ b = 13
theorem goodL_nil : goodL [] := fun b hb => by cases hb
theorem goodL_put {b : UInt8} {x : List UInt8} (hb : b = 32 ∨ b = 9 ∨ b = 13) (h : goodL x) : goodL (b :: x) := by
  intro y hy
  rw [List.takeWhile_cons_of_pos (by rcases hb with rfl | rfl | rfl <;> decide)] at hy
  rcases List.mem_cons.1 hy with rfl | hy
  · exact hb
  · exact h y hy
theorem goodL_hash (x : List UInt8) : goodL (35 :: x) := by
  intro y hy
  rw [List.takeWhile_cons_of_neg (by decide)] at hy
  cases hy
theorem u8_eq {c : UInt8} {n : Nat} (h : (c.toNat : Int) = n) (hn : n < 256) : c = UInt8.ofNat n := by
  apply UInt8.toNat_inj.1
  rw [UInt8.toNat_ofNat']
  omega
theorem skip_lines : ∀ (l : List UInt8), (∀ x ∈ linesL 10 (l.take (skipL false l)), goodL x) ∧ (∀ x ∈ (linesL 10 (l.take (skipL true l))).tail, goodL x)
  | [] => ⟨fun x hx => by simp [linesL] at hx; rw [hx]; exact goodL_nil, fun x hx => by simp [linesL] at hx⟩
  | c :: r => by
    obtain ⟨h1, h2⟩ := skip_lines r
    constructor
    · rw [skipL]
      simp only [Bool.false_eq_true, if_false]
      by_cases hb : blkB c.toNat = true
      · rw [if_pos hb, List.take_succ_cons]
        by_cases hc : c = 10
        · subst hc
          rw [linesL_cut]
          intro x hx
          rcases List.mem_cons.1 hx with rfl | hx
          · exact goodL_nil
          · exact h1 x hx
        · have hb3 : c = 32 ∨ c = 9 ∨ c = 13 := by
            unfold blkB at hb
            simp only [Bool.or_eq_true, decide_eq_true_eq] at hb
            rcases hb with ((hb | hb) | hb) | hb
            · exact .inl (u8_eq (n := 32) hb (by omega))
            · exact .inr (.inl (u8_eq (n := 9) hb (by omega)))
            · exact absurd (u8_eq (n := 10) hb (by omega)) hc
            · exact .inr (.inr (u8_eq (n := 13) hb (by omega)))
          obtain ⟨h, t, e⟩ := List.exists_cons_of_ne_nil (linesL_ne 10 (r.take (skipL false r)))
          rw [linesL_put hc e]
          rw [e] at h1
          intro x hx
          rcases List.mem_cons.1 hx with rfl | hx
          · exact goodL_put hb3 (h1 h (by simp))
          · exact h1 x (by simp [hx])
      · rw [if_neg hb]
        by_cases hh : (c.toNat : Int) = 35
        · rw [if_pos hh, List.take_succ_cons]
          have hc : c = 35 := u8_eq (n := 35) hh (by omega)
          subst hc
          obtain ⟨h, t, e⟩ := List.exists_cons_of_ne_nil (linesL_ne 10 (r.take (skipL true r)))
          rw [linesL_put (by decide) e]
          rw [e] at h2
          intro x hx
          rcases List.mem_cons.1 hx with rfl | hx
          · exact goodL_hash _
          · exact h2 x hx
        · rw [if_neg hh]
          intro x hx
          simp [linesL] at hx
          rw [hx]; exact goodL_nil
    · rw [skipL]
      simp only [if_true]
      rw [List.take_succ_cons]
      by_cases hc : c = 10
      · subst hc
        rw [linesL_cut]
        have e : nlB ((10 : UInt8).toNat : Int) = false := by decide
        rw [e]
        exact fun x hx => h1 x hx
      · have e2 : nlB c.toNat = true := by
          unfold nlB
          simp only [Bool.not_eq_true', decide_eq_false_iff_not]
          exact fun h => hc (u8_eq (n := 10) h (by omega))
        rw [e2]
        obtain ⟨h, t, e⟩ := List.exists_cons_of_ne_nil (linesL_ne 10 (r.take (skipL true r)))
        rw [linesL_put hc e]
        rw [e] at h2
        exact fun x hx => h2 x hx
theorem drop_all {p : UInt8 → Bool} : ∀ l : List UInt8, (∀ x ∈ l, p x = true) → l.dropWhile p = []
  | [], _ => rfl
  | b :: l, h => by rw [List.dropWhile_cons_of_pos (h b (by simp))]; exact drop_all l (fun x hx => h x (by simp [hx]))
theorem trim_good {x : List UInt8} (h : goodL x) : Lib.trimS (Lib.cut x [35]).1 [32, 9, 13] = [] := by
  rw [cut_one]
  have hall : ∀ y ∈ x.takeWhile (fun b => b != 35), ([32, 9, 13] : List UInt8).contains y = true := fun y hy => by
    rcases h y hy with rfl | rfl | rfl <;> decide
  generalize x.takeWhile (fun b => b != 35) = g at hall
  have e : Lib.trimRightS g [32, 9, 13] = [] := by
    unfold Lib.trimRightS
    rw [drop_all _ (fun y hy => hall y (List.mem_reverse.1 hy))]; rfl
  unfold Lib.trimS
  rw [e]; rfl
def GapOk (l : List UInt8) (a b : Nat) : Prop := ∀ x ∈ linesL 10 ((l.drop a).take (b - a)), goodL x
/-- The tokens cover the text from a place on. -/
def Cov (l : List UInt8) : Nat → List Tok → Prop
  | _, [] => False
  | p, [x] => x.kind = 0 ∧ x.text = [] ∧ x.pos = l.length ∧ p ≤ x.pos ∧ GapOk l p x.pos
  | p, x :: y :: r => x.kind ≠ 0 ∧ x.text ≠ [] ∧ p ≤ x.pos ∧ x.pos + x.text.length ≤ l.length ∧ (l.drop x.pos).take x.text.length = x.text ∧ GapOk l p x.pos ∧ Cov l (x.pos + x.text.length) (y :: r)
theorem tok_facts {l t : List UInt8} {kd n : Nat} (h : tokL l = some (kd, t, n)) : kd ≠ 0 ∧ t ≠ [] ∧ l.take t.length = t := by
  cases l with
  | nil => cases h
  | cons c r =>
    rw [tokL] at h
    have pre : ∀ k, 0 < k → ((c :: r).take k) ≠ [] ∧ (c :: r).take ((c :: r).take k).length = (c :: r).take k := fun k hk => by
      refine ⟨?_, ?_⟩
      · cases k with
        | zero => omega
        | succ k => simp
      · rw [List.length_take, ← List.take_take, List.take_length]
    split at h
    · rename_i hl
      cases h
      have hr : 0 < runL innB (c :: r) := by rw [runL, if_pos (by unfold innB; rw [hl]; rfl)]; omega
      exact ⟨by decide, pre _ hr⟩
    · split at h
      · rename_i hd
        split at h
        · cases h
          have hr : 0 < runL digB (c :: r) := by rw [runL, if_pos hd]; omega
          exact ⟨by decide, pre _ hr⟩
        · cases h
      · cases hs : symL (c :: r) with
        | none => rw [hs] at h; cases h
        | some x =>
          rw [hs] at h
          cases h
          have h1 := List.find?_some hs
          have h2 := List.mem_of_find?_eq_some hs
          refine ⟨by decide, ?_, ?_⟩
          · rintro rfl
            revert h2; decide
          · have := List.isPrefixOf_iff_prefix.1 h1
            obtain ⟨z, hz⟩ := this
            rw [← hz]; simp
theorem scan_cov (L : List UInt8) : ∀ (f a p : Nat), a ≤ L.length → L.length - a < f → p ≤ a → GapOk L p a → (scanA f a (L.drop a)).2.2 = 0 → Cov L p (scanA f a (L.drop a)).1
  | 0, a, p, _, hf, _, _, _ => by omega
  | f + 1, a, p, ha, hf, hp, hg, h => by
    cases hl : L.drop a with
    | nil =>
      have : L.length ≤ a := by
        have := congrArg List.length hl
        rw [List.length_drop, List.length_nil] at this; omega
      rw [scanA]
      exact ⟨rfl, rfl, by show a = L.length; omega, hp, hg⟩
    | cons c r =>
      rw [hl] at h
      rw [scanA] at h ⊢
      dsimp only at h ⊢
      cases ht : tokL (c :: r) with
      | none => rw [ht] at h; cases h
      | some v =>
        obtain ⟨kd, t, n⟩ := v
        rw [ht] at h
        dsimp only at h ⊢
        obtain ⟨h1, h2, h3⟩ := tok_facts ht
        have hlen : (c :: r).length = L.length - a := by rw [← hl, List.length_drop]
        have htl : t.length ≤ (c :: r).length := by
          have := congrArg List.length h3
          rw [List.length_take] at this; omega
        have htp : 0 < t.length := List.length_pos_iff.2 h2
        have e1 : (c :: r).drop t.length = L.drop (a + t.length) := by rw [← hl, List.drop_drop]
        have hsk := skipL_le ((c :: r).drop t.length) false
        rw [List.length_drop] at hsk
        generalize hk : skipL false ((c :: r).drop t.length) = k at h hsk ⊢
        have e2 : (c :: r).drop (t.length + k) = L.drop (a + (t.length + k)) := by rw [← hl, List.drop_drop]
        rw [e2] at h ⊢
        have hgap : GapOk L (a + t.length) (a + (t.length + k)) := by
          unfold GapOk
          rw [show a + (t.length + k) - (a + t.length) = k by omega, ← e1, ← hk]
          exact (skip_lines _).1
        have ih := scan_cov L f (a + (t.length + k)) (a + t.length) (by omega) (by omega) (by omega) hgap h
        cases hq : (scanA f (a + (t.length + k)) (L.drop (a + (t.length + k)))).1 with
        | nil => rw [hq] at ih; exact ih.elim
        | cons y r' =>
          rw [hq] at ih
          exact ⟨h1, h2, hp, by show a + t.length ≤ _; omega, by show (L.drop a).take t.length = t; rw [hl]; exact h3, hg, ih⟩
theorem scanR_cov {l : List UInt8} (h : (scanR l).2.2 = 0) : Cov l 0 (scanR l).1 := by
  unfold scanR at h ⊢
  have hsk := skipL_le l false
  refine scan_cov l _ _ 0 hsk (by omega) (by omega) ?_ h
  unfold GapOk
  rw [Nat.sub_zero, List.drop_zero]
  exact (skip_lines l).1
end Go.Proofs.YtkmchnggcjmchaaDoor
