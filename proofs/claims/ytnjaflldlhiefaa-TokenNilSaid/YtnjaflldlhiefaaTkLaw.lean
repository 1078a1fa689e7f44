/- Plain laws of the scanner: tokens that are laid with blanks between them are scanned again. -/
import Derived.Test.YtnjaflldlhiefaaTkSpec
import Derived.Lib.Join
namespace Go.Proofs.Ytnjaflldlhiefaa
open Go.RowKit Go.PlainAid
set_option linter.unusedVariables false

/-- A text before which a token ends. -/
def Sep : List UInt8 → Prop
  | [] => True
  | c :: _ => blkB c.toNat = true ∨ (c.toNat : Int) = 35
/-- A text that begins neither with a blank nor with a comment. -/
def Bare : List UInt8 → Prop
  | [] => True
  | c :: _ => blkB c.toNat = false ∧ (c.toNat : Int) ≠ 35

theorem sep_inn {c : UInt8} {r : List UInt8} (h : Sep (c :: r)) : innB c.toNat = false := by
  rcases h with h | h
  · simp only [blkB, Bool.or_eq_true, decide_eq_true_eq] at h
    unfold innB letB digB
    simp only [Bool.or_eq_false_iff, Bool.and_eq_false_iff, decide_eq_false_iff_not]
    omega
  · rw [h]; rfl
theorem sep_dig {c : UInt8} {r : List UInt8} (h : Sep (c :: r)) : digB c.toNat = false := by
  have := sep_inn h
  unfold innB at this
  simp only [Bool.or_eq_false_iff] at this
  exact this.1.2
theorem sep_let {c : UInt8} {r : List UInt8} (h : Sep (c :: r)) : letB c.toNat = false := by
  have := sep_inn h
  unfold innB at this
  simp only [Bool.or_eq_false_iff] at this
  exact this.1.1
theorem run_take (p : Int → Bool) : ∀ (l r : List UInt8), (r = [] ∨ ∃ c t, r = c :: t ∧ p c.toNat = false) → runL p (l.take (runL p l) ++ r) = runL p l
  | [], r, hr => by
    rcases hr with rfl | ⟨c, t, rfl, h⟩
    · rfl
    · simp [runL, h]
  | c :: l, r, hr => by
    by_cases h : p c.toNat = true
    · have e : runL p (c :: l) = runL p l + 1 := by rw [runL, if_pos h]
      rw [e, List.take_succ_cons, List.cons_append, runL, if_pos h, run_take p l r hr]
    · have e : runL p (c :: l) = 0 := by rw [runL, if_neg h]
      rw [e, List.take_zero, List.nil_append]
      rcases hr with rfl | ⟨c', t, rfl, h'⟩
      · rfl
      · show runL p (c' :: t) = 0
        rw [runL, if_neg (by rw [h']; simp)]
theorem run_len (p : Int → Bool) (l : List UInt8) : (l.take (runL p l)).length = runL p l := by
  rw [List.length_take]; have := runL_le p l; omega
theorem sep_cases (p : Int → Bool) {r : List UInt8} (h : Sep r) (hp : ∀ c t, Sep (c :: t) → p c.toNat = false) : r = [] ∨ ∃ c t, r = c :: t ∧ p c.toNat = false := by
  cases r with
  | nil => exact .inl rfl
  | cons c t => exact .inr ⟨c, t, rfl, hp c t h⟩
theorem sep_after {r : List UInt8} (h : Sep r) : afterB r = false := by
  cases r with
  | nil => rfl
  | cons c t =>
    show (letB c.toNat || decide ((c.toNat : Int) = 95)) = false
    rw [sep_let h]
    rcases h with h | h
    · simp only [blkB, Bool.or_eq_true, decide_eq_true_eq] at h
      simp only [Bool.false_or, decide_eq_false_iff_not]; omega
    · rw [h]; rfl

/-- The symbols, before whatever ends a token. -/
theorem sym_sep (x : List UInt8) (hx : x ∈ syms) (r : List UInt8) (h : Sep r) : symL (x ++ r) = some x := by
  have hr : r = [] ∨ ∃ t, r = 32 :: t ∨ r = 9 :: t ∨ r = 10 :: t ∨ r = 13 :: t ∨ r = 35 :: t := by
    cases r with
    | nil => exact .inl rfl
    | cons c t =>
      refine .inr ⟨t, ?_⟩
      have : c = 32 ∨ c = 9 ∨ c = 10 ∨ c = 13 ∨ c = 35 := by
        have hc : c.toNat = 32 ∨ c.toNat = 9 ∨ c.toNat = 10 ∨ c.toNat = 13 ∨ c.toNat = 35 := by
          rcases h with h | h
          · simp only [blkB, Bool.or_eq_true, decide_eq_true_eq] at h; omega
          · omega
        rcases hc with hc | hc | hc | hc | hc
        · exact .inl (UInt8.toNat_inj.1 hc)
        · exact .inr (.inl (UInt8.toNat_inj.1 hc))
        · exact .inr (.inr (.inl (UInt8.toNat_inj.1 hc)))
        · exact .inr (.inr (.inr (.inl (UInt8.toNat_inj.1 hc))))
        · exact .inr (.inr (.inr (.inr (UInt8.toNat_inj.1 hc))))
      rcases this with rfl | rfl | rfl | rfl | rfl <;> simp
  simp only [syms, List.mem_cons, List.mem_nil_iff, or_false] at hx
  rcases hr with rfl | ⟨t, rfl | rfl | rfl | rfl | rfl⟩ <;>
    rcases hx with rfl | rfl | rfl | rfl | rfl | rfl | rfl | rfl | rfl | rfl | rfl | rfl | rfl <;> rfl
theorem sym_head (x : List UInt8) (hx : x ∈ syms) : ∃ c t, x = c :: t ∧ letB c.toNat = false ∧ digB c.toNat = false ∧ blkB c.toNat = false ∧ (c.toNat : Int) ≠ 35 := by
  simp only [syms, List.mem_cons, List.mem_nil_iff, or_false] at hx
  rcases hx with rfl | rfl | rfl | rfl | rfl | rfl | rfl | rfl | rfl | rfl | rfl | rfl | rfl <;> exact ⟨_, _, rfl, rfl, rfl, rfl, by decide⟩

/-- A token that stands before an end of tokens is a token there. -/
theorem tok_again {l : List UInt8} {k n : Nat} {t : List UInt8} (h : tokL l = some (k, t, n)) :
    (∃ c r, t = c :: r ∧ blkB c.toNat = false ∧ (c.toNat : Int) ≠ 35) ∧ ∀ r, Sep r → tokL (t ++ r) = some (k, t, n) := by
  match l with
  | [] => simp [tokL] at h
  | c :: l' =>
    rw [tokL] at h
    split at h
    · rename_i hl
      cases h
      have hi : innB c.toNat = true := by unfold innB; rw [hl]; rfl
      have hrun : runL innB (c :: l') = runL innB l' + 1 := by rw [runL, if_pos hi]
      have ht : (c :: l').take (runL innB (c :: l')) = c :: l'.take (runL innB l') := by rw [hrun, List.take_succ_cons]
      refine ⟨⟨c, l'.take (runL innB l'), ht, ?_, ?_⟩, fun r hr => ?_⟩
      · unfold letB at hl; simp only [Bool.and_eq_true, decide_eq_true_eq] at hl
        unfold blkB; simp only [Bool.or_eq_false_iff, decide_eq_false_iff_not]; omega
      · unfold letB at hl; simp only [Bool.and_eq_true, decide_eq_true_eq] at hl; omega
      · have h2 := run_take innB (c :: l') r (sep_cases innB hr fun c t h => sep_inn h)
        rw [ht] at h2 ⊢
        rw [List.cons_append, tokL, if_pos hl, ← List.cons_append, h2, hrun]
        rw [List.take_left' (by simp only [List.length_cons, run_len])]
    · rename_i hl
      split at h
      · rename_i hd
        split at h
        · rename_i ho
          cases h
          have hrun : runL digB (c :: l') = runL digB l' + 1 := by rw [runL, if_pos hd]
          have ht : (c :: l').take (runL digB (c :: l')) = c :: l'.take (runL digB l') := by rw [hrun, List.take_succ_cons]
          refine ⟨⟨c, l'.take (runL digB l'), ht, ?_, ?_⟩, fun r hr => ?_⟩
          · have := dig_of hd
            unfold blkB; simp only [Bool.or_eq_false_iff, decide_eq_false_iff_not]; omega
          · have := dig_of hd; omega
          · have h2 := run_take digB (c :: l') r (sep_cases digB hr fun c t h => sep_dig h)
            have hlen := run_len digB (c :: l')
            have htk : ((c :: l').take (runL digB (c :: l')) ++ r).take (runL digB (c :: l')) = (c :: l').take (runL digB (c :: l')) := List.take_left' hlen
            have hdr : ((c :: l').take (runL digB (c :: l')) ++ r).drop (runL digB (c :: l')) = r := List.drop_left' hlen
            have hno : numOk ((c :: l').take (runL digB (c :: l')) ++ r) = true := by
              unfold numOk at ho ⊢
              rw [h2, hdr, sep_after hr]
              have hz : zeroB ((c :: l').take (runL digB (c :: l')) ++ r) = zeroB (c :: l') := by rw [ht]; rfl
              rw [hz]
              simp only [Bool.not_eq_true', Bool.or_eq_false_iff] at ho ⊢
              exact ⟨ho.1, trivial⟩
            have hcons : (c :: l').take (runL digB (c :: l')) ++ r = c :: (l'.take (runL digB l') ++ r) := by rw [ht]; rfl
            rw [hcons] at h2 htk hno ⊢
            rw [tokL, if_neg hl, if_pos hd, if_pos hno, h2, htk]
        · cases h
      · rename_i hd
        simp only [Option.map_eq_some_iff] at h
        obtain ⟨x, hx, h⟩ := h
        cases h
        have hm : t ∈ syms := List.mem_of_find?_eq_some hx
        obtain ⟨c', t', hc, h1, h2, h3, h4⟩ := sym_head t hm
        refine ⟨⟨c', t', hc, h3, h4⟩, fun r hr => ?_⟩
        have hs := sym_sep t hm r hr
        rw [hc] at hs ⊢
        rw [List.cons_append] at hs ⊢
        rw [tokL, if_neg (by rw [h1]; simp), if_neg (by rw [h2]; simp), hs]
        rfl

theorem skip_bare {l : List UInt8} (h : Bare l) : skipL false l = 0 := by
  cases l with
  | nil => rfl
  | cons c r => rw [skipL]; simp [h.1, h.2]
/-- Blanks (and whole comments) that end before what follows. -/
def Gap (b : List UInt8) : Prop := Sep b ∧ ∀ l, Bare l → skipL false (b ++ l) = b.length

/-- Tokens of a source: each is one, but for the last. -/
def IsTok (t : Tok) : Prop := ∃ l, tokL l = some (t.kind, t.text, t.n)
def plainT (t : Tok) : Nat × List UInt8 × Nat := (t.kind, t.text, t.n)

/-- Tokens with texts between them. -/
def lay : List (List UInt8 × Tok) → List UInt8 → List UInt8
  | [], e => e
  | (b, t) :: r, e => b ++ (t.text ++ lay r e)

theorem bare_tok {t : Tok} (h : IsTok t) (r : List UInt8) : Bare (t.text ++ r) := by
  obtain ⟨l, hl⟩ := h
  obtain ⟨⟨c, r', hc, h1, h2⟩, _⟩ := tok_again hl
  rw [hc]; exact ⟨h1, h2⟩
theorem sep_lay : ∀ (r : List (List UInt8 × Tok)) (e : List UInt8), (∀ x ∈ r, Gap x.1 ∧ x.1 ≠ [] ∧ IsTok x.2) → Sep e → Sep (lay r e)
  | [], e, _, he => he
  | (b, t) :: r, e, h, he => by
    obtain ⟨hg, hne, ht⟩ := h (b, t) List.mem_cons_self
    unfold lay
    cases b with
    | nil => exact absurd rfl hne
    | cons c b => exact hg.1

/-- What is laid so is scanned to the same tokens. -/
theorem scan_lay : ∀ (r : List (List UInt8 × Tok)) (e : List UInt8) (f a : Nat), (∀ x ∈ r, Gap x.1 ∧ IsTok x.2) → (∀ x ∈ r.tail, x.1 ≠ []) → Sep e → skipL false e = e.length → r.length < f →
    let q := scanA f (a + skipL false (lay r e)) ((lay r e).drop (skipL false (lay r e)))
    q.2 = (0, 0) ∧ q.1.map plainT = r.map (fun x => plainT x.2) ++ [(0, [], 0)]
  | [], e, f, a, _, _, he, hs, hf => by
    obtain ⟨f, rfl⟩ : ∃ g, f = g + 1 := ⟨f - 1, by simp at hf; omega⟩
    simp only [lay, hs, List.drop_length, scanA]
    exact ⟨trivial, rfl⟩
  | (b, t) :: r, e, f, a, h, hn, he, hs, hf => by
    obtain ⟨hg, ht⟩ := h (b, t) List.mem_cons_self
    obtain ⟨f, rfl⟩ : ∃ g, f = g + 1 := ⟨f - 1, by simp at hf; omega⟩
    have hr : ∀ x ∈ r, Gap x.1 ∧ IsTok x.2 := fun x hx => h x (List.mem_cons_of_mem _ hx)
    have hnr : ∀ x ∈ r, x.1 ≠ [] := hn
    have hsep := sep_lay r e (fun x hx => ⟨(hr x hx).1, hnr x hx, (hr x hx).2⟩) he
    have hskip : skipL false (b ++ (t.text ++ lay r e)) = b.length := hg.2 _ (bare_tok ht _)
    obtain ⟨l, hl⟩ := ht
    obtain ⟨⟨c, r', hc, _⟩, hagain⟩ := tok_again hl
    have htok := hagain _ hsep
    have ih := scan_lay r e f (a + b.length + t.text.length) hr (fun x hx => hnr x (List.mem_of_mem_tail hx)) he hs (by simpa using hf)
    simp only [lay, hskip, List.drop_left' rfl]
    have hcons : t.text ++ lay r e = c :: (r' ++ lay r e) := by rw [hc]; rfl
    rw [hcons] at htok ⊢
    simp only [scanA, htok]
    rw [← hcons]
    have hd1 : (t.text ++ lay r e).drop t.text.length = lay r e := List.drop_left' rfl
    have hd2 : ∀ m, (t.text ++ lay r e).drop (t.text.length + m) = (lay r e).drop m := fun m => by rw [← List.drop_drop, List.drop_left' rfl]
    rw [hd1, hd2, ← Nat.add_assoc]
    exact ⟨ih.1, by simp only [List.map_cons, List.cons_append]; rw [ih.2]; rfl⟩

/-! ### What a scan gives -/
theorem tokL_len {l : List UInt8} {k n : Nat} {t : List UInt8} (h : tokL l = some (k, t, n)) : 1 ≤ t.length ∧ t.length ≤ l.length ∧ k ≠ 0 := by
  match l with
  | [] => simp [tokL] at h
  | c :: l' =>
    rw [tokL] at h
    split at h
    · rename_i hl
      cases h
      rw [run_len]
      have hi : innB c.toNat = true := by unfold innB; rw [hl]; rfl
      exact ⟨by rw [runL, if_pos hi]; omega, runL_le _ _, by decide⟩
    · split at h
      · rename_i hd
        split at h
        · cases h
          rw [run_len]
          exact ⟨by rw [runL, if_pos hd]; omega, runL_le _ _, by decide⟩
        · cases h
      · simp only [Option.map_eq_some_iff] at h
        obtain ⟨x, hx, h⟩ := h
        cases h
        have := symL_len hx
        exact ⟨this.1, this.2.2.1, by decide⟩
def texts : List Tok → Nat
  | [] => 0
  | t :: r => t.text.length + texts r
theorem scanA_shape : ∀ (f a : Nat) (l : List UInt8), l.length < f → (scanA f a l).2.2 = 0 →
    ∃ ts p, (scanA f a l).1 = ts ++ [⟨0, [], 0, p⟩] ∧ (scanA f a l).2.1 = 0 ∧ (∀ t ∈ ts, IsTok t) ∧ texts ts ≤ l.length ∧ ts.length ≤ l.length
  | 0, a, l, hf, _ => by omega
  | f + 1, a, [], _, _ => ⟨[], a, rfl, rfl, by simp, by simp [texts], by simp⟩
  | f + 1, a, c :: r, hf, he => by
    simp only [scanA] at he ⊢
    cases ht : tokL (c :: r) with
    | none => rw [ht] at he; simp at he
    | some x =>
      obtain ⟨kd, t, n⟩ := x
      rw [ht] at he
      simp only at he ⊢
      obtain ⟨h1, h2, h3⟩ := tokL_len ht
      have hl : ((c :: r).drop (t.length + skipL false ((c :: r).drop t.length))).length = (c :: r).length - (t.length + skipL false ((c :: r).drop t.length)) := List.length_drop
      obtain ⟨ts, p, e1, e2, e3, e4, e5⟩ := scanA_shape f _ _ (by omega) he
      refine ⟨⟨kd, t, n, a⟩ :: ts, p, by rw [e1]; rfl, e2, ?_, by simp only [texts]; omega, by simp only [List.length_cons]; simp only [List.length_cons] at hl e5; omega⟩
      intro u hu
      rcases List.mem_cons.1 hu with rfl | hu
      · exact ⟨_, ht⟩
      · exact e3 u hu
theorem scanP_shape {l : List UInt8} (he : (scanP l).2.2 = 0) :
    ∃ ts p, (scanP l).1 = ts ++ [⟨0, [], 0, p⟩] ∧ (scanP l).2.1 = 0 ∧ (∀ t ∈ ts, IsTok t) ∧ texts ts ≤ l.length ∧ ts.length ≤ l.length := by
  unfold scanP at he ⊢
  split at he
  · simp at he
  · rename_i h8
    rw [if_neg h8]
    split at he
    · rename_i h0
      rw [if_pos h0]
      unfold scanR at h0 ⊢
      have hl : (l.drop (skipL false l)).length = l.length - skipL false l := List.length_drop
      obtain ⟨ts, p, e1, e2, e3, e4, e5⟩ := scanA_shape (l.length + 1) (skipL false l) (l.drop (skipL false l)) (by omega) h0
      exact ⟨ts, p, e1, e2, e3, by omega, by omega⟩
    · rename_i h0; exact absurd he h0
theorem scanP_err {l : List UInt8} (he : (scanP l).2.2 ≠ 0) : (scanP l).1 = [] := by
  unfold scanP at he ⊢
  split
  · rfl
  · rename_i h8
    rw [if_neg h8] at he
    split
    · rename_i h0; rw [if_pos h0] at he; exact absurd h0 he
    · rfl
/-- The scan of tokens with gaps. -/
theorem scanP_lay (r : List (List UInt8 × Tok)) (e : List UInt8) (h : ∀ x ∈ r, Gap x.1 ∧ IsTok x.2) (hn : ∀ x ∈ r.tail, x.1 ≠ []) (he : Sep e) (hs : skipL false e = e.length) (hl : (lay r e).length ≤ 8000) (hr : r.length ≤ (lay r e).length) :
    (scanP (lay r e)).2 = (0, 0) ∧ (scanP (lay r e)).1.map plainT = r.map (fun x => plainT x.2) ++ [(0, [], 0)] := by
  have h1 := scan_lay r e ((lay r e).length + 1) 0 h hn he hs (by omega)
  simp only [Nat.zero_add] at h1
  unfold scanP
  rw [if_neg (by omega)]
  unfold scanR
  rw [if_pos (by rw [h1.1])]
  exact h1

/-! ### Joined with blanks -/
def spaced : List Tok → List (List UInt8 × Tok)
  | [] => []
  | t :: r => ([], t) :: r.map fun u => ([32], u)
theorem lay_tail (r : List Tok) : lay (r.map fun u => ([32], u)) [] = Lib.joinTail [32] (r.map (·.text)) := by
  induction r with
  | nil => rfl
  | cons t r ih => simp only [List.map_cons, lay, ih, Lib.joinTail]; simp
theorem lay_spaced (ts : List Tok) : lay (spaced ts) [] = Lib.join (ts.map (·.text)) [32] := by
  cases ts with
  | nil => rfl
  | cons t r => rw [List.map_cons, Lib.join_cons]; simp only [spaced, lay, lay_tail, List.nil_append]
theorem gap_nil : Gap [] := ⟨trivial, fun l h => skip_bare h⟩
theorem gap_32 : Gap [32] := ⟨.inl rfl, fun l h => by
  have : skipL false ([32] ++ l) = skipL false l + 1 := rfl
  rw [this, skip_bare h]; rfl⟩
theorem texts_le : ∀ (ts : List Tok) (t : Tok), t ∈ ts → t.text.length ≤ texts ts
  | [], t, h => by simp at h
  | u :: r, t, h => by
    rcases List.mem_cons.1 h with rfl | h
    · simp only [texts]; omega
    · have := texts_le r t h; simp only [texts]; omega
theorem joinTail_len (r : List Tok) : (Lib.joinTail [32] (r.map (·.text))).length = texts r + r.length := by
  induction r with
  | nil => rfl
  | cons t r ih => simp only [List.map_cons, Lib.joinTail, List.flatten_cons, List.length_append, texts, List.length_cons] at ih ⊢; simp only [List.length_nil]; omega
theorem join_len (ts : List Tok) : (Lib.join (ts.map (·.text)) [32]).length ≤ texts ts + ts.length ∧ ts.length ≤ texts ts + ts.length := by
  cases ts with
  | nil => exact ⟨Nat.le_refl _, Nat.le_refl _⟩
  | cons t r => rw [List.map_cons, Lib.join_cons, List.length_append, joinTail_len]; simp only [texts, List.length_cons]; omega
theorem scan_join (ts : List Tok) (h : ∀ t ∈ ts, IsTok t) (hl : texts ts + ts.length ≤ 8000) :
    (scanP (Lib.join (ts.map (·.text)) [32])).2 = (0, 0) ∧ (scanP (Lib.join (ts.map (·.text)) [32])).1.map plainT = ts.map plainT ++ [(0, [], 0)] := by
  have hj := (join_len ts).1
  rw [← lay_spaced] at hj ⊢
  have h1 := scanP_lay (spaced ts) [] (by
    intro x hx
    cases ts with
    | nil => simp [spaced] at hx
    | cons t r =>
      simp only [spaced, List.mem_cons, List.mem_map] at hx
      rcases hx with rfl | ⟨u, hu, rfl⟩
      · exact ⟨gap_nil, h t List.mem_cons_self⟩
      · exact ⟨gap_32, h u (List.mem_cons_of_mem _ hu)⟩) (by
    intro x hx
    cases ts with
    | nil => simp [spaced] at hx
    | cons t r =>
      simp only [spaced, List.tail_cons, List.mem_map] at hx
      obtain ⟨u, hu, rfl⟩ := hx
      simp) trivial rfl (by omega) (by
    rw [lay_spaced]
    cases ts with
    | nil => exact Nat.le_refl _
    | cons t r =>
      rw [List.map_cons, Lib.join_cons, List.length_append, joinTail_len]
      obtain ⟨l, hl⟩ := h t List.mem_cons_self
      have := (tokL_len hl).1
      simp only [spaced, List.length_cons, List.length_map]; omega)
  refine ⟨h1.1, ?_⟩
  rw [h1.2]
  congr 1
  cases ts with
  | nil => rfl
  | cons t r => simp only [spaced, List.map_cons, List.map_map]; rfl

end Go.Proofs.Ytnjaflldlhiefaa
