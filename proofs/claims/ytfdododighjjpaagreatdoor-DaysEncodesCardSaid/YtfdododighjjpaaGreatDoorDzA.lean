/- Plain: the text of a set of days is taken apart again. -/
import Derived.Lib.AtoiAllCases
import Derived.Lib.SplitLaws
import Derived.Test.YtfdododighjjpaaGreatDoorDaT
import Derived.Test.YtfdododighjjpaaGreatDoorDaU
namespace Go.Proofs.YtfdododighjjpaaGreatDoor.Dy
open Go.RowKit Go.PlainAid
set_option linter.unusedVariables false
set_option linter.unusedSimpArgs false

/-- The lines of a text. -/
def linesL (c : UInt8) : List UInt8 → List (List UInt8)
  | [] => [[]]
  | b :: l => if b = c then [] :: linesL c l else match linesL c l with
    | [] => [[b]]
    | h :: t => (b :: h) :: t
theorem linesL_ne (c : UInt8) : ∀ l, linesL c l ≠ []
  | [] => by simp [linesL]
  | b :: l => by
    rw [linesL]
    split
    · simp
    · split <;> simp
theorem linesL_put {b c : UInt8} {l h : List UInt8} {t : List (List UInt8)} (hb : b ≠ c) (hl : linesL c l = h :: t) : linesL c (b :: l) = (b :: h) :: t := by
  rw [linesL, if_neg hb, hl]
theorem linesL_cut {c : UInt8} (l : List UInt8) : linesL c (c :: l) = [] :: linesL c l := by
  rw [linesL, if_pos rfl]
theorem index_ne {b c : UInt8} (l : List UInt8) (h : b ≠ c) : Lib.index (b :: l) [c] = if Lib.index l [c] == -1 then -1 else Lib.index l [c] + 1 := by
  have hp : ([c] : List UInt8).isPrefixOf (b :: l) = false := by simp [List.isPrefixOf, Ne.symm h]
  rw [Lib.index, hp]; simp
theorem index_eq (c : UInt8) (l : List UInt8) : Lib.index (c :: l) [c] = 0 := by
  rw [Lib.index]; simp [List.isPrefixOf]
theorem split_lines (c : UInt8) : ∀ l : List UInt8, Lib.splitK [c] 0 (l.count c) l = linesL c l
  | [] => rfl
  | b :: l => by
    have ih := split_lines c l
    by_cases h : b = c
    · subst h
      rw [List.count_cons_self, Lib.splitK, index_eq, if_neg (by decide), linesL_cut]
      simp only [Int.toNat_zero, Nat.zero_add, List.take_zero, List.length_singleton, List.drop_succ_cons, List.drop_zero]
      rw [ih]
    · rw [List.count_cons_of_ne (by simpa using h)]
      cases hn : l.count c with
      | zero =>
        rw [hn] at ih
        exact (linesL_put h (ih.symm)).symm
      | succ k =>
        rw [hn, Lib.splitK] at ih
        have hi := index_ne l h
        by_cases hm : Lib.index l [c] == -1
        · rw [if_pos hm] at ih hi
          rw [Lib.splitK, hi, if_pos (by decide)]
          exact (linesL_put h ih.symm).symm
        · rw [if_neg hm] at ih hi
          have hge := Lib.index_ge l [c]
          have hne : Lib.index l [c] ≠ -1 := fun e => hm (by rw [e]; decide)
          obtain ⟨j, hj⟩ : ∃ j : Nat, Lib.index l [c] = j := ⟨(Lib.index l [c]).toNat, by omega⟩
          rw [hj] at ih hi
          have hi2 : Lib.index (b :: l) [c] = ((j + 1 : Nat) : Int) := by rw [hi]; rfl
          rw [Lib.splitK, hi2, if_neg (fun e => by have := beq_iff_eq.1 e; omega)]
          refine ((linesL_put h ih.symm).symm ▸ ?_)
          simp only [Int.toNat_natCast, Nat.add_zero, List.length_singleton, List.take_succ_cons]
          congr 1
theorem dec_digit (x : Nat) : ∀ b ∈ Lib.decDigits x, 48 ≤ b.toNat ∧ b.toNat ≤ 57 := by
  induction x using Nat.strongRecOn with
  | _ x ih =>
    intro b hb
    rw [Lib.decDigits] at hb
    by_cases h : x < 10
    · rw [dif_pos h, List.mem_singleton] at hb
      subst hb
      rw [UInt8.toNat_ofNat']; omega
    · rw [dif_neg h, List.mem_append, List.mem_singleton] at hb
      rcases hb with hb | rfl
      · exact ih (x / 10) (by omega) b hb
      · rw [UInt8.toNat_ofNat']; omega
theorem parse_append : ∀ (l r : List UInt8) (acc u : Nat), Lib.parseUint10 acc l = .ok u → Lib.parseUint10 acc (l ++ r) = Lib.parseUint10 u r
  | [], r, acc, u, h => by simp only [Lib.parseUint10, Lib.NumEnd.ok.injEq] at h; rw [h]; rfl
  | c :: l, r, acc, u, h => by
    rw [List.cons_append]
    unfold Lib.parseUint10 at h
    conv => lhs; unfold Lib.parseUint10
    split at h
    · rename_i h1
      split at h
      · cases h
      · rename_i h2
        split at h
        · cases h
        · rename_i h3
          rw [if_pos h1, if_neg h2, if_neg h3]
          exact parse_append l r _ u h
    · cases h
theorem parse_dec (x : Nat) (hx : x ≤ 30000) : Lib.parseUint10 0 (Lib.decDigits x) = .ok x := by
  induction x using Nat.strongRecOn with
  | _ x ih =>
    rw [Lib.decDigits]
    by_cases h : x < 10
    · rw [dif_pos h]
      have e : (UInt8.ofNat (48 + x)).toNat = 48 + x := by rw [UInt8.toNat_ofNat']; omega
      simp only [Lib.parseUint10, e]
      rw [if_pos (by omega), if_neg (by omega), if_neg (by omega)]
      congr 1; omega
    · rw [dif_neg h, parse_append _ _ 0 (x / 10) (ih (x / 10) (by omega) (by omega))]
      have e : (UInt8.ofNat (48 + x % 10)).toNat = 48 + x % 10 := by rw [UInt8.toNat_ofNat']; omega
      simp only [Lib.parseUint10, e]
      rw [if_pos (by omega), if_neg (by omega), if_neg (by omega)]
      congr 1; omega
theorem dec_ne (x : Nat) : Lib.decDigits x ≠ [] := by
  intro e
  have := Lib.nDigits_pos x
  have h := congrArg List.length e
  rw [Lib.decDigits_eq, List.length_map, List.length_range] at h
  simp at h; omega
theorem atoi_dec (x : Nat) (hx : x ≤ 30000) : Lib.atoiAll (Lib.decDigits x) = .ok (x : Int) := by
  have h := parse_dec x hx
  have hd := dec_digit x
  have hne := dec_ne x
  generalize Lib.decDigits x = l at *
  match l, hne with
  | c :: r, _ =>
    have hc := hd c (by simp)
    rw [Lib.atoiAll_plain c r (by omega) (by omega), Lib.parseMag, if_neg (by simp), h, Lib.signless, if_neg (by omega)]
theorem lines_word (c : UInt8) : ∀ w : List UInt8, (∀ b ∈ w, b ≠ c) → linesL c w = [w]
  | [], _ => rfl
  | b :: w, h => linesL_put (h b (by simp)) (lines_word c w (fun x hx => h x (by simp [hx])))
theorem lines_cons (c : UInt8) (l : List UInt8) : ∀ w : List UInt8, (∀ b ∈ w, b ≠ c) → linesL c (w ++ c :: l) = w :: linesL c l
  | [], _ => linesL_cut l
  | b :: w, h => linesL_put (h b (by simp)) (lines_cons c l w (fun x hx => h x (by simp [hx])))
theorem lines_join (c : UInt8) : ∀ ws : List (List UInt8), ws ≠ [] → (∀ w ∈ ws, ∀ b ∈ w, b ≠ c) → linesL c (Lib.join ws [c]) = ws
  | [], h, _ => absurd rfl h
  | [w], _, h => by
    have e : Lib.join [w] [c] = w := by simp [Lib.join]
    rw [e]; exact lines_word c w (h w (by simp))
  | w :: v :: ws, _, h => by
    have e : Lib.join (w :: v :: ws) [c] = w ++ c :: Lib.join (v :: ws) [c] := by simp [Lib.join, List.intersperse]
    rw [e, lines_cons c _ w (h w (by simp)), lines_join c (v :: ws) (by simp) (fun x hx => h x (by simp [hx]))]
theorem idx_none (c : UInt8) : ∀ a : List UInt8, (∀ b ∈ a, b ≠ c) → Lib.index a [c] = -1
  | [], _ => by simp [Lib.index]
  | b :: a, h => by
    rw [index_ne a (h b (by simp)), idx_none c a (fun x hx => h x (by simp [hx]))]; rfl
theorem idx_at (c : UInt8) (r : List UInt8) : ∀ a : List UInt8, (∀ b ∈ a, b ≠ c) → Lib.index (a ++ c :: r) [c] = a.length
  | [], _ => index_eq c r
  | b :: a, h => by
    have ih := idx_at c r a (fun x hx => h x (by simp [hx]))
    rw [List.cons_append, index_ne _ (h b (by simp)), ih, if_neg (fun e => by have := beq_iff_eq.1 e; omega)]
    simp
theorem cut_none {c : UInt8} {a : List UInt8} (h : ∀ b ∈ a, b ≠ c) : Lib.cut a [c] = (a, [], false) := by
  unfold Lib.cut
  rw [idx_none c a h]; rfl
theorem cut_at {c : UInt8} {a r : List UInt8} (h : ∀ b ∈ a, b ≠ c) : Lib.cut (a ++ c :: r) [c] = (a, r, true) := by
  unfold Lib.cut
  rw [idx_at c r a h, if_pos (by omega)]
  simp
/-- The two numbers' texts of a span's text. -/
def toT (x : List UInt8) : List UInt8 := if (Lib.cut x [45]).2.2 then (if (Lib.cut x [45]).2.1 = [] then Lib.itoa 30000 else (Lib.cut x [45]).2.1) else (Lib.cut x [45]).1
/-- The piece x is the span p. -/
def PieceOk (x : List UInt8) (p : Int × Int) : Prop := Lib.atoiAll (Lib.cut x [45]).1 = .ok p.1 ∧ Lib.atoiAll (toT x) = .ok p.2
theorem itoa_dec {z : Int} (h0 : 0 ≤ z) (h1 : z ≤ 30000) : Lib.atoiAll (Lib.itoa z) = .ok z ∧ (∀ b ∈ Lib.itoa z, b ≠ 45 ∧ b ≠ 44) ∧ Lib.itoa z ≠ [] := by
  obtain ⟨x, rfl⟩ : ∃ x : Nat, z = x := ⟨z.toNat, by omega⟩
  rw [Lib.itoa_nonneg]
  refine ⟨atoi_dec x (by omega), fun b hb => ?_, dec_ne x⟩
  have := dec_digit x b hb
  constructor <;> (rintro rfl; revert this; decide)
theorem piece_span {p : Int × Int} (h : Okp p) : PieceOk (spanT p) p ∧ ∀ b ∈ spanT p, b ≠ 44 := by
  unfold Okp at h
  obtain ⟨h1, h2, h3⟩ := itoa_dec (z := p.1) (by omega) (by omega)
  obtain ⟨k1, k2, k3⟩ := itoa_dec (z := p.2) (by omega) (by omega)
  unfold spanT
  split
  · rename_i e
    have hc := cut_none (c := 45) (fun b hb => (h2 b hb).1)
    refine ⟨⟨by rw [hc]; exact h1, ?_⟩, fun b hb => (h2 b hb).2⟩
    unfold toT
    rw [hc, ← e]
    exact h1
  · split
    · rename_i e
      have hc : Lib.cut (Lib.itoa p.1 ++ [45]) [45] = (Lib.itoa p.1, [], true) := cut_at (c := 45) (r := []) (fun b hb => (h2 b hb).1)
      refine ⟨⟨by rw [hc]; exact h1, ?_⟩, fun b hb => ?_⟩
      · unfold toT
        rw [hc, ← e]
        exact k1
      · rcases List.mem_append.1 hb with hb | hb
        · exact (h2 b hb).2
        · rw [List.mem_singleton] at hb; rw [hb]; decide
    · have hc : Lib.cut (Lib.itoa p.1 ++ [45] ++ Lib.itoa p.2) [45] = (Lib.itoa p.1, Lib.itoa p.2, true) := by
        rw [List.append_assoc]
        exact cut_at (c := 45) (r := Lib.itoa p.2) (fun b hb => (h2 b hb).1)
      refine ⟨⟨by rw [hc]; exact h1, ?_⟩, fun b hb => ?_⟩
      · unfold toT
        rw [hc]
        simp only [if_true]
        rw [if_neg k3]
        exact k1
      · rcases List.mem_append.1 hb with hb | hb
        · rcases List.mem_append.1 hb with hb | hb
          · exact (h2 b hb).2
          · rw [List.mem_singleton] at hb; rw [hb]; decide
        · exact (k2 b hb).2
theorem piece_uniq {x : List UInt8} {p q : Int × Int} (h : PieceOk x p) (k : PieceOk x q) : p = q := by
  obtain ⟨h1, h2⟩ := h
  obtain ⟨k1, k2⟩ := k
  exact Prod.ext (by have e := h1.symm.trans k1; injection e) (by have e := h2.symm.trans k2; injection e)
theorem pieces_text {r : List (Int × Int)} {s : List UInt8} (hr : Can r) (h : textL r = s) (h1 : s ≠ noneT) (h2 : s ≠ allT) : linesL 44 s = r.map spanT := by
  unfold textL at h
  split at h
  · exact absurd h.symm h1
  · rename_i hne
    split at h
    · exact absurd h.symm h2
    · rw [← h]
      refine lines_join 44 _ (by simpa using hne) (fun w hw b hb => ?_)
      obtain ⟨p, hp, rfl⟩ := List.mem_map.1 hw
      exact (piece_span (hr.1 p hp)).2 b hb
theorem no_text1 {s : List UInt8} {x : List UInt8} (h1 : s ≠ noneT) (h2 : s ≠ allT) (hx : x ∈ linesL 44 s) (hbad : ∀ p, ¬ PieceOk x p) : ∀ r, Can r → textL r ≠ s := by
  intro r hr e
  rw [pieces_text hr e h1 h2] at hx
  obtain ⟨p, hp, rfl⟩ := List.mem_map.1 hx
  exact hbad p (piece_span (hr.1 p hp)).1
/-- All pieces are these spans. -/
def AllOk : List (List UInt8) → List (Int × Int) → Prop
  | [], [] => True
  | x :: xs, p :: l => PieceOk x p ∧ AllOk xs l
  | _, _ => False
theorem all_eq : ∀ {r l : List (Int × Int)}, (∀ p ∈ r, Okp p) → AllOk (r.map spanT) l → l = r
  | [], [], _, _ => rfl
  | [], _ :: _, _, h => h.elim
  | _ :: _, [], _, h => h.elim
  | p :: r, q :: l, hr, h => by
    obtain ⟨h1, h2⟩ := h
    rw [piece_uniq h1 (piece_span (hr p (by simp))).1, all_eq (fun x hx => hr x (by simp [hx])) h2]
theorem all_snoc : ∀ {xs : List (List UInt8)} {l : List (Int × Int)} {x : List UInt8} {p : Int × Int}, AllOk xs l → PieceOk x p → AllOk (xs ++ [x]) (l ++ [p])
  | [], [], _, _, _, h => ⟨h, trivial⟩
  | [], _ :: _, _, _, h, _ => h.elim
  | _ :: _, [], _, _, h, _ => h.elim
  | x :: xs, p :: l, _, _, h, k => ⟨h.1, all_snoc h.2 k⟩
theorem text_is {s : List UInt8} {l r r' : List (Int × Int)} (h1 : s ≠ noneT) (h2 : s ≠ allT) (ha : AllOk (linesL 44 s) l) (hr : Can r) (ht : textL r = s) : l = r := by
  rw [pieces_text hr ht h1 h2] at ha
  exact all_eq hr.1 ha
end Go.Proofs.YtfdododighjjpaaGreatDoor.Dy
