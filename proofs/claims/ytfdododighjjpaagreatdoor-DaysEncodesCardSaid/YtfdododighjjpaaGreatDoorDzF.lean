/- Plain: a set's text is that of no other set. -/
import Derived.Test.YtfdododighjjpaaGreatDoorDzC
import Derived.Test.YtfdododighjjpaaGreatDoorDzE
namespace Go.Proofs.YtfdododighjjpaaGreatDoor.Dy
open Go.RowKit Go.PlainAid
set_option linter.unusedVariables false
set_option linter.unusedSimpArgs false

def isOkN {α : Type} : Lib.NumEnd α → Bool
  | .ok _ => true
  | _ => false
theorem not_ok {α : Type} {e : Lib.NumEnd α} (h : isOkN e = false) : ∀ v, e ≠ .ok v := by
  rintro v rfl; cases h
theorem bad_word {x : List UInt8} (h : isOkN (Lib.atoiAll (Lib.cut x [45]).1) = false) : ∀ p, ¬ PieceOk x p := fun p hp => not_ok h _ hp.1
theorem join_word {l : List (Int × Int)} (h : Can l) (h0 : l ≠ []) {x : List UInt8} (hx : linesL 44 x = [x]) (hbad : isOkN (Lib.atoiAll (Lib.cut x [45]).1) = false) : Lib.join (l.map spanT) [44] ≠ x := by
  intro e
  have h1 := lines_join 44 (l.map spanT) (by simpa using h0) (fun w hw b hb => by
    obtain ⟨p, hp, rfl⟩ := List.mem_map.1 hw
    exact (piece_span (h.1 p hp)).2 b hb)
  rw [e, hx] at h1
  have hm : x ∈ l.map spanT := by rw [← h1]; simp
  obtain ⟨p, hp, hs⟩ := List.mem_map.1 hm
  exact bad_word hbad p (hs ▸ (piece_span (h.1 p hp)).1)
theorem lines_none : linesL 44 noneT = [noneT] := by decide
theorem lines_all : linesL 44 allT = [allT] := by decide
theorem bad_none : isOkN (Lib.atoiAll (Lib.cut noneT [45]).1) = false := by decide +kernel
theorem bad_all : isOkN (Lib.atoiAll (Lib.cut allT [45]).1) = false := by decide +kernel
theorem all_self : ∀ {l : List (Int × Int)}, (∀ p ∈ l, Okp p) → AllOk (l.map spanT) l
  | [], _ => trivial
  | p :: l, h => ⟨(piece_span (h p (by simp))).1, all_self (fun x hx => h x (by simp [hx]))⟩
theorem text_none {l : List (Int × Int)} (h : Can l) (e : textL l = noneT) : l = [] := by
  by_cases h0 : l = []
  · exact h0
  · unfold textL at e
    rw [if_neg h0] at e
    split at e
    · exact absurd e (by decide)
    · exact absurd e (join_word h h0 lines_none bad_none)
theorem text_all {l : List (Int × Int)} (h : Can l) (e : textL l = allT) : l = [(0, 30000)] := by
  by_cases h0 : l = []
  · rw [h0] at e; exact absurd e (by decide)
  · unfold textL at e
    rw [if_neg h0] at e
    split at e
    · rename_i h1; exact all_of_len h h1
    · exact absurd e (join_word h h0 lines_all bad_all)
theorem textL_inj {l r : List (Int × Int)} (hl : Can l) (hr : Can r) (e : textL l = textL r) : l = r := by
  by_cases h1 : textL r = noneT
  · rw [text_none hr h1, text_none hl (e.trans h1)]
  · by_cases h2 : textL r = allT
    · rw [text_all hr h2, text_all hl (e.trans h2)]
    · have p1 := pieces_text hr rfl h1 h2
      have p2 := pieces_text hl e h1 h2
      have ha : AllOk (r.map spanT) l := by
        rw [← p1, p2]
        exact all_self hl.1
      exact all_eq hr.1 ha
theorem text_lines {l : List (Int × Int)} (h : Can l) : (linesL 44 (textL l)).length ≤ 100000 := by
  by_cases h1 : textL l = noneT
  · rw [h1, lines_none]; simp
  · by_cases h2 : textL l = allT
    · rw [h2, lines_all]; simp
    · rw [pieces_text h rfl h1 h2, List.length_map]; have := can_len h; omega
theorem parse_self (l : List (Int × Int)) (h : Can l) (s : ByteArray) (hs : ⟨(textL l).toArray⟩ = s) (w : World) (hW : Wz w) :
    Calls Tryz.prog 7 #[.string s] w fun e w' => ∃ a n c, e = .returned (.tuple #[.agg #[.slice a n c], .int .i64 0]) ∧ Ds w' a n c l ∧ RowKit.Below w.heap.size w w' := by
  have hd : s.data.toList = textL l := by rw [← hs]
  have hz : s.size ≤ 200000 := by rw [← hs, size_of]; have := textL_len h; omega
  refine (parse_any s hz (by rw [hd]; exact text_lines h) w hW).mono ?_
  rintro e w' ⟨⟨r, a, n, c, rfl, hds, hcr, ht⟩ | ⟨rfl, hno⟩, hb⟩
  · rw [hd] at ht
    rw [textL_inj hcr h ht] at hds
    exact ⟨a, n, c, rfl, hds, hb⟩
  · exact absurd hd.symm (hno l h)
theorem flags_same {l r : List (Int × Int)} (hl : Can l) (hr : Can r) (h : ∀ d, Dm r d = (inD d && Dm l d)) : r = l := can_ext hr hl fun d => by rw [h, dm_in hl]
theorem rtext_self (l : List (Int × Int)) (hl : Can l) (s : ByteArray) (hs : ⟨(textL l).toArray⟩ = s) (g : Nat) (w : World) (h : Fo w g (Dm l)) :
    Calls Tryz.prog 13 #[.slice (some ⟨g, 0, none⟩) 30001 30001] w fun e w' => e = .returned (.string s) ∧ RowKit.Below w.heap.size w w' := by
  refine (rtext5_any _ _ _ w h.fl).mono ?_
  rintro e w' ⟨r, rfl, hcr, hd, hb⟩
  rw [flags_same hl hcr hd, hs]
  exact ⟨rfl, hb⟩
theorem text_self (a : Option Addr) (n cap : Nat) (l : List (Int × Int)) (hl : Can l) (s : ByteArray) (hs : ⟨(textL l).toArray⟩ = s) (w : World) (h : Ds w a n cap l) (hP : Pow10 w) :
    Calls Tryz.prog 11 #[.agg #[.slice a n cap]] w fun e w' => e = .returned (.string s) ∧ RowKit.Below w.heap.size w w' := by
  refine (text_any a n cap l w h hl hP).mono ?_
  rintro e w' ⟨rfl, hb⟩
  rw [hs]
  exact ⟨rfl, hb⟩
theorem is_self (a : Option Addr) (n ca g : Nat) (l : List (Int × Int)) (w : World) (h : Ds w a n ca l) (hl : Can l) (k : Fo w g (Dm l)) :
    Calls Tryz.prog 10 #[.agg #[.slice a n ca], .slice (some ⟨g, 0, none⟩) 30001 30001] w fun e w' => e = .returned (.bool true) ∧ RowKit.Below w.heap.size w w' :=
  is_any a _ n ca _ l _ w h hl k.fl fun _ _ _ => rfl
theorem equal_self (a b : Option Addr) (n m ca cb : Nat) (l : List (Int × Int)) (w : World) (ha : Ds w a n ca l) (hb : Ds w b m cb l) :
    Calls Tryz.prog 14 #[.agg #[.slice a n ca], .agg #[.slice b m cb]] w fun e w' => e = .returned (.bool true) ∧ RowKit.Below w.heap.size w w' := by
  refine (setEqual_any a b n m ca cb l l w ha hb).mono ?_
  rintro e w' ⟨rfl, h⟩
  exact ⟨by rw [decide_eq_true rfl], h⟩
end Go.Proofs.YtfdododighjjpaaGreatDoor.Dy
