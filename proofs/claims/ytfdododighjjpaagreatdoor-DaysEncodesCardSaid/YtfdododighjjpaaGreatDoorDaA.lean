/- Memory of spans; contracts of Next, Len, Empty of a set of days. -/
import Derived.Test.YtfdododighjjpaaGreatDoorDaSpec
import Derived.Test.YtfdododighjjpaaGreatDoorMem
import Derived.Test.YtfdododighjjpaaGreatDoorProg
import Derived.BigGuardPart
import Derived.WalkSpells
import Derived.WalkLawsBesides
import Derived.Deep.RegionHeld3
import Derived.Deep.QuietTactic
import Derived.BigQuiet
import Derived.Lib.SliceRun
namespace Go.Proofs.YtfdododighjjpaaGreatDoor.Dy
open Go.RowKit Go.PlainAid
set_option linter.unusedVariables false
set_option linter.unusedSimpArgs false
set_option maxHeartbeats 1000000

def spV (p : Int × Int) : List Value := [.int .i64 p.1, .int .i64 p.2]
def flatS (l : List (Int × Int)) : List Value := l.flatMap spV
theorem flatS_length (l : List (Int × Int)) : (flatS l).length = l.length * 2 := by
  induction l with
  | nil => rfl
  | cons t l ih => simp [flatS, spV] at ih ⊢; omega
theorem flatS_append (l r : List (Int × Int)) : flatS (l ++ r) = flatS l ++ flatS r := by simp [flatS]
theorem flatS_snoc (l : List (Int × Int)) (a b : Int) : flatS (l ++ [(a, b)]) = flatS l ++ [.int .i64 a, .int .i64 b] := by simp [flatS, spV]
theorem flatS_one (l : List (Int × Int)) : ∀ u ∈ flatS l, u.oneCell' = true := by
  intro u hu
  simp only [flatS, List.mem_flatMap] at hu
  obtain ⟨p, -, hp⟩ := hu
  simp [spV] at hp
  rcases hp with rfl | rfl <;> rfl
theorem flat_get2 : ∀ (l : List (Int × Int)) (j c : Nat) (p : Int × Int), l[j]? = some p → c < 2 → (flatS l)[j * 2 + c]? = (spV p)[c]?
  | [], j, c, p, h, _ => by simp at h
  | x :: l, 0, c, p, h, hc => by
    simp at h
    subst h
    rw [flatS, List.flatMap_cons, List.getElem?_append_left (by show _ < 2; omega)]
    simp
  | x :: l, j + 1, c, p, h, hc => by
    rw [flatS, List.flatMap_cons, List.getElem?_append_right (by show 2 ≤ _; omega)]
    show (flatS l)[(j + 1) * 2 + c - 2]? = _
    rw [show (j + 1) * 2 + c - 2 = j * 2 + c from by omega]
    exact flat_get2 l j c p (by simpa using h) hc

theorem retB {a b : Bool} (h : a = b) : Ending.returned (.bool a) = .returned (.bool b) := by rw [h]

theorem ret_ib {x y : Int} {a b : Bool} (h : x = y) (k : a = b) : Ending.returned (.tuple #[.int .i64 x, .bool a]) = .returned (.tuple #[.int .i64 y, .bool b]) := by rw [h, k]

/-- The slice (a, n, cap) of spans holds l. -/
def Ds (w : World) (a : Option Addr) (n cap : Nat) (l : List (Int × Int)) : Prop :=
  l.length = n ∧ n ≤ cap ∧ cap ≤ maxLen ∧ (n = 0 ∨ ∃ b o, a = some ⟨b, o, none⟩ ∧ b < w.heap.size ∧
    ∀ j p, l[j]? = some p → w.cell? ⟨b, o + j * 2, none⟩ = some (.int .i64 p.1) ∧ w.cell? ⟨b, o + j * 2 + 1, none⟩ = some (.int .i64 p.2))
theorem Ds.below {w w' : World} {a : Option Addr} {n cap N : Nat} {l : List (Int × Int)} (h : Ds w a n cap l) (hb : Below N w w') (hN : w.heap.size ≤ N) : Ds w' a n cap l := by
  obtain ⟨h1, h2, h3, h4⟩ := h
  refine ⟨h1, h2, h3, ?_⟩
  rcases h4 with h4 | ⟨b, o, ha, hlt, h5⟩
  · exact .inl h4
  · refine .inr ⟨b, o, ha, Nat.lt_of_lt_of_le hlt hb.size, fun j p hp => ?_⟩
    obtain ⟨c1, c2⟩ := h5 j p hp
    exact ⟨(hb.cell (p := ⟨b, _, none⟩) (Nat.lt_of_lt_of_le hlt hN)).trans c1, (hb.cell (p := ⟨b, _, none⟩) (Nat.lt_of_lt_of_le hlt hN)).trans c2⟩
theorem Ds.nil (w : World) (a : Option Addr) (cap : Nat) (h : cap ≤ maxLen) : Ds w a 0 cap [] := ⟨rfl, Nat.zero_le _, h, .inl rfl⟩
theorem Ds.sl {w : World} {a : Option Addr} {n cap : Nat} {l : List (Int × Int)} (h : Ds w a n cap l) : Sl w (.slice a n cap) n 2 (flatS l) := by
  obtain ⟨h1, h2, h3, h4⟩ := h
  refine ⟨by rw [flatS_length, h1], a, cap, rfl, h2, h3, ?_⟩
  rcases h4 with h4 | ⟨b, o, ha, hlt, h5⟩
  · exact .inl h4
  · refine .inr ⟨b, o, ha, hlt, fun j hj => ?_⟩
    obtain ⟨p, hp⟩ : ∃ p, l[j / 2]? = some p := ⟨_, List.getElem?_eq_getElem (by omega)⟩
    obtain ⟨c1, c2⟩ := h5 _ p hp
    have hg := fun c hc => flat_get2 l (j / 2) c p hp hc
    rw [List.getD_eq_getElem?_getD]
    rcases Nat.mod_two_eq_zero_or_one j with h | h
    · rw [show j = j / 2 * 2 + 0 from by omega, hg 0 (by omega)]; simpa [spV] using c1
    · rw [show j = j / 2 * 2 + 1 from by omega, hg 1 (by omega)]; simpa [spV, Nat.add_assoc] using c2
theorem Ds.owned {w : World} {base : Nat} {e : TypeId} {v : Value} {n : Nat} {l : List (Int × Int)} (h : w.ownsRow base e 2 v n (flatS l)) (hl : l.length = n) : ∃ a cap, v = .slice a n cap ∧ Ds w a n cap l := by
  obtain ⟨h1, a, cap, hv, hc, hm, h2⟩ := Sl.owned h
  refine ⟨a, cap, hv, hl, hc, hm, ?_⟩
  rcases h2 with h2 | ⟨b, o, ha, hlt, h3⟩
  · exact .inl h2
  · refine .inr ⟨b, o, ha, hlt, fun j p hp => ?_⟩
    have hj : j < n := by rw [← hl]; exact (List.getElem?_eq_some_iff.1 hp).1
    have g0 := flat_get2 l j 0 p hp (by omega)
    have g1 := flat_get2 l j 1 p hp (by omega)
    constructor
    · rw [h3 (j * 2) (by omega), List.getD_eq_getElem?_getD, show j * 2 = j * 2 + 0 from rfl, g0]; rfl
    · rw [Nat.add_assoc, h3 (j * 2 + 1) (by omega), List.getD_eq_getElem?_getD, g1]; rfl

/-- The first day from d on. -/
def nextP (l : List (Int × Int)) (d : Int) : Int × Bool := match l.find? (fun p => decide (d ≤ p.2)) with
  | some p => (max d p.1, true)
  | none => (0, false)
theorem nextP_yes {p1 p2 : Int} {l : List (Int × Int)} {d : Int} (h : d ≤ p2) : nextP ((p1, p2) :: l) d = (max d p1, true) := by
  unfold nextP; rw [List.find?_cons_of_pos (by simpa using h)]
theorem nextP_no {p1 p2 : Int} {l : List (Int × Int)} {d : Int} (h : ¬ d ≤ p2) : nextP ((p1, p2) :: l) d = nextP l d := by
  unfold nextP; rw [List.find?_cons_of_neg (by simpa using h)]
theorem drop_at {α : Type} {l : List α} {j : Nat} {p : α} (h : l[j]? = some p) : l.drop j = p :: l.drop (j + 1) := by
  obtain ⟨h1, h2⟩ := List.getElem?_eq_some_iff.1 h
  rw [List.drop_eq_getElem_cons h1, h2]

theorem next_any (a : Option Addr) (n cap : Nat) (l : List (Int × Int)) (d : Int) (w : World) (h : Ds w a n cap l) :
    Calls Tryz.prog 28 #[.agg #[.slice a n cap], .int .i64 d] w fun e w' => e = .returned (.tuple #[.int .i64 (nextP l d).1, .bool (nextP l d).2]) ∧ Below w.heap.size w w' := by
  obtain ⟨hl, hc, hm, h4⟩ := h
  unfold maxLen at hm
  have H4 := Lib.hid h4
  have HL := Lib.hid hl
  clear h4 hl
  go_enter Tryz.func28, Tryz.ntmps28
  go_wp2_with fail
  go_loopw [11] (fun v wr => ∃ j : Nat, j ≤ n ∧ v = .int .i64 j ∧ Below w.heap.size w wr ∧ Hid (nextP l d = nextP (l.drop j) d)) (fun v _ => n - (intOf v).toNat)
  case atStart => exact ⟨0, by omega, rfl, by go_grown, rfl⟩
  case round =>
    obtain ⟨j, hj, rfl, hbel, hpre⟩ := hrel
    by_cases hjn : j < n
    · rcases H4.out with h0 | ⟨b, o, rfl, hb, hcell⟩
      · omega
      obtain ⟨⟨p1, p2⟩, hp⟩ : ∃ p, l[j]? = some p := ⟨_, List.getElem?_eq_getElem (by rw [HL.out]; exact hjn)⟩
      obtain ⟨c1, c2⟩ := hcell j _ hp
      have c1 := (hbel.cell (p := ⟨b, _, none⟩) hb).trans c1
      have c2 := (hbel.cell (p := ⟨b, _, none⟩) hb).trans c2
      dsimp only at c1 c2
      have hdr := drop_at hp
      have hj0 : (0 : Int) ≤ (j : Int) := Int.natCast_nonneg _
      have hj1 : (j : Int) < (n : Int) := by omega
      clear hcell
      by_cases hd : d ≤ p2
      · have HR : Hid (nextP l d = (max d p1, true)) := by have := hpre.out; rw [hdr, nextP_yes hd] at this; exact this
        clear hdr hp hpre
        go_wp2_with fail
        all_goals
          go_returns
          rw [HR.out]
          refine ⟨ret_ib (x := _) (a := _) ?_ rfl, hbel.alloc hbel.size _⟩
          dsimp only; omega
      · have HR : Hid (nextP l d = nextP (l.drop (j + 1)) d) := by have := hpre.out; rw [hdr, nextP_no hd] at this; exact this
        clear hdr hp hpre
        go_wp2_with fail
        go_roundw
        case rel => exact ⟨j + 1, by omega, by go_num, hbel.alloc hbel.size _, HR.out⟩
        case measure => simp [intOf]; omega
    · obtain rfl : j = n := by omega
      have HR : Hid (nextP l d = (0, false)) := by
        have := hpre.out
        rw [List.drop_of_length_le (by rw [HL.out]; exact Nat.le_refl _)] at this
        exact this
      clear hpre
      go_wp2_with fail
      go_returns
      rw [HR.out]
      exact ⟨rfl, hbel⟩

theorem empty_any (a : Option Addr) (n cap : Nat) (w : World) :
    Calls Tryz.prog 9 #[.agg #[.slice a n cap]] w fun e w' => e = .returned (.bool (decide (n = 0))) ∧ Below w.heap.size w w' := by
  go_enter Tryz.func9, Tryz.ntmps9
  go_wp2_with fail
  go_ret
  refine ⟨?_, by go_grown⟩
  by_cases h : n = 0
  · subst h; rfl
  · have : ((n : Int) == 0) = false := beq_eq_false_iff_ne.2 (by omega)
    simp [h, this]

theorem len_any (a : Option Addr) (n cap : Nat) (l : List (Int × Int)) (w : World) (h : Ds w a n cap l) (hcan : Can l) :
    Calls Tryz.prog 38 #[.agg #[.slice a n cap]] w fun e w' => e = .returned (.int .i64 (lenD l)) ∧ Below w.heap.size w w' := by
  obtain ⟨hl, hc, hm, h4⟩ := h
  unfold maxLen at hm
  have H4 := Lib.hid h4
  have HL := Lib.hid hl
  have HC := Lib.hid hcan
  clear h4 hl hcan
  go_enter Tryz.func38, Tryz.ntmps38
  go_wp2_with fail
  go_loopw [3, 9] (fun v3 v9 wr => ∃ (j : Nat) (s : Int), j ≤ n ∧ v9 = .int .i64 j ∧ v3 = .int .i64 s ∧ Below w.heap.size w wr ∧ Hid (s = lenD (l.take j))) (fun _ v _ => n - (intOf v).toNat)
  case atStart => exact ⟨0, 0, by omega, rfl, rfl, by go_grown, rfl⟩
  case round =>
    obtain ⟨j, s, hj, rfl, rfl, hbel, hpre⟩ := hrel
    by_cases hjn : j < n
    · rcases H4.out with h0 | ⟨b, o, rfl, hb, hcell⟩
      · omega
      obtain ⟨⟨p1, p2⟩, hp⟩ : ∃ p, l[j]? = some p := ⟨_, List.getElem?_eq_getElem (by rw [HL.out]; exact hjn)⟩
      obtain ⟨c1, c2⟩ := hcell j _ hp
      have c1 := (hbel.cell (p := ⟨b, _, none⟩) hb).trans c1
      have c2 := (hbel.cell (p := ⟨b, _, none⟩) hb).trans c2
      dsimp only at c1 c2
      have hok := HC.out.1 _ (List.mem_of_getElem? hp)
      unfold Okp at hok
      dsimp only at hok
      have hs1 := lenD_take HC.out j
      have hs2 := lenD_take HC.out (j + 1)
      have hst : lenD (l.take (j + 1)) = s + (p2 - p1 + 1) := by rw [take_snoc' hp, lenD_append, ← hpre.out]; simp
      rw [← hpre.out] at hs1
      have hj0 : (0 : Int) ≤ (j : Int) := Int.natCast_nonneg _
      have hj1 : (j : Int) < (n : Int) := by omega
      have e1 : IntKind.i64.wrap (p2 - p1) = p2 - p1 := by rw [IntKind.wrap_i64]; omega
      have e2 : IntKind.i64.wrap (p2 - p1 + 1) = p2 - p1 + 1 := by rw [IntKind.wrap_i64]; omega
      have e3 : IntKind.i64.wrap (s + (p2 - p1 + 1)) = s + (p2 - p1 + 1) := by rw [IntKind.wrap_i64]; omega
      have HST := Lib.hid hst
      clear hcell hst hp hpre hs1 hs2 hok
      go_wp2_with fail
      go_roundw
      case rel => exact ⟨j + 1, _, by omega, by go_num, rfl, hbel.alloc hbel.size _, HST.out.symm⟩
      case measure => simp [intOf]; omega
    · obtain rfl : j = n := by omega
      have HR : Hid (s = lenD l) := by
        have := hpre.out
        rw [List.take_of_length_le (by rw [HL.out]; exact Nat.le_refl _)] at this
        exact this
      clear hpre
      go_wp2_with fail
      go_ret
      rw [HR.out]
      exact ⟨rfl, by go_grown⟩
end Go.Proofs.YtfdododighjjpaaGreatDoor.Dy
