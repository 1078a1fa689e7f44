/- Contracts for the law of Read. -/
import Derived.Test.YtaekkpoknpnnbaaDoorBuE
namespace Go.Proofs.YtaekkpoknpnnbaaDoor
open Go.RowKit Go.PlainAid
set_option linter.unusedVariables false
set_option linter.unusedSimpArgs false

theorem mem_readL {ps : List Nat} {x : Nat} : x ∈ readL ps ↔ x < 4096 ∧ (wd ps (x / 8)).testBit (x % 8) = true := by
  unfold readL; rw [List.mem_filter, List.mem_range]
theorem some_bit {b : Nat} (h : b ≠ 0) (hb : b < 256) : ∃ j, j < 8 ∧ b.testBit j = true := by
  obtain ⟨j, hj⟩ := Nat.exists_testBit_of_ne_zero h
  refine ⟨j, ?_, hj⟩
  rcases Nat.lt_or_ge j 8 with h8 | h8
  · exact h8
  · rw [Nat.testBit_lt_two_pow (Nat.lt_of_lt_of_le hb (by show 2 ^ 8 ≤ 2 ^ j; exact Nat.pow_le_pow_right (by omega) h8))] at hj; cases hj
theorem bytes_readL {ps : List Nat} (h : readOK ps) (hb : ∀ x ∈ ps, x < 256) : BytesOf ps (readL ps) := by
  obtain ⟨h1, h2⟩ := h
  have hlast : 0 < ps.length → ∃ x, x ∈ readL ps ∧ x / 8 = ps.length - 1 := fun hp => by
    have hlt : wd ps (ps.length - 1) < 256 := by rw [wd_get (by omega)]; exact hb _ (List.getElem_mem _)
    obtain ⟨j, hj, hbit⟩ := some_bit (h2 hp) hlt
    refine ⟨8 * (ps.length - 1) + j, mem_readL.2 ⟨by omega, ?_⟩, by omega⟩
    rw [show (8 * (ps.length - 1) + j) / 8 = ps.length - 1 by omega, show (8 * (ps.length - 1) + j) % 8 = j by omega]; exact hbit
  refine ⟨fun he => ?_, fun he => ?_, fun k hk => ?_⟩
  · by_cases hp : 0 < ps.length
    · obtain ⟨x, hx, _⟩ := hlast hp
      rw [he] at hx; simp at hx
    · exact List.eq_nil_of_length_eq_zero (by omega)
  · have hm : (readL ps).getLastD 0 ∈ readL ps := by
      rw [List.getLastD_eq_getLast?, List.getLast?_eq_some_getLast he, Option.getD_some]; exact List.getLast_mem he
    have hin : ∀ x, x ∈ readL ps → x / 8 < ps.length := fun x hx => by
      rcases Nat.lt_or_ge (x / 8) ps.length with h | h
      · exact h
      · have := (mem_readL.1 hx).2
        rw [wd_out h] at this; simp at this
    have h3 := hin _ hm
    obtain ⟨x, hx, hx2⟩ := hlast (by omega)
    have h4 := last_ge (asc_readL ps) x hx
    omega
  · refine ⟨hb _ (List.getElem_mem _), fun j hj => ?_⟩
    rw [mem_readL, show (8 * k + j) / 8 = k by omega, show (8 * k + j) % 8 = j by omega, wd_get hk]
    exact ⟨fun h => ⟨by omega, h⟩, fun h => h.2⟩
theorem bytesOf_lt {bs l : List Nat} (h : BytesOf bs l) : ∀ x ∈ bs, x < 256 := fun x hx => by
  obtain ⟨j, hj, rfl⟩ := List.getElem_of_mem hx
  exact (h.2.2 j hj).1
/-- The slice holds the bytes of l. -/
def Yw (w : World) (a : Option Addr) (n cap : Nat) (l : List Nat) : Prop := ∃ P, BytesOf P l ∧ Bw w a n cap P
theorem b_bytes (a : Option Addr) (n cap : Nat) (l : List Nat) (w : World) (h : Bs w a n cap l) :
    Calls Tryd.prog 23 #[.agg #[.slice a n cap]] w fun e w' => ∃ b k c, e = .returned (.slice b k c) ∧ Yw w' b k c l ∧ Below w.heap.size w w' := by
  refine (bytes_any a n cap l w h).mono ?_
  rintro e w' ⟨P, v, rfl, hP, hr, hb⟩
  obtain ⟨b, c, rfl, hbw⟩ := RowY.bw hr (bytesOf_lt hP)
  exact ⟨b, _, c, rfl, ⟨P, hP, hbw⟩, hb⟩
theorem r_bytes (a : Option Addr) (n cap : Nat) (l : List Nat) (w : World) (h : Iw w a n cap (cs l)) (hl : Asc l) :
    Calls Tryd.prog 29 #[.slice a n cap] w fun e w' => ∃ b k c, e = .returned (.slice b k c) ∧ Yw w' b k c l ∧ Below w.heap.size w w' := by
  refine (rbytes_any a n cap l w h hl).mono ?_
  rintro e w' ⟨P, v, rfl, hP, hr, hb⟩
  obtain ⟨b, c, rfl, hbw⟩ := RowY.bw hr (bytesOf_lt hP)
  exact ⟨b, _, c, rfl, ⟨P, hP, hbw⟩, hb⟩
theorem Yw.below {w w' : World} {a : Option Addr} {n cap : Nat} {l : List Nat} (h : Yw w a n cap l) (hb : Below w.heap.size w w') : Yw w' a n cap l := by
  obtain ⟨P, h1, h2⟩ := h
  exact ⟨P, h1, h2.below hb⟩
theorem eqY (a b : Option Addr) (n c m d : Nat) (l : List Nat) (w : World) (h : Yw w a n c l) (k : Yw w b m d l) :
    Calls Tryd.prog 28 #[.slice a n c, .slice b m d] w fun e w' => e = .returned (.bool true) ∧ Below w.heap.size w w' := by
  obtain ⟨P, h1, h2⟩ := h
  obtain ⟨Q, k1, k2⟩ := k
  have e := h1.uniq k1
  subst e
  refine (equalB_any a b n c m d P P w h2 k2).mono ?_
  rintro e w' ⟨rfl, hb⟩
  exact ⟨by rw [decide_eq_true rfl], hb⟩
theorem Bw.take {w : World} {a : Option Addr} {n cap : Nat} {ps : List Nat} (h : Bw w a n cap ps) (m : Nat) : Bw w a (min n m) cap (ps.take m) := by
  obtain ⟨h1, h2, h3, h4, h5⟩ := h
  refine ⟨by rw [List.length_take]; omega, by omega, h3, fun x hx => h4 x (List.mem_of_mem_take hx), ?_⟩
  rcases h5 with h5 | ⟨b, o, h5, h6, h7⟩
  · exact .inl (by omega)
  · refine .inr ⟨b, o, h5, h6, fun j hj => ?_⟩
    rw [h7 j (by omega)]
    unfold wd
    rw [List.getD_eq_getElem?_getD, List.getD_eq_getElem?_getD, List.getElem?_take_of_lt (by omega)]
theorem read_yes (a : Option Addr) (n cap : Nat) (ps : List Nat) (w : World) (h : Bw w a n cap ps) (hn : n ≤ 600) (ho : readOK ps) :
    Calls Tryd.prog 30 #[.slice a n cap] w fun e w' => ∃ b k c, e = .returned (.tuple #[.agg #[.slice b k c], .int .i64 0]) ∧ Bs w' b k c (readL ps) ∧ Below w.heap.size w w' := by
  refine (read_any a n cap ps w h (by omega)).mono ?_
  rintro e w' ⟨⟨_, b, k, c, rfl, hs⟩ | ⟨hno, _⟩, hb⟩
  · exact ⟨b, k, c, rfl, hs, hb⟩
  · exact absurd ho hno
theorem rread_yes (a : Option Addr) (n cap : Nat) (ps : List Nat) (w : World) (h : Bw w a n cap ps) (hn : n ≤ 600) (ho : readOK ps) :
    Calls Tryd.prog 31 #[.slice a n cap] w fun e w' => ∃ b k c, e = .returned (.tuple #[.slice b k c, .bool true]) ∧ Iw w' b k c (cs (readL ps)) ∧ Below w.heap.size w w' := by
  refine (rread_any a n cap ps w h (by omega)).mono ?_
  rintro e w' ⟨⟨_, v, rfl, hr⟩ | ⟨hno, _⟩, hb⟩
  · obtain ⟨b, c, rfl, hi⟩ := hr.iw
    exact ⟨b, _, c, rfl, hi, hb⟩
  · exact absurd ho hno
theorem rread_no (a : Option Addr) (n cap : Nat) (ps : List Nat) (w : World) (h : Bw w a n cap ps) (hn : n ≤ 600) (ho : ¬ readOK ps) :
    Calls Tryd.prog 31 #[.slice a n cap] w fun e w' => e = .returned (.tuple #[.slice none 0 0, .bool false]) ∧ Below w.heap.size w w' := by
  refine (rread_any a n cap ps w h (by omega)).mono ?_
  rintro e w' ⟨⟨hy, _⟩ | ⟨_, rfl⟩, hb⟩
  · exact absurd hy ho
  · exact ⟨rfl, hb⟩
end Go.Proofs.YtaekkpoknpnnbaaDoor
