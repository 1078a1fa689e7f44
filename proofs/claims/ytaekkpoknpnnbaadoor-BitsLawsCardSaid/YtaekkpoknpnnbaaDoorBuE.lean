/- Contracts in the form that the laws' walks use. -/
import Derived.Test.YtaekkpoknpnnbaaDoorBuC
namespace Go.Proofs.YtaekkpoknpnnbaaDoor
open Go.RowKit Go.PlainAid
set_option linter.unusedVariables false
set_option linter.unusedSimpArgs false

/-- A slice of numbers is returned that holds l. -/
def IwPost (w : World) (l : List Nat) (e : Ending) (w' : World) : Prop := ∃ b n c, e = .returned (.slice b n c) ∧ Iw w' b n c (cs l) ∧ Below w.heap.size w w'
theorem RowPost.iw {w : World} {l : List Nat} {e : Ending} {w' : World} (h : RowPost w l e w') : IwPost w l e w' := by
  obtain ⟨v, rfl, hr, hb⟩ := h
  obtain ⟨a, c, rfl, hi⟩ := RowI.iw hr
  exact ⟨a, _, c, rfl, hi, hb⟩
theorem r_of (a : Option Addr) (n cap : Nat) (zs : List Int) (w : World) (h : Iw w a n cap zs) : Calls Tryd.prog 17 #[.slice a n cap] w (IwPost w (ofL zs)) :=
  (rof_any a n cap zs w h).mono fun _ _ h => h.iw
theorem r_below (n : Int) (w : World) : Calls Tryd.prog 19 #[.int .i64 n] w (IwPost w (belowL n)) :=
  (rbelow_any n w).mono fun _ _ h => h.iw
theorem r_with (a : Option Addr) (n cap : Nat) (l : List Nat) (i : Int) (w : World) (h : Iw w a n cap (cs l)) (hl : Asc l) : Calls Tryd.prog 42 #[.slice a n cap, .int .i64 i] w (IwPost w (withL l i)) :=
  (rwith_any a n cap l i w h hl).mono fun _ _ h => h.iw
theorem r_minus (a b : Option Addr) (n m cap dap : Nat) (l r : List Nat) (w : World) (h : Iw w a n cap (cs l)) (k : Iw w b m dap (cs r)) (hl : Asc l) : Calls Tryd.prog 39 #[.slice a n cap, .slice b m dap] w (IwPost w (minL l r)) := by
  rw [← selL_minus]
  exact (rminus_any a b n m cap dap l (cs r) w h k (asc_len hl)).mono fun _ _ h => h.iw
theorem r_minus1 (a b : Option Addr) (n cap dap : Nat) (l : List Nat) (x : Int) (w : World) (h : Iw w a n cap (cs l)) (k : Iw w b 1 dap [x]) (hl : Asc l) : Calls Tryd.prog 39 #[.slice a n cap, .slice b 1 dap] w (IwPost w (withoutL l x)) := by
  rw [← selL_one]
  exact (rminus_any a b n 1 cap dap l [x] w h k (asc_len hl)).mono fun _ _ h => h.iw
theorem r_and (a b : Option Addr) (n m cap dap : Nat) (l r : List Nat) (w : World) (h : Iw w a n cap (cs l)) (k : Iw w b m dap (cs r)) (hl : Asc l) : Calls Tryd.prog 37 #[.slice a n cap, .slice b m dap] w (IwPost w (andL l r)) := by
  rw [← selL_and]
  exact (rand_any a b n m cap dap l (cs r) w h k (asc_len hl)).mono fun _ _ h => h.iw
theorem is_yes (a b : Option Addr) (n m cap dap : Nat) (l : List Nat) (w : World) (h : Bs w a n cap l) (k : Iw w b m dap (cs l)) (hW : Wld w) :
    Calls Tryd.prog 15 #[.agg #[.slice a n cap], .slice b m dap] w fun e w' => e = .returned (.bool true) ∧ Below w.heap.size w w' := by
  refine (is_any a b n m cap dap l (cs l) w h k hW.tz).mono ?_
  rintro e w' ⟨rfl, hb⟩
  exact ⟨by rw [decide_eq_true rfl], hb⟩
/-- The first sixty numbers of an argument. -/
theorem few_do (a : Option Addr) (n cap : Nat) (zs : List Int) (w : World) (h : Iw w a n cap zs) : ∃ (m : Nat) (ys : List Int), m ≤ 60 ∧ Iw w a m cap ys ∧
    ∀ w', Below w.heap.size w w' → Calls Tryd.prog 14 #[.slice a n cap] w' fun e w'' => e = .returned (.slice a m cap) ∧ w'' = w' :=
  ⟨min n 60, zs.take 60, Nat.min_le_right _ _, h.take 60, fun w' hb => few_any a n cap zs w' (h.below hb)⟩
theorem iw_nil (w : World) : Iw w none 0 0 (cs []) := ⟨rfl, Nat.le_refl _, by omega, .inl ⟨rfl, rfl, rfl⟩⟩
theorem Bs.asc {w : World} {a : Option Addr} {n cap : Nat} {l : List Nat} (h : Bs w a n cap l) : Asc l := by
  obtain ⟨ws, _, hr⟩ := h; exact hr.asc
theorem mem_orL {l r : List Nat} {x : Nat} : x ∈ orL l r ↔ x < 4096 ∧ (x ∈ l ∨ x ∈ r) := by unfold orL; simp
theorem asc_orL (l r : List Nat) : Asc (orL l r) := ⟨(pw_range 4096).filter _, fun x hx => (mem_orL.1 hx).1⟩
theorem mem_andL {l r : List Nat} {x : Nat} : x ∈ andL l r ↔ x ∈ l ∧ x ∈ r := by unfold andL; simp
theorem asc_andL {l : List Nat} (h : Asc l) (r : List Nat) : Asc (andL l r) := asc_filter h _
theorem mem_minL {l r : List Nat} {x : Nat} : x ∈ minL l r ↔ x ∈ l ∧ x ∉ r := by unfold minL; simp
theorem asc_minL {l : List Nat} (h : Asc l) (r : List Nat) : Asc (minL l r) := asc_filter h _
theorem r_text (t : ByteArray) (a : Option Addr) (n cap : Nat) (l : List Nat) (w : World) (ht : t = ⟨(textB l).toArray⟩) (h : Iw w a n cap (cs l)) (hl : Asc l) :
    Calls Tryd.prog 25 #[.slice a n cap] w fun e w' => e = .returned (.string t) ∧ Below w.heap.size w w' := by
  subst ht; exact rtext_any a n cap l w h hl.2 (asc_len hl)
theorem b_text (t : ByteArray) (a : Option Addr) (n cap : Nat) (l : List Nat) (w : World) (ht : t = ⟨(textB l).toArray⟩) (h : Bs w a n cap l) (hW : Wld w) :
    Calls Tryd.prog 26 #[.agg #[.slice a n cap]] w fun e w' => e = .returned (.string t) ∧ Below w.heap.size w w' := by
  subst ht; exact text_any a n cap l w h hW.tz hW.pow
theorem textB_len {l : List Nat} (h : Asc l) : (textB l).length ≤ 20482 := by
  have := (headB_length l h.2).1
  have := asc_len h
  unfold textB
  rw [List.length_append, List.length_singleton]; omega
theorem p_text (t : ByteArray) (l : List Nat) (w : World) (ht : t = ⟨(textB l).toArray⟩) (hl : Asc l) (hW : Wld w) :
    Calls Tryd.prog 24 #[.string t] w fun e w' => ∃ a n c, e = .returned (.tuple #[.agg #[.slice a n c], .int .i64 0]) ∧ Bs w' a n c l ∧ Below w.heap.size w w' := by
  have hd : t.data.toList = textB l := by rw [ht]
  have hs : t.size ≤ 100000 := by rw [ht, size_mk]; have := textB_len hl; omega
  refine (parse_any t hs w hW).mono ?_
  rintro e w' ⟨⟨a, n, c, l', rfl, hb, he⟩ | ⟨_, hno⟩, hbel⟩
  · refine ⟨a, n, c, rfl, ?_, hbel⟩
    have h1 := back_text (Bs.asc hb).2
    have h2 := back_text hl.2
    rw [← he, hd, h2] at h1
    rw [h1]; exact hb
  · exact absurd hd (hno l hl)
theorem of_self (a : Option Addr) (n cap : Nat) (l : List Nat) (w : World) (h : Iw w a n cap (cs l)) (hl : Asc l) :
    Calls Tryd.prog 16 #[.slice a n cap] w (SetPost w l) := by
  have h1 := of_any a n cap (cs l) w h (by have := h.1; rw [cs_length] at this; have := asc_len hl; omega)
  have h2 : ofL (cs l) = l := ofL_self hl
  rw [h2] at h1
  exact h1
theorem cmpL_cases : ∀ l r, cmpL l r = 0 ∨ cmpL l r = 1 ∨ cmpL l r = -1
  | [], [] => .inl rfl
  | [], _ :: _ => .inr (.inr rfl)
  | _ :: _, [] => .inr (.inl rfl)
  | x :: l, y :: r => by
    unfold cmpL
    split
    · exact .inr (.inr rfl)
    · split
      · exact .inr (.inl rfl)
      · exact cmpL_cases l r
theorem cmpL_trans : ∀ l m k, cmpL l m ≤ 0 → cmpL m k ≤ 0 → cmpL l k ≤ 0
  | [], _, [], _, _ => by decide
  | [], _, _ :: _, _, _ => by simp [cmpL]
  | _ :: _, [], _, h, _ => by simp [cmpL] at h
  | _ :: _, _ :: _, [], _, h => by simp [cmpL] at h
  | x :: l, y :: m, z :: k, h1, h2 => by
    unfold cmpL at h1 h2 ⊢
    have ih := cmpL_trans l m k
    split at h1 <;> split at h2 <;> (try split at h1) <;> (try split at h2) <;> (try (exfalso; omega)) <;> split <;> (try omega) <;> split <;> (try omega) <;> exact ih h1 h2
theorem Iw.cell {w : World} {b o n cap : Nat} {zs : List Int} (h : Iw w (some ⟨b, o, none⟩) n cap zs) {k : Nat} (hk : k < n) : w.cell? ⟨b, o + k, none⟩ = some (.int .i64 (zg zs k)) := by
  obtain ⟨b', o', e, _, hc⟩ := h.at hk
  cases e; exact hc
theorem step_callB {B : Nat} {w w1 w2 : World} (h : Below B w w1) (hz : B ≤ w.heap.size) (h2 : Below w1.heap.size w1 w2) : Below B w w2 := h.trans (h2.mono (Nat.le_trans hz h.size))
theorem box1 {w wr : World} {x : Value} {T1 : TypeId} (h : Below (w.heap.size + 1) (w.alloc (.cells #[x] T1)) wr) : wr.cell? ⟨w.heap.size, 0, none⟩ = some x ∧ Below w.heap.size w wr :=
  ⟨(h.cell (p := ⟨w.heap.size, 0, none⟩) (Nat.lt_succ_self _)).trans (new1 w x T1).1, ((Below.refl _ _).alloc (Nat.le_refl _) _).trans (h.mono (Nat.le_succ _))⟩
end Go.Proofs.YtaekkpoknpnnbaaDoor
