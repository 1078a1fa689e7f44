/- Contracts in the form that the laws' walks use. -/
import Derived.Test.YtadomogbakcokaaGreatDoorQgt
import Derived.Test.YtadomogbakcokaaGreatDoorQgp
namespace Go.Proofs.YtadomogbakcokaaGreatDoor
open Go.RowKit Go.PlainAid
set_option linter.unusedVariables false
set_option linter.unusedSimpArgs false
set_option maxHeartbeats 2000000

/-- A slice of the reference's cubes is returned. -/
def MsP (w : World) (l : List Mc) (e : Ending) (w' : World) : Prop := ∃ a n c, e = .returned (.slice a n c) ∧ Ms w' a n c l ∧ Below w.heap.size w w'
/-- A slice of cubes is returned. -/
def CsQ (w : World) (l : List Cu) (e : Ending) (w' : World) : Prop := ∃ a n c, e = .returned (.slice a n c) ∧ Cs w' a n c l ∧ Below w.heap.size w w'
theorem rlist_c (a : Option Addr) (n cap : Nat) (l : List Rx) (L : List Mc) (w : World) (h : Rs w a n cap l) (hL : Hid (listM l = L)) :
    Calls Tryz.prog 16 #[.slice a n cap] w (MsP w L) := by
  have eL := hL.out
  subst eL
  refine (rlist_any a n cap l w h).mono ?_
  rintro e w' ⟨v, rfl, hm, hb⟩
  obtain ⟨b, c, rfl, hs⟩ := hm.len
  exact ⟨b, _, c, rfl, hs, hb⟩
theorem makeAll_c (a : Option Addr) (n cap : Nat) (l : List Mc) (L : List Cu) (w : World) (h : Ms w a n cap l) (hn : l.length ≤ 1000000) (hL : Hid (l.map cuM = L)) :
    Calls Tryz.prog 24 #[.slice a n cap] w (CsQ w L) := by
  have eL := hL.out
  subst eL
  refine (makeAll_any a n cap l w h (by rw [← h.len]; exact hn)).mono ?_
  rintro e w' ⟨v, rfl, hm, hb⟩
  obtain ⟨b, c, rfl, hs⟩ := hm.len
  exact ⟨b, _, c, rfl, hs, hb⟩
theorem lawset_c (m : Nat) (l : List Nat) (w : World) (hm : m < 18446744073709551616) (hl : Hid (bitsL m = l)) : Calls Tryz.prog 19 #[.int .u64 (m : Nat)] w (SetPost w l) := by
  rw [← hl.out]; exact lawset_any m hm w
theorem lawmake_c (m1 m2 : Nat) (x : Cu) (w : World) (hc : McOk (m1, m2)) (hx : Hid (cuM (m1, m2) = x)) : Calls Tryz.prog 18 #[.agg #[.int .u64 (m1 : Nat), .int .u64 (m2 : Nat)]] w (CubePost w x) := by
  rw [← hx.out]; exact lawmake_any (m1, m2) hc w
theorem count_yes (a e : Option Addr) (n cap k f : Nat) (l : List Cu) (s : List Nat) (r : Nat) (w : World) (h : Cs w a n cap l) (hs : Bs w e k f s) (hT : Tz w) (hl : s.length ≤ 16) (hr : Hid (countC l s = r)) :
    Calls Tryz.prog 33 #[.slice a n cap, .agg #[.slice e k f]] w fun e w' => e = .returned (.tuple #[.int .i64 (r : Nat), .int .i64 0]) ∧ Below w.heap.size w w' := by
  refine (count_any a e n cap k f l s w h hs hT).mono ?_
  rintro e w' ⟨rfl, hb⟩
  rw [if_pos hl, hr.out]
  exact ⟨rfl, hb⟩
theorem count_no (a e : Option Addr) (n cap k f : Nat) (l : List Cu) (s : List Nat) (w : World) (h : Cs w a n cap l) (hs : Bs w e k f s) (hT : Tz w) (hl : ¬ s.length ≤ 16) :
    Calls Tryz.prog 33 #[.slice a n cap, .agg #[.slice e k f]] w fun e w' => e = .returned (.tuple #[.int .i64 0, .int .i64 3]) ∧ Below w.heap.size w w' := by
  refine (count_any a e n cap k f l s w h hs hT).mono ?_
  rintro e w' ⟨rfl, hb⟩
  rw [if_neg hl]
  exact ⟨rfl, hb⟩
theorem cs_nil (w : World) : Cs w none 0 0 [] := ⟨[], Dk.nil _ _ _ _ (by omega), AllC.nil _⟩
theorem countC_nil (s : List Nat) : countC [] s = 0 := by
  unfold countC
  rw [List.length_eq_zero_iff, List.filter_eq_nil_iff]
  intro m _
  simp [someC]
theorem bits_len8 {m : Nat} (hm : m < 256) : (bitsL m).length ≤ 16 := by
  rw [low8_bits hm]
  exact Nat.le_trans (List.length_filter_le _ _) (by simp)
theorem belowL_len (k : Nat) (hk : k ≤ 4096) : (belowL (k : Nat)).length = k := by
  unfold belowL
  rw [List.length_range]
  omega
theorem list_ok {l : List Mc} (h : ∀ c ∈ l, Mc8 c) : ∀ c ∈ l, McOk c := fun c hc => (h c hc).ok
theorem u8_of {o : Int} (h : (Lit.int .u8 o).wf = true) : ∃ m : Nat, o = m ∧ m < 256 := by
  have := bounds_u8 h
  exact ⟨o.toNat, by omega, by omega⟩
end Go.Proofs.YtadomogbakcokaaGreatDoor
