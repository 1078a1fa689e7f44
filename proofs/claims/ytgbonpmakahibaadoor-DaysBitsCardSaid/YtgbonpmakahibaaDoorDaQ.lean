/- The table that the card ties, opened; slices of pairs that came in, opened. -/
import Derived.Test.YtgbonpmakahibaaDoorRows
import Derived.Test.YtgbonpmakahibaaDoorDaP
import Derived.Deep.Slices
import Derived.Lib.SmallJoins
import Derived.Lib.LaidTab
import Derived.Lib.LaidU8
import Derived.Stop.LaidErr
import Derived.Stop.Joined
import Derived.ProofKit
import Derived.LaidMore
import Derived.OpenShut
import Derived.WalkKit
import Derived.ShutString
import Derived.ChangeOld
import Derived.Below
namespace Go.Proofs.YtgbonpmakahibaaDoor.Dy
open Go.ChangeShapes Go.WideShapes Go.ChangeAt Go.RowKit Go.Deep Go.Joins
set_option linter.unusedVariables false

def laidDays : List (String × DataW Unit) := Rows.daysNextRow.laid
theorem e_pow : (Rows.laid_internal_strconv_uint64pow10 : DataW Unit) = Lib.tabData .u64 Lib.pow10Tab := by kernel_rfl
theorem wld_of {W : World} (h : laidMetH Tryd.prog laidDays W) : Pow10 W := by
  rw [MakeChecks.laidMetH_plain _ _ _ (by kernel_rfl)] at h
  have h1 : laidMet Tryd.prog _ W := laidMet.tail (show laidMet Tryd.prog (_ :: _) W from h)
  have h2 : laidMet Tryd.prog _ W := laidMet.tail h1
  rw [e_pow] at h2
  have t2 := Lib.tabIs_of_head (g := 2) (by kernel_rfl) (t := 132) (by kernel_rfl) Tryd.underlying132 Tryd.underlying77 (by kernel_rfl) (by kernel_rfl) h2
  exact Lib.tabBelow_of_tabIs t2
theorem door_shaped (os : Go.Os) (args : Array Value) : ((World.doorLaid Tryd.prog 24 os).forCall (fun _ _ => 0) ⟨#[], args, []⟩).Shaped Tryd.prog := World.shaped_of_RefB (by kernel_rfl) (by kernel_rfl)
theorem door_met (os : Go.Os) (args : Array Value) : laidMetH Tryd.prog laidDays ((World.doorLaid Tryd.prog 24 os).forCall (fun _ _ => 0) ⟨#[], args, []⟩).memory :=
  laidMetH_of_parts3 (fuel := 8) (laidMet_of_run' 8 (by kernel_rfl) (by kernel_rfl)) (by kernel_rfl) (by kernel_rfl)

theorem addr_add (b o n : Nat) : (⟨b, o, none⟩ : Addr).add n = ⟨b, o + n, none⟩ := by unfold Addr.add; split <;> simp_all
theorem cells2_get {w : World} {base : Nat} {a : Addr} {cs : List Value} (h : w.cells? base a 2 = some cs) : ∃ c0 c1, cs = [c0, c1] ∧ w.cell? (a.add 0) = some c0 ∧ w.cell? (a.add 1) = some c1 := by
  unfold World.cells? at h
  split at h
  · have hl := mapM_some_length h
    have h0 := mapM_some_get h 0 0 (by simp)
    have h1 := mapM_some_get h 1 1 (by simp)
    match cs, hl with
    | [c0, c1], _ => exact ⟨c0, c1, rfl, by simpa using h0, by simpa using h1⟩
  · cases h
set_option maxRecDepth 20000 in
theorem ok_addr {W : World} {base : Nat} {t e : TypeId} {a : Option Addr} {n cap : Nat} (ht : Tryd.prog.underlying t = some (.slice e)) (h : Value.okWide Tryd.prog W .any base t (.slice a n cap)) :
    n ≤ cap ∧ cap ≤ 9223372036854775807 ∧ (a = none ∧ n = 0 ∧ cap = 0 ∨ ∃ b o, a = some ⟨b, o, none⟩ ∧ b < W.heap.size) := by
  simp only [Value.okWide, ht, Cell.okWide] at h
  cases a with
  | none =>
    rcases n with _ | n
    · rcases cap with _ | c
      · exact ⟨Nat.le_refl _, Nat.zero_le _, .inl ⟨rfl, rfl, rfl⟩⟩
      · simp [Cell.ok, ht] at h
    · simp [Cell.ok, ht] at h
  | some ad =>
    simp only [Cell.ok, ht] at h
    obtain ⟨h1, h2, _, h3, row, cells, h4, _⟩ := h
    obtain ⟨b, o, sp⟩ := ad
    dsimp only at h3
    subst h3
    have hm : IntKind.i64.max = 9223372036854775807 := by decide
    rw [hm] at h2
    refine ⟨h1, by omega, .inr ⟨b, o, rfl, ?_⟩⟩
    unfold World.shape? at h4
    rcases Nat.lt_or_ge b W.heap.size with hb | hb
    · exact hb
    · rw [Array.getElem?_eq_none hb] at h4; cases h4
set_option maxRecDepth 100000 in
/-- A slice of pairs, opened. -/
theorem open_pairs2 {H : Type} {enc : TypeId × Value → H} {W : World} {base : Nat} {sp : Nat → Bool} {held : Bool} {a : Option Addr} {n cap : Nat} {d : DataW H} {p : List MemPlace} {S T U : TypeId} {k : IntKind}
    (hS : Tryd.prog.underlying S = some (.slice T)) (hT : Tryd.prog.underlying T = some (.array 2 U)) (hU : Tryd.prog.underlying U = some (.int k)) (hCT : Tryd.prog.cellsOf T = 2) (hCU : Tryd.prog.cellsOf U = 1)
    (hok : Value.okWide Tryd.prog W .any base S (.slice a n cap)) (h : DataW.Trod enc Tryd.prog W 0 sp held S (.slice a n cap) d p) :
    n ≤ cap ∧ cap ≤ 9223372036854775807 ∧ (a = none ∧ n = 0 ∧ cap = 0 ∨ ∃ b o, a = some ⟨b, o, none⟩ ∧ b < W.heap.size ∧
      ∃ f : Nat → Int × Int, ∀ i, i < n → ((Lit.int k (f i).1).wf = true ∧ (Lit.int k (f i).2).wf = true) ∧ W.cell? ⟨b, o + i * 2, none⟩ = some (.int k (f i).1) ∧ W.cell? ⟨b, o + i * 2 + 1, none⟩ = some (.int k (f i).2)) := by
  obtain ⟨h1, h2, h3⟩ := ok_addr hS hok
  obtain ⟨fuel, hf⟩ := h
  have hf : DataW.trod enc Tryd.prog W 0 sp held fuel S [.slice a n cap] = some (d, p) := by simpa [Value.cells] using hf
  refine ⟨h1, h2, ?_⟩
  rcases h3 with ⟨rfl, rfl, rfl⟩ | ⟨b, o, rfl, hb⟩
  · exact .inl ⟨rfl, rfl, rfl⟩
  · refine .inr ⟨b, o, rfl, hb, ?_⟩
    rcases open_slice hS hf with ⟨h0, _⟩ | ⟨ad, len, cp, m, kk, D, Pl, h0, _, hle, hcm, hm, _, hel⟩
    · simp at h0
    · simp only [List.cons.injEq, Value.slice.injEq, Option.some.injEq, and_true] at h0
      obtain ⟨rfl, rfl, rfl⟩ := h0
      rw [hCT] at hel
      have hnm : n ≤ m := by rw [hm]; split <;> omega
      have helem : ∀ i, i < n → ∃ q : Int × Int, ((Lit.int k q.1).wf = true ∧ (Lit.int k q.2).wf = true) ∧ W.cell? ⟨b, o + i * 2, none⟩ = some (.int k q.1) ∧ W.cell? ⟨b, o + i * 2 + 1, none⟩ = some (.int k q.2) := by
        intro i hi
        obtain ⟨cs, hc, ht⟩ := hel i (by omega)
        obtain ⟨c0, c1, rfl, hg0, hg1⟩ := cells2_get hc
        obtain ⟨xs, mm, _, _, _, hxl, hx⟩ := DataW.trod_array hT ht
        rw [hCU] at hx
        have hx0 := hx 0 (by omega)
        have hx1 := hx 1 (by omega)
        rw [List.getElem?_eq_getElem (by omega)] at hx0 hx1
        obtain ⟨z0, hz0, _, hw0⟩ := DataW.trod_int hU hx0
        obtain ⟨z1, hz1, _, hw1⟩ := DataW.trod_int hU hx1
        simp at hz0 hz1
        subst hz0 hz1
        rw [addr_add, addr_add] at hg0 hg1
        exact ⟨(z0, z1), ⟨hw0, hw1⟩, by simpa using hg0, by simpa [Nat.add_assoc] using hg1⟩
      exact choose_lt helem
set_option maxRecDepth 100000 in
theorem open_u16s {H : Type} {enc : TypeId × Value → H} {W : World} {base : Nat} {sp : Nat → Bool} {held : Bool} {a : Option Addr} {n cap : Nat} {d : DataW H} {p : List MemPlace}
    (hok : Value.okWide Tryd.prog W .any base 22 (.slice a n cap)) (h : DataW.Trod enc Tryd.prog W 0 sp held 22 (.slice a n cap) d p) : ∃ l, Us W a n cap l := by
  obtain ⟨h1, h2, h3⟩ := open_pairs2 Tryd.underlying22 Tryd.underlying58 Tryd.underlying57 (by kernel_rfl) (by kernel_rfl) hok h
  rcases h3 with h3 | ⟨b, o, rfl, hb, f, hf⟩
  · obtain ⟨rfl, rfl, rfl⟩ := h3
    exact ⟨[], rfl, h1, h2, .inl ⟨rfl, rfl, rfl⟩⟩
  · refine ⟨(List.range n).map fun i => ((f i).1.toNat, (f i).2.toNat), by simp, h1, h2, .inr ⟨b, o, rfl, hb, fun j q hq => ?_⟩⟩
    have hj : j < n := by have := (List.getElem?_eq_some_iff.1 hq).1; simpa using this
    rw [List.getElem?_map, List.getElem?_range hj] at hq
    cases hq
    obtain ⟨⟨w0, w1⟩, c0, c1⟩ := hf j hj
    have b0 := bounds_u16 w0
    have b1 := bounds_u16 w1
    dsimp only
    refine ⟨by omega, ?_, ?_⟩
    · rw [c0, show (((f j).1.toNat : Nat) : Int) = (f j).1 by omega]
    · rw [c1, show (((f j).2.toNat : Nat) : Int) = (f j).2 by omega]
set_option maxRecDepth 100000 in
theorem open_pairs {H : Type} {enc : TypeId × Value → H} {W : World} {base : Nat} {sp : Nat → Bool} {held : Bool} {a : Option Addr} {n cap : Nat} {d : DataW H} {p : List MemPlace}
    (hok : Value.okWide Tryd.prog W .any base 34 (.slice a n cap)) (h : DataW.Trod enc Tryd.prog W 0 sp held 34 (.slice a n cap) d p) : ∃ l, Ds W a n cap l ∧ AtB a n cap := by
  obtain ⟨h1, h2, h3⟩ := open_pairs2 Tryd.underlying34 Tryd.underlying69 Tryd.underlying3 (by kernel_rfl) (by kernel_rfl) hok h
  rcases h3 with h3 | ⟨b, o, rfl, hb, f, hf⟩
  · obtain ⟨rfl, rfl, rfl⟩ := h3
    exact ⟨[], ⟨rfl, h1, by unfold maxLen; omega, .inl rfl⟩, .inl ⟨rfl, rfl, rfl⟩⟩
  · refine ⟨(List.range n).map f, ⟨by simp, h1, by unfold maxLen; omega, .inr ⟨b, o, rfl, hb, fun j q hq => ?_⟩⟩, .inr ⟨b, o, rfl⟩⟩
    have hj : j < n := by have := (List.getElem?_eq_some_iff.1 hq).1; simpa using this
    rw [List.getElem?_map, List.getElem?_range hj] at hq
    cases hq
    exact (hf j hj).2
end Go.Proofs.YtgbonpmakahibaaDoor.Dy
