/- The world that the door lays for DaysEncodes. -/
import Derived.Test.YtfdododighjjpaaGreatDoorDzQ
import Derived.Test.YtfdododighjjpaaGreatDoorKcB
namespace Go.Proofs.YtfdododighjjpaaGreatDoor.Dy
open Go.ChangeShapes Go.WideShapes Go.ChangeAt Go.RowKit Go.Deep Go.Joins
set_option linter.unusedVariables false
def laidGreatE : List (String × DataW Unit) := Rows.daysEncodesRow.laid
theorem e_rc : (Rows.laid_arbac_keccak_rounds : DataW Unit) = Lib.tabData .u64 Kc.rcT := by kernel_rfl
theorem e_tu : (Rows.laid_arbac_keccak_turns : DataW Unit) = Lib.tabData .i64 (Kc.tuT.map fun x : Nat => (x : Int)) := by kernel_rfl
theorem wz_ofE {W : World} (h : laidMetH Tryz.prog laidGreatE W) (hs : W.ShapedOpen Tryz.prog) : Wz W ∧ Kc.Kt W := by
  rw [MakeChecks.laidMetH_plain _ _ _ (by kernel_rfl)] at h
  have h1 : laidMet Tryz.prog _ W := laidMet.tail (show laidMet Tryz.prog (_ :: _) W from h)
  have h2 : laidMet Tryz.prog _ W := laidMet.tail h1
  have h3 : laidMet Tryz.prog _ W := laidMet.tail h2
  have h4 : laidMet Tryz.prog _ W := laidMet.tail h3
  have h5 : laidMet Tryz.prog _ W := laidMet.tail h4
  have h6 : laidMet Tryz.prog _ W := laidMet.tail h5
  have h7 : laidMet Tryz.prog _ W := laidMet.tail h6
  rw [e_pow] at h2
  rw [e_rc] at h6
  rw [e_tu] at h7
  have t2 := Lib.tabIs_of_head (g := 3) (by kernel_rfl) (t := 164) (by kernel_rfl) Tryz.underlying164 Tryz.underlying45 (by kernel_rfl) (by kernel_rfl) h2
  have t6 := Lib.tabIs_of_head (g := 4) (by kernel_rfl) (t := 176) (by kernel_rfl) Tryz.underlying176 Tryz.underlying45 (by kernel_rfl) (by kernel_rfl) h6
  have t7 := Lib.tabIs_of_head (g := 5) (by kernel_rfl) (t := 179) (by kernel_rfl) Tryz.underlying179 Tryz.underlying3 (by kernel_rfl) (by kernel_rfl) h7
  obtain ⟨a3, s3, v3, _, _, _⟩ := laid_sentinel h4 (g := 2) (by kernel_rfl) (by kernel_rfl) Tryz.underlying71 (tp := 167) row_err Tryz.underlying167 Tryz.underlying169 rfl rfl Tryz.underlying9 (by kernel_rfl) (by kernel_rfl)
  obtain ⟨a4, s4, v4, _, _, _⟩ := laid_sentinel h5 (g := 1) (by kernel_rfl) (by kernel_rfl) Tryz.underlying71 (tp := 167) row_err Tryz.underlying167 Tryz.underlying169 rfl rfl Tryz.underlying9 (by kernel_rfl) (by kernel_rfl)
  refine ⟨{
    pow := Lib.tabBelow_of_tabIs t2
    syn := ⟨_, _, fun w' hb => var_below (g := 1) (by kernel_rfl) v4 hb⟩
    rng := ⟨_, _, fun w' hb => var_below (g := 2) (by kernel_rfl) v3 hb⟩
    mxl := Tryz.laysM145.s1_3 W hs }, ⟨fun j v hv => ?_, fun j hj => ?_⟩⟩
  · have hj : j < Kc.rcT.length := by have := (List.getElem?_eq_some_iff.1 hv).1; simpa using this
    rw [Nat.zero_add, Lib.TabIs.cell t6 (by kernel_rfl) j hj, ← hv, List.getElem?_map, List.getElem?_eq_getElem hj, List.getD_eq_getElem?_getD, List.getElem?_eq_getElem hj]
    rfl
  · have hj' : j < Kc.tuT.length := hj
    rw [Lib.TabIs.cell t7 (by kernel_rfl) j (by simpa using hj')]
    unfold Kc.tu
    rw [List.getD_eq_getElem?_getD, List.getD_eq_getElem?_getD, List.getElem?_map, List.getElem?_eq_getElem hj']; rfl
theorem door_shapedE (os : Go.Os) (args : Array Value) : ((World.laidAll Tryz.prog os laidGreatE).forCall (fun _ _ => 0) ⟨#[], args, []⟩).Shaped Tryz.prog := World.shaped_of_ZipB (by kernel_rfl) (by kernel_rfl)
theorem door_metE (os : Go.Os) (args : Array Value) : laidMetH Tryz.prog laidGreatE ((World.laidAll Tryz.prog os laidGreatE).forCall (fun _ _ => 0) ⟨#[], args, []⟩).memory := by
  rw [MakeChecks.laidMetH_plain _ _ _ (by kernel_rfl)]
  exact laidMet_laidAll _ (by kernel_rfl) (by kernel_rfl)
end Go.Proofs.YtfdododighjjpaaGreatDoor.Dy
