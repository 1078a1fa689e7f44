/- The tables that the card ties: the table of TrailingZeros64 too. -/
import Derived.Test.YtgbonpmakahibaaDoorDaQ
import Derived.Test.YtgbonpmakahibaaDoorBtB
namespace Go.Proofs.YtgbonpmakahibaaDoor.Dy
open Go.ChangeShapes Go.WideShapes Go.ChangeAt Go.RowKit Go.Deep Go.Joins
set_option linter.unusedVariables false

theorem e_tz : (Rows.laid_math_bits_deBruijn64tab : DataW Unit) = Lib.tabData .u8 (Lib.deBruijn64tab.map fun x : Nat => (x : Int)) := by kernel_rfl
theorem wld2_of {W : World} (h : laidMetH Tryd.prog laidDays W) : Pow10 W ∧ Tz W := by
  refine ⟨wld_of h, ?_⟩
  rw [MakeChecks.laidMetH_plain _ _ _ (by kernel_rfl)] at h
  have h1 : laidMet Tryd.prog _ W := laidMet.tail (show laidMet Tryd.prog (_ :: _) W from h)
  rw [e_tz] at h1
  have t1 := Lib.tabIs_of_head (g := 0) (by kernel_rfl) (t := 89) (by kernel_rfl) Tryd.underlying89 Tryd.underlying5 (by kernel_rfl) (by kernel_rfl) h1
  have hz : ∀ j, j < Lib.deBruijn64tab.length → W.cell? ⟨0, j, none⟩ = some (.int .u8 (Lib.deBruijn64tab.getD j 0)) := fun j hj => by
    rw [Lib.TabIs.cell t1 (by kernel_rfl) j (by simpa using hj)]
    rw [List.getD_eq_getElem?_getD, List.getD_eq_getElem?_getD, List.getElem?_map, List.getElem?_eq_getElem hj]; rfl
  exact ⟨World.block_lt_of_cell? W _ (hz 0 (by decide)), hz⟩
end Go.Proofs.YtgbonpmakahibaaDoor.Dy
