/- A slice of bytes that came in, opened. -/
import Derived.Test.YtnjaflldlhiefaaTokenBlanksW
import Derived.ProofKit
import Derived.OpenShut
namespace Go.Proofs.Ytnjaflldlhiefaa
open Go.ChangeShapes Go.WideShapes Go.ChangeAt Go.RowKit
set_option linter.unusedVariables false

theorem open_bytes {H : Type} {enc : TypeId × Value → H} {W : World} {sp : Nat → Bool} {held : Bool} {a : Option Addr} {n cap : Nat} {d : DataW H} {p : List MemPlace}
    (h : DataW.Trod enc Try.prog W 0 sp held 44 (.slice a n cap) d p) : ∃ zs, IsRow8 W a n cap zs := by
  obtain ⟨fuel, hf⟩ := h
  rcases open_ints Try.underlying44 Try.underlying5 (by kernel_rfl) hf with ⟨hcs, _⟩ | ⟨x, l, c, zs, hcs, _, hl, hm, hz, _, hcell, hwz⟩
  · simp [Value.cells] at hcs
    obtain ⟨rfl, rfl, rfl⟩ := hcs
    exact ⟨[], Nat.le_refl _, Nat.zero_le _, fun i hi => by omega, .inl rfl⟩
  · simp [Value.cells] at hcs
    obtain ⟨rfl, rfl, rfl⟩ := hcs
    have hlen : n ≤ zs.length := by rw [hz]; split <;> omega
    refine ⟨zs, hl, hm, fun i hi => ?_, ?_⟩
    · have hmem : zs.getD i 0 ∈ zs := by
        rw [List.getD_eq_getElem?_getD, List.getElem?_eq_getElem (by omega)]
        exact List.getElem_mem _
      exact bounds_u8 (hwz _ hmem)
    · by_cases h0 : n = 0
      · exact .inl h0
      · right
        obtain ⟨b, o, spot⟩ := x
        have hc := hcell 0 (by omega)
        have hspot : spot = none := by
          have := World.cell?_spot hc
          cases spot with
          | none => rfl
          | some z => simp [Addr.add] at this
        subst hspot
        have hadd : ∀ i, (⟨b, o, none⟩ : Addr).add i = ⟨b, o + i, none⟩ := fun i => by unfold Addr.add; split <;> simp_all
        refine ⟨b, o, rfl, ?_, fun i hi => by rw [← hadd]; exact hcell i (by omega)⟩
        have := World.block_lt_of_cell? W _ hc
        simpa [hadd] using this

end Go.Proofs.Ytnjaflldlhiefaa
