/- The tables that the card ties, opened; slices that came in, opened. -/
import Derived.Test.YtaekkpoknpnnbaaDoorRows
import Derived.Test.YtaekkpoknpnnbaaDoorBuC
import Derived.Deep.Slices
import Derived.Lib.SmallJoins
import Derived.Lib.LaidU8
import Derived.Lib.LaidTab
import Derived.Stop.LaidErr
import Derived.Stop.Joined
import Derived.ProofKit
import Derived.LaidMore
import Derived.OpenShut
namespace Go.Proofs.YtaekkpoknpnnbaaDoor
open Go.ChangeShapes Go.WideShapes Go.ChangeAt Go.RowKit Go.Deep Go.Joins
set_option linter.unusedVariables false

def laidBits : List (String × DataW Unit) := Rows.bitsMakesRow.laid
theorem e_tz : (Rows.laid_math_bits_deBruijn64tab : DataW Unit) = Lib.tabData .u8 (Lib.deBruijn64tab.map fun x : Nat => (x : Int)) := by kernel_rfl
theorem e_pow : (Rows.laid_internal_strconv_uint64pow10 : DataW Unit) = Lib.tabData .u64 Lib.pow10Tab := by kernel_rfl
theorem e_space : (Rows.laid_strings_asciiSpace : DataW Unit) = Lib.tabData .u8 Lib.asciiSpaceTab := by kernel_rfl
theorem e_white : (Rows.laid_unicode_White_Space : DataW Unit) = Lib.whiteData := by kernel_rfl
theorem whiteExtra : WhiteExtra Tryd.prog Tryd.lays199_ren where
  n6 := by kernel_rfl
  y6 := by kernel_rfl
  c3 := by kernel_rfl
  c49 := by kernel_rfl
  c193 := by kernel_rfl
  c194 := by kernel_rfl
  c196 := by kernel_rfl
  c198 := by kernel_rfl
theorem var_below {P : Program} {w w' : World} {n : String} {g : Nat} {x : Value} (hg : P.globalNamed n = some g) (hv : w.var? P n = some #[x]) (hb : Below w.heap.size w w') : w'.var? P n = some #[x] := by
  have hc := World.var?_cell hg hv 0
  have hlt := World.block_lt_of_cell? w _ (show w.cell? ⟨g, 0, none⟩ = some x from hc)
  unfold World.var? at hv ⊢
  simp only [hg, Option.bind_some] at hv ⊢
  rw [hb.block g hlt]
  exact hv
theorem star_err : "*" ++ "errors.errorString" = "*errors.errorString" := by decide
theorem row_err (u : TypeId) (h : Tryd.prog.typeName? 3 u = some "*errors.errorString") : u = 127 :=
  typeName_ptr_named (nm := "errors.errorString") (by rw [star_err]; kernel_rfl) (by kernel_rfl) (by decide) u (by rw [star_err]; exact h)
theorem wld_of {W : World} (h : laidMetH Tryd.prog laidBits W) : Wld W := by
  rw [MakeChecks.laidMetH_plain _ _ _ (by kernel_rfl)] at h
  have h1 : laidMet Tryd.prog _ W := laidMet.tail (show laidMet Tryd.prog (_ :: _) W from h)
  have h2 : laidMet Tryd.prog _ W := laidMet.tail h1
  have h3 : laidMet Tryd.prog _ W := laidMet.tail h2
  have h4 : laidMet Tryd.prog _ W := laidMet.tail h3
  have h5 : laidMet Tryd.prog _ W := laidMet.tail h4
  have h6 : laidMet Tryd.prog _ W := laidMet.tail h5
  rw [e_tz] at h1
  rw [e_pow] at h2
  rw [e_white] at h5
  rw [e_space] at h6
  have t1 := Lib.tabIs_of_head (g := 0) (by kernel_rfl) (t := 81) (by kernel_rfl) Tryd.underlying81 Tryd.underlying5 (by kernel_rfl) (by kernel_rfl) h1
  have t2 := Lib.tabIs_of_head (g := 5) (by kernel_rfl) (t := 132) (by kernel_rfl) Tryd.underlying132 Tryd.underlying66 (by kernel_rfl) (by kernel_rfl) h2
  have t6 := Lib.tabIs_of_head (g := 1) (by kernel_rfl) (t := 83) (by kernel_rfl) Tryd.underlying83 Tryd.underlying5 (by kernel_rfl) (by kernel_rfl) h6
  have hw := whiteTab_of_reads Tryd.lays199 whiteExtra (w := W) (by
    obtain ⟨ps, hps, _⟩ := h5
    exact Lib.LaidVars_reads hps _ _ (List.mem_cons_self ..))
  obtain ⟨a3, s3, v3, _, _, _⟩ := laid_sentinel h3 (g := 4) (by kernel_rfl) (by kernel_rfl) Tryd.underlying72 (tp := 127) row_err Tryd.underlying127 Tryd.underlying129 rfl rfl Tryd.underlying9 (by kernel_rfl) (by kernel_rfl)
  obtain ⟨a4, s4, v4, _, _, _⟩ := laid_sentinel h4 (g := 3) (by kernel_rfl) (by kernel_rfl) Tryd.underlying72 (tp := 127) row_err Tryd.underlying127 Tryd.underlying129 rfl rfl Tryd.underlying9 (by kernel_rfl) (by kernel_rfl)
  have hz : ∀ j, j < Lib.deBruijn64tab.length → W.cell? ⟨0, j, none⟩ = some (.int .u8 (Lib.deBruijn64tab.getD j 0)) := fun j hj => by
    rw [Lib.TabIs.cell t1 (by kernel_rfl) j (by simpa using hj)]
    rw [List.getD_eq_getElem?_getD, List.getD_eq_getElem?_getD, List.getElem?_map, List.getElem?_eq_getElem hj]; rfl
  exact {
    tz := ⟨World.block_lt_of_cell? W _ (hz 0 (by decide)), hz⟩
    pow := Lib.tabBelow_of_tabIs t2
    space := Lib.tabBelow_of_tabIs t6
    white := fun w' hb => WhiteTab_below hw hb
    syn := ⟨_, _, fun w' hb => var_below (g := 3) (by kernel_rfl) v4 hb⟩
    rng := ⟨_, _, fun w' hb => var_below (g := 4) (by kernel_rfl) v3 hb⟩ }

theorem addr_add (b o n : Nat) : (⟨b, o, none⟩ : Addr).add n = ⟨b, o + n, none⟩ := by unfold Addr.add; split <;> simp_all
theorem cells1_get {w : World} {base : Nat} {a : Addr} {cs : List Value} (h : w.cells? base a 1 = some cs) : ∃ c, cs = [c] ∧ w.cell? (a.add 0) = some c := by
  unfold World.cells? at h
  split at h
  · have hl := mapM_some_length h
    have hg := mapM_some_get h 0 0 (by simp)
    match cs, hl with
    | [c], _ => exact ⟨c, rfl, by simpa using hg⟩
  · cases h
set_option maxRecDepth 20000 in
theorem ok_addr {W : World} {base : Nat} {t e : TypeId} {a : Option Addr} {n cap : Nat} (ht : Tryd.prog.underlying t = some (.slice e)) (h : Value.okWide Tryd.prog W .any base t (.slice a n cap)) :
    n ≤ cap ∧ cap ≤ 9223372036854775807 ∧ (a = none ∧ n = 0 ∧ cap = 0 ∨ ∃ b o, a = some ⟨b, o, none⟩ ∧ b < W.heap.size) := by
  simp only [Value.okWide, ht, Cell.okWide] at h
  cases a with
  | none =>
    rcases n with _ | n
    · rcases cap with _ | c
      · exact ⟨Nat.le_refl _, Nat.zero_le _, .inl ⟨rfl, rfl, rfl⟩⟩
      · simp [Cell.ok, ht] at h
    · simp [Cell.ok, ht] at h
  | some ad =>
    simp only [Cell.ok, ht] at h
    obtain ⟨h1, h2, _, h3, row, cells, h4, _⟩ := h
    obtain ⟨b, o, sp⟩ := ad
    dsimp only at h3
    subst h3
    have hm : IntKind.i64.max = 9223372036854775807 := by decide
    rw [hm] at h2
    refine ⟨h1, by omega, .inr ⟨b, o, rfl, ?_⟩⟩
    unfold World.shape? at h4
    rcases Nat.lt_or_ge b W.heap.size with hb | hb
    · exact hb
    · rw [Array.getElem?_eq_none hb] at h4; cases h4
set_option maxRecDepth 100000 in
theorem open_ints {H : Type} {enc : TypeId × Value → H} {W : World} {base : Nat} {sp : Nat → Bool} {held : Bool} {a : Option Addr} {n cap : Nat} {d : DataW H} {p : List MemPlace}
    (hok : Value.okWide Tryd.prog W .any base 22 (.slice a n cap)) (h : DataW.Trod enc Tryd.prog W 0 sp held 22 (.slice a n cap) d p) : ∃ zs, Iw W a n cap zs := by
  obtain ⟨h1, h2, h3⟩ := ok_addr Tryd.underlying22 hok
  obtain ⟨fuel, hf⟩ := h
  have hf : DataW.trod enc Tryd.prog W 0 sp held fuel 22 [.slice a n cap] = some (d, p) := by simpa [Value.cells] using hf
  have hC : Tryd.prog.cellsOf 3 = 1 := by kernel_rfl
  rcases h3 with ⟨rfl, rfl, rfl⟩ | ⟨b, o, rfl, hb⟩
  · exact ⟨[], rfl, Nat.le_refl _, by omega, .inl ⟨rfl, rfl, rfl⟩⟩
  · rcases open_slice Tryd.underlying22 hf with ⟨h0, _⟩ | ⟨ad, len, cp, m, k, D, Pl, h0, _, hle, hcm, hm, _, hel⟩
    · simp at h0
    · simp only [List.cons.injEq, Value.slice.injEq, Option.some.injEq, and_true] at h0
      obtain ⟨rfl, rfl, rfl⟩ := h0
      rw [hC] at hel
      have hnm : n ≤ m := by rw [hm]; split <;> omega
      have helem : ∀ i, i < n → ∃ z : Int, W.cell? ⟨b, o + i, none⟩ = some (.int .i64 z) := by
        intro i hi
        obtain ⟨cs, hc, ht⟩ := hel i (by omega)
        obtain ⟨c, rfl, hg⟩ := cells1_get hc
        obtain ⟨z, hz, _, _⟩ := DataW.trod_int Tryd.underlying3 ht
        simp only [List.cons.injEq, and_true] at hz
        subst hz
        rw [addr_add, addr_add] at hg
        exact ⟨z, by simpa using hg⟩
      obtain ⟨f, hf⟩ := choose_lt helem
      refine ⟨(List.range n).map f, by simp, h1, h2, .inr ⟨b, o, rfl, hb, fun j hj => ?_⟩⟩
      rw [hf j hj]
      unfold zg
      rw [List.getD_eq_getElem?_getD, List.getElem?_map, List.getElem?_range hj]; rfl
set_option maxRecDepth 100000 in
theorem open_bytes {H : Type} {enc : TypeId × Value → H} {W : World} {base : Nat} {sp : Nat → Bool} {held : Bool} {a : Option Addr} {n cap : Nat} {d : DataW H} {p : List MemPlace}
    (hok : Value.okWide Tryd.prog W .any base 38 (.slice a n cap)) (h : DataW.Trod enc Tryd.prog W 0 sp held 38 (.slice a n cap) d p) : (a = none ∧ n = 0 ∧ cap = 0 ∨ ∃ b o, a = some ⟨b, o, none⟩) ∧ ∃ ps, Bw W a n cap ps := by
  obtain ⟨h1, h2, h3⟩ := ok_addr Tryd.underlying38 hok
  obtain ⟨fuel, hf⟩ := h
  have hf : DataW.trod enc Tryd.prog W 0 sp held fuel 38 [.slice a n cap] = some (d, p) := by simpa [Value.cells] using hf
  have hC : Tryd.prog.cellsOf 5 = 1 := by kernel_rfl
  rcases h3 with ⟨rfl, rfl, rfl⟩ | ⟨b, o, rfl, hb⟩
  · exact ⟨.inl ⟨rfl, rfl, rfl⟩, [], rfl, Nat.le_refl _, by omega, (by simp), .inl rfl⟩
  · refine ⟨.inr ⟨b, o, rfl⟩, ?_⟩
    rcases open_slice Tryd.underlying38 hf with ⟨h0, _⟩ | ⟨ad, len, cp, m, k, D, Pl, h0, _, hle, hcm, hm, _, hel⟩
    · simp at h0
    · simp only [List.cons.injEq, Value.slice.injEq, Option.some.injEq, and_true] at h0
      obtain ⟨rfl, rfl, rfl⟩ := h0
      rw [hC] at hel
      have hnm : n ≤ m := by rw [hm]; split <;> omega
      have helem : ∀ i, i < n → ∃ z : Nat, z < 256 ∧ W.cell? ⟨b, o + i, none⟩ = some (.int .u8 (z : Int)) := by
        intro i hi
        obtain ⟨cs, hc, ht⟩ := hel i (by omega)
        obtain ⟨c, rfl, hg⟩ := cells1_get hc
        obtain ⟨z, hz, _, hw⟩ := DataW.trod_int Tryd.underlying5 ht
        simp only [List.cons.injEq, and_true] at hz
        subst hz
        have hbd := bounds_u8 hw
        rw [addr_add, addr_add] at hg
        exact ⟨z.toNat, by omega, by rw [show ((z.toNat : Nat) : Int) = z by omega]; simpa using hg⟩
      obtain ⟨f, hf⟩ := choose_lt helem
      refine ⟨(List.range n).map f, by simp, h1, h2, fun x hx => ?_, .inr ⟨b, o, rfl, hb, fun j hj => ?_⟩⟩
      · obtain ⟨i, hi, rfl⟩ := List.mem_map.1 hx
        exact (hf i (by simpa using hi)).1
      · rw [(hf j hj).2]
        unfold wd
        rw [List.getD_eq_getElem?_getD, List.getElem?_map, List.getElem?_range hj]; rfl
end Go.Proofs.YtaekkpoknpnnbaaDoor
