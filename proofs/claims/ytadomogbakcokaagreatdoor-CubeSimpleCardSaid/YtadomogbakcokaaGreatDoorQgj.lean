/- The tables that the card ties, opened; slices that came in, opened. -/
import Derived.Test.YtadomogbakcokaaGreatDoorRows
import Derived.Test.YtadomogbakcokaaGreatDoorQgi
import Derived.Test.YtadomogbakcokaaGreatDoorQge
import Derived.Deep.Slices
import Derived.Lib.SmallJoins
import Derived.Lib.LaidU8
import Derived.Lib.LaidTab
import Derived.Stop.LaidErr
import Derived.Stop.Joined
import Derived.ProofKit
import Derived.LaidMore
import Derived.OpenShut
namespace Go.Proofs.YtadomogbakcokaaGreatDoor
open Go.ChangeShapes Go.WideShapes Go.ChangeAt Go.RowKit Go.Deep Go.Joins
set_option linter.unusedVariables false

def laidCube : List (String × DataW Unit) := Rows.cubeHoldsRow.laid
theorem e_tz : (Rows.laid_math_bits_deBruijn64tab : DataW Unit) = Lib.tabData .u8 (Lib.deBruijn64tab.map fun x : Nat => (x : Int)) := by kernel_rfl
theorem e_pow : (Rows.laid_internal_strconv_uint64pow10 : DataW Unit) = Lib.tabData .u64 Lib.pow10Tab := by kernel_rfl
theorem e_space : (Rows.laid_strings_asciiSpace : DataW Unit) = Lib.tabData .u8 Lib.asciiSpaceTab := by kernel_rfl
theorem e_white : (Rows.laid_unicode_White_Space : DataW Unit) = Lib.whiteData := by kernel_rfl
theorem whiteExtra : WhiteExtra Tryz.prog Tryz.lays199_ren where
  n6 := by kernel_rfl
  y6 := by kernel_rfl
  c3 := by kernel_rfl
  c49 := by kernel_rfl
  c193 := by kernel_rfl
  c194 := by kernel_rfl
  c196 := by kernel_rfl
  c198 := by kernel_rfl
theorem var_below {P : Program} {w w' : World} {n : String} {g : Nat} {x : Value} (hg : P.globalNamed n = some g) (hv : w.var? P n = some #[x]) (hb : Below w.heap.size w w') : w'.var? P n = some #[x] := by
  have hc := World.var?_cell hg hv 0
  have hlt := World.block_lt_of_cell? w _ (show w.cell? ⟨g, 0, none⟩ = some x from hc)
  unfold World.var? at hv ⊢
  simp only [hg, Option.bind_some] at hv ⊢
  rw [hb.block g hlt]
  exact hv
theorem star_err : "*" ++ "errors.errorString" = "*errors.errorString" := by decide
theorem row_err (u : TypeId) (h : Tryz.prog.typeName? 3 u = some "*errors.errorString") : u = 215 :=
  typeName_ptr_named (nm := "errors.errorString") (by rw [star_err]; kernel_rfl) (by kernel_rfl) (by decide) u (by rw [star_err]; exact h)
theorem wld_of {W : World} (h : laidMetH Tryz.prog laidCube W) : Wld W := by
  rw [MakeChecks.laidMetH_plain _ _ _ (by kernel_rfl)] at h
  have h1 : laidMet Tryz.prog _ W := laidMet.tail (show laidMet Tryz.prog (_ :: _) W from h)
  have h2 : laidMet Tryz.prog _ W := laidMet.tail h1
  have h3 : laidMet Tryz.prog _ W := laidMet.tail h2
  have h4 : laidMet Tryz.prog _ W := laidMet.tail h3
  have h5 : laidMet Tryz.prog _ W := laidMet.tail h4
  have h6 : laidMet Tryz.prog _ W := laidMet.tail h5
  rw [e_tz] at h1
  rw [e_pow] at h2
  rw [e_white] at h5
  rw [e_space] at h6
  have t1 := Lib.tabIs_of_head (g := 1) (by kernel_rfl) (t := 152) (by kernel_rfl) Tryz.underlying152 Tryz.underlying5 (by kernel_rfl) (by kernel_rfl) h1
  have t2 := Lib.tabIs_of_head (g := 5) (by kernel_rfl) (t := 220) (by kernel_rfl) Tryz.underlying220 Tryz.underlying23 (by kernel_rfl) (by kernel_rfl) h2
  have t6 := Lib.tabIs_of_head (g := 0) (by kernel_rfl) (t := 131) (by kernel_rfl) Tryz.underlying131 Tryz.underlying5 (by kernel_rfl) (by kernel_rfl) h6
  have hw := whiteTab_of_reads Tryz.lays199 whiteExtra (w := W) (by
    obtain ⟨ps, hps, _⟩ := h5
    exact Lib.LaidVars_reads hps _ _ (List.mem_cons_self ..))
  obtain ⟨a3, s3, v3, _, _, _⟩ := laid_sentinel h3 (g := 4) (by kernel_rfl) (by kernel_rfl) Tryz.underlying103 (tp := 215) row_err Tryz.underlying215 Tryz.underlying217 rfl rfl Tryz.underlying9 (by kernel_rfl) (by kernel_rfl)
  obtain ⟨a4, s4, v4, _, _, _⟩ := laid_sentinel h4 (g := 3) (by kernel_rfl) (by kernel_rfl) Tryz.underlying103 (tp := 215) row_err Tryz.underlying215 Tryz.underlying217 rfl rfl Tryz.underlying9 (by kernel_rfl) (by kernel_rfl)
  have hz : ∀ j, j < Lib.deBruijn64tab.length → W.cell? ⟨1, j, none⟩ = some (.int .u8 (Lib.deBruijn64tab.getD j 0)) := fun j hj => by
    rw [Lib.TabIs.cell t1 (by kernel_rfl) j (by simpa using hj)]
    rw [List.getD_eq_getElem?_getD, List.getD_eq_getElem?_getD, List.getElem?_map, List.getElem?_eq_getElem hj]; rfl
  exact {
    tz := ⟨World.block_lt_of_cell? W _ (hz 0 (by decide)), hz⟩
    pow := Lib.tabBelow_of_tabIs t2
    space := Lib.tabBelow_of_tabIs t6
    white := fun w' hb => WhiteTab_below hw hb
    syn := ⟨_, _, fun w' hb => var_below (g := 3) (by kernel_rfl) v4 hb⟩
    rng := ⟨_, _, fun w' hb => var_below (g := 4) (by kernel_rfl) v3 hb⟩ }

theorem addr_add (b o n : Nat) : (⟨b, o, none⟩ : Addr).add n = ⟨b, o + n, none⟩ := by unfold Addr.add; split <;> simp_all
theorem cells1_get {w : World} {base : Nat} {a : Addr} {cs : List Value} (h : w.cells? base a 1 = some cs) : ∃ c, cs = [c] ∧ w.cell? (a.add 0) = some c := by
  unfold World.cells? at h
  split at h
  · have hl := mapM_some_length h
    have hg := mapM_some_get h 0 0 (by simp)
    match cs, hl with
    | [c], _ => exact ⟨c, rfl, by simpa using hg⟩
  · cases h
set_option maxRecDepth 20000 in
theorem ok_addr {W : World} {base : Nat} {t e : TypeId} {a : Option Addr} {n cap : Nat} (ht : Tryz.prog.underlying t = some (.slice e)) (h : Value.okWide Tryz.prog W .any base t (.slice a n cap)) :
    n ≤ cap ∧ cap ≤ 9223372036854775807 ∧ (a = none ∧ n = 0 ∧ cap = 0 ∨ ∃ b o, a = some ⟨b, o, none⟩ ∧ b < W.heap.size) := by
  simp only [Value.okWide, ht, Cell.okWide] at h
  cases a with
  | none =>
    rcases n with _ | n
    · rcases cap with _ | c
      · exact ⟨Nat.le_refl _, Nat.zero_le _, .inl ⟨rfl, rfl, rfl⟩⟩
      · simp [Cell.ok, ht] at h
    · simp [Cell.ok, ht] at h
  | some ad =>
    simp only [Cell.ok, ht] at h
    obtain ⟨h1, h2, _, h3, row, cells, h4, _⟩ := h
    obtain ⟨b, o, sp⟩ := ad
    dsimp only at h3
    subst h3
    have hm : IntKind.i64.max = 9223372036854775807 := by decide
    rw [hm] at h2
    refine ⟨h1, by omega, .inr ⟨b, o, rfl, ?_⟩⟩
    unfold World.shape? at h4
    rcases Nat.lt_or_ge b W.heap.size with hb | hb
    · exact hb
    · rw [Array.getElem?_eq_none hb] at h4; cases h4
set_option maxRecDepth 100000 in
theorem open_ints {H : Type} {enc : TypeId × Value → H} {W : World} {base : Nat} {sp : Nat → Bool} {held : Bool} {a : Option Addr} {n cap : Nat} {d : DataW H} {p : List MemPlace}
    (hok : Value.okWide Tryz.prog W .any base 52 (.slice a n cap)) (h : DataW.Trod enc Tryz.prog W 0 sp held 52 (.slice a n cap) d p) : ∃ zs, Iw W a n cap zs := by
  obtain ⟨h1, h2, h3⟩ := ok_addr Tryz.underlying52 hok
  obtain ⟨fuel, hf⟩ := h
  have hf : DataW.trod enc Tryz.prog W 0 sp held fuel 52 [.slice a n cap] = some (d, p) := by simpa [Value.cells] using hf
  have hC : Tryz.prog.cellsOf 3 = 1 := by kernel_rfl
  rcases h3 with ⟨rfl, rfl, rfl⟩ | ⟨b, o, rfl, hb⟩
  · exact ⟨[], rfl, Nat.le_refl _, by omega, .inl ⟨rfl, rfl, rfl⟩⟩
  · rcases open_slice Tryz.underlying52 hf with ⟨h0, _⟩ | ⟨ad, len, cp, m, k, D, Pl, h0, _, hle, hcm, hm, _, hel⟩
    · simp at h0
    · simp only [List.cons.injEq, Value.slice.injEq, Option.some.injEq, and_true] at h0
      obtain ⟨rfl, rfl, rfl⟩ := h0
      rw [hC] at hel
      have hnm : n ≤ m := by rw [hm]; split <;> omega
      have helem : ∀ i, i < n → ∃ z : Int, W.cell? ⟨b, o + i, none⟩ = some (.int .i64 z) := by
        intro i hi
        obtain ⟨cs, hc, ht⟩ := hel i (by omega)
        obtain ⟨c, rfl, hg⟩ := cells1_get hc
        obtain ⟨z, hz, _, _⟩ := DataW.trod_int Tryz.underlying3 ht
        simp only [List.cons.injEq, and_true] at hz
        subst hz
        rw [addr_add, addr_add] at hg
        exact ⟨z, by simpa using hg⟩
      obtain ⟨f, hf⟩ := choose_lt helem
      refine ⟨(List.range n).map f, by simp, h1, h2, .inr ⟨b, o, rfl, hb, fun j hj => ?_⟩⟩
      rw [hf j hj]
      unfold zg
      rw [List.getD_eq_getElem?_getD, List.getElem?_map, List.getElem?_range hj]; rfl
set_option maxRecDepth 100000 in
theorem open_bytes {H : Type} {enc : TypeId × Value → H} {W : World} {base : Nat} {sp : Nat → Bool} {held : Bool} {a : Option Addr} {n cap : Nat} {d : DataW H} {p : List MemPlace}
    (hok : Value.okWide Tryz.prog W .any base 87 (.slice a n cap)) (h : DataW.Trod enc Tryz.prog W 0 sp held 87 (.slice a n cap) d p) : (a = none ∧ n = 0 ∧ cap = 0 ∨ ∃ b o, a = some ⟨b, o, none⟩) ∧ ∃ ps, Bw W a n cap ps := by
  obtain ⟨h1, h2, h3⟩ := ok_addr Tryz.underlying87 hok
  obtain ⟨fuel, hf⟩ := h
  have hf : DataW.trod enc Tryz.prog W 0 sp held fuel 87 [.slice a n cap] = some (d, p) := by simpa [Value.cells] using hf
  have hC : Tryz.prog.cellsOf 5 = 1 := by kernel_rfl
  rcases h3 with ⟨rfl, rfl, rfl⟩ | ⟨b, o, rfl, hb⟩
  · exact ⟨.inl ⟨rfl, rfl, rfl⟩, [], rfl, Nat.le_refl _, by omega, (by simp), .inl rfl⟩
  · refine ⟨.inr ⟨b, o, rfl⟩, ?_⟩
    rcases open_slice Tryz.underlying87 hf with ⟨h0, _⟩ | ⟨ad, len, cp, m, k, D, Pl, h0, _, hle, hcm, hm, _, hel⟩
    · simp at h0
    · simp only [List.cons.injEq, Value.slice.injEq, Option.some.injEq, and_true] at h0
      obtain ⟨rfl, rfl, rfl⟩ := h0
      rw [hC] at hel
      have hnm : n ≤ m := by rw [hm]; split <;> omega
      have helem : ∀ i, i < n → ∃ z : Nat, z < 256 ∧ W.cell? ⟨b, o + i, none⟩ = some (.int .u8 (z : Int)) := by
        intro i hi
        obtain ⟨cs, hc, ht⟩ := hel i (by omega)
        obtain ⟨c, rfl, hg⟩ := cells1_get hc
        obtain ⟨z, hz, _, hw⟩ := DataW.trod_int Tryz.underlying5 ht
        simp only [List.cons.injEq, and_true] at hz
        subst hz
        have hbd := bounds_u8 hw
        rw [addr_add, addr_add] at hg
        exact ⟨z.toNat, by omega, by rw [show ((z.toNat : Nat) : Int) = z by omega]; simpa using hg⟩
      obtain ⟨f, hf⟩ := choose_lt helem
      refine ⟨(List.range n).map f, by simp, h1, h2, fun x hx => ?_, .inr ⟨b, o, rfl, hb, fun j hj => ?_⟩⟩
      · obtain ⟨i, hi, rfl⟩ := List.mem_map.1 hx
        exact (hf i (by simpa using hi)).1
      · rw [(hf j hj).2]
        unfold wd
        rw [List.getD_eq_getElem?_getD, List.getElem?_map, List.getElem?_range hj]; rfl

/-- A struct of three cells. -/
theorem cells3_get {w : World} {base : Nat} {a : Addr} {cs : List Value} (h : w.cells? base a 3 = some cs) : ∃ c d e, cs = [c, d, e] ∧ w.cell? (a.add 0) = some c ∧ w.cell? (a.add 1) = some d ∧ w.cell? (a.add 2) = some e := by
  unfold World.cells? at h
  split at h
  · have hl := mapM_some_length h
    have g0 := mapM_some_get h 0 0 (by simp)
    have g1 := mapM_some_get h 1 1 (by simp)
    have g2 := mapM_some_get h 2 2 (by simp)
    match cs, hl with
    | [c, d, e], _ => exact ⟨c, d, e, rfl, by simpa using g0, by simpa using g1, by simpa using g2⟩
  · cases h
set_option maxRecDepth 100000 in
theorem raw_trod {H : Type} {enc : TypeId × Value → H} {W : World} {sp : Nat → Bool} {held : Bool} {fuel : Nat} {cs : List Value} {x : DataW H × List MemPlace}
    (h : DataW.trod enc Tryz.prog W 0 sp held fuel 46 cs = some x) : ∃ r : Rx, cs = [.int .u8 (r.1 : Nat), .int .u8 (r.2.1 : Nat), .bool r.2.2] ∧ RxOk r := by
  obtain ⟨xs, n, _, _, hl, hxl, hx⟩ := DataW.trod_struct Tryz.underlying46 h
  rw [show Tryz.prog.cellsOf 46 = 3 from by kernel_rfl] at hl
  match cs, hl with
  | [a, b, c], _ =>
    have h0 : DataW.trod enc Tryz.prog W 0 sp held n 5 (List.take (Tryz.prog.cellsOf 5) (List.drop 0 [a, b, c])) = xs[0]? := hx 0 _ rfl
    have h1 : DataW.trod enc Tryz.prog W 0 sp held n 5 (List.take (Tryz.prog.cellsOf 5) (List.drop 1 [a, b, c])) = xs[1]? := hx 1 _ rfl
    have h2 : DataW.trod enc Tryz.prog W 0 sp held n 4 (List.take (Tryz.prog.cellsOf 4) (List.drop 2 [a, b, c])) = xs[2]? := hx 2 _ rfl
    have hxl : xs.length = 3 := hxl
    rw [show Tryz.prog.cellsOf 5 = 1 from by kernel_rfl] at h0 h1
    rw [show Tryz.prog.cellsOf 4 = 1 from by kernel_rfl] at h2
    rw [List.getElem?_eq_getElem (by omega)] at h0 h1 h2
    obtain ⟨z0, hz0, _, hw0⟩ := DataW.trod_int Tryz.underlying5 h0
    obtain ⟨z1, hz1, _, hw1⟩ := DataW.trod_int Tryz.underlying5 h1
    obtain ⟨z2, hz2, _⟩ := DataW.trod_bool Tryz.underlying4 h2
    simp at hz0 hz1 hz2
    subst hz0 hz1 hz2
    have b0 := bounds_u8 hw0
    have b1 := bounds_u8 hw1
    refine ⟨(z0.toNat, z1.toNat, z2), ?_, by dsimp only [RxOk]; omega, by dsimp only; omega⟩
    dsimp only
    rw [show ((z0.toNat : Nat) : Int) = z0 by omega, show ((z1.toNat : Nat) : Int) = z1 by omega]
set_option maxRecDepth 100000 in
/-- What stands for a cube, opened. -/
theorem open_raw {H : Type} {enc : TypeId × Value → H} {W : World} {base : Nat} {sp : Nat → Bool} {held : Bool} {v : Value} {d : DataW H} {p : List MemPlace}
    (hok : Value.okWide Tryz.prog W .any base 46 v) (h : DataW.Trod enc Tryz.prog W 0 sp held 46 v d p) : ∃ r : Rx, v = .agg #[.int .u8 (r.1 : Nat), .int .u8 (r.2.1 : Nat), .bool r.2.2] ∧ RxOk r := by
  obtain ⟨cs, rfl⟩ : ∃ cs, v = .agg cs := by
    simp only [Value.okWide, Tryz.underlying46] at hok
    cases v <;> simp_all
  obtain ⟨fuel, hf⟩ := h
  obtain ⟨r, hr, hk⟩ := raw_trod hf
  refine ⟨r, ?_, hk⟩
  have : cs.toList = _ := hr
  rw [← Array.toArray_toList (xs := cs), this]
set_option maxRecDepth 100000 in
theorem open_raws {H : Type} {enc : TypeId × Value → H} {W : World} {base : Nat} {sp : Nat → Bool} {held : Bool} {a : Option Addr} {n cap : Nat} {d : DataW H} {p : List MemPlace}
    (hok : Value.okWide Tryz.prog W .any base 22 (.slice a n cap)) (h : DataW.Trod enc Tryz.prog W 0 sp held 22 (.slice a n cap) d p) : ∃ l, Rs W a n cap l := by
  obtain ⟨h1, h2, h3⟩ := ok_addr Tryz.underlying22 hok
  obtain ⟨fuel, hf⟩ := h
  have hf : DataW.trod enc Tryz.prog W 0 sp held fuel 22 [.slice a n cap] = some (d, p) := by simpa [Value.cells] using hf
  have hC : Tryz.prog.cellsOf 46 = 3 := by kernel_rfl
  rcases h3 with ⟨rfl, rfl, rfl⟩ | ⟨b, o, rfl, hb⟩
  · exact ⟨[], ⟨rfl, Nat.le_refl _, by omega, .inl rfl⟩, fun r hr => by cases hr⟩
  · rcases open_slice Tryz.underlying22 hf with ⟨h0, _⟩ | ⟨ad, len, cp, m, k, D, Pl, h0, _, hle, hcm, hm, _, hel⟩
    · simp at h0
    · simp only [List.cons.injEq, Value.slice.injEq, Option.some.injEq, and_true] at h0
      obtain ⟨rfl, rfl, rfl⟩ := h0
      rw [hC] at hel
      have hnm : n ≤ m := by rw [hm]; split <;> omega
      have helem : ∀ i, i < n → ∃ r : Rx, RxOk r ∧ W.cell? ⟨b, o + i * 3, none⟩ = some (.int .u8 (r.1 : Nat)) ∧ W.cell? ⟨b, o + i * 3 + 1, none⟩ = some (.int .u8 (r.2.1 : Nat)) ∧ W.cell? ⟨b, o + i * 3 + 2, none⟩ = some (.bool r.2.2) := by
        intro i hi
        obtain ⟨cs, hc, ht⟩ := hel i (by omega)
        obtain ⟨c0, c1, c2, rfl, g0, g1, g2⟩ := cells3_get hc
        obtain ⟨r, hr, hk⟩ := raw_trod ht
        simp only [List.cons.injEq, and_true] at hr
        obtain ⟨rfl, rfl, rfl⟩ := hr
        rw [addr_add, addr_add] at g0 g1 g2
        exact ⟨r, hk, by simpa using g0, by simpa [Nat.add_assoc] using g1, by simpa [Nat.add_assoc] using g2⟩
      obtain ⟨f, hf⟩ := choose_lt helem
      refine ⟨(List.range n).map f, ⟨by simp, h1, h2, .inr ⟨b, o, rfl, hb, fun j q hq c v hv => ?_⟩⟩, fun r hr => ?_⟩
      · have hj : j < n := by have := (List.getElem?_eq_some_iff.1 hq).1; simpa using this
        rw [List.getElem?_map, List.getElem?_range hj] at hq
        cases hq
        obtain ⟨_, c0, c1, c2⟩ := hf j hj
        match c, hv with
        | 0, hv => cases hv; exact c0
        | 1, hv => cases hv; exact c1
        | 2, hv => cases hv; exact c2
        | c + 3, hv => cases hv
      · obtain ⟨i, hi, rfl⟩ := List.mem_map.1 hr
        exact (hf i (by simpa using hi)).1
end Go.Proofs.YtadomogbakcokaaGreatDoor
