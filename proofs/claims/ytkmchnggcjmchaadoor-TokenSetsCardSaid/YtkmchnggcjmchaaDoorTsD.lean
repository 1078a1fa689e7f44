/- The world that the door lays for TokenSets; a slice of 16-bit numbers, opened; the wrap that keeps the world's shape. -/
import Derived.Test.YtkmchnggcjmchaaDoorRows
import Derived.Test.YtkmchnggcjmchaaDoorTsC
import Derived.Deep.Slices
import Derived.Lib.SmallJoins
import Derived.Lib.LaidTab
import Derived.Lib.LaidU8
import Derived.Stop.Joined
import Derived.ProofKit
import Derived.LaidMore
import Derived.OpenShut
import Derived.WalkKit
import Derived.ShutString
import Derived.ChangeOld
import Derived.Below
import Derived.Lay
import Derived.LaidOnce
import Derived.Stop.LaidErr
namespace Go.Proofs.YtkmchnggcjmchaaDoor.Ts
open Go.ChangeShapes Go.WideShapes Go.ChangeAt Go.RowKit Go.Deep Go.Joins
set_option linter.unusedVariables false
def laidSets : List (String × DataW Unit) := Rows.tokenSetsRow.laid
theorem e_tz : (Rows.laid_math_bits_deBruijn64tab : DataW Unit) = Lib.tabData .u8 (Lib.deBruijn64tab.map fun x : Nat => (x : Int)) := by kernel_rfl
theorem e_pow : (Rows.laid_internal_strconv_uint64pow10 : DataW Unit) = Lib.tabData .u64 Lib.pow10Tab := by kernel_rfl
theorem wt_of {W : World} (h : laidMetH Tryd.prog laidSets W) (hs : W.ShapedOpen Tryd.prog) : Wt W := by
  rw [MakeChecks.laidMetH_plain _ _ _ (by kernel_rfl)] at h
  have h1 : laidMet Tryd.prog _ W := laidMet.tail (show laidMet Tryd.prog (_ :: _) W from h)
  have h2 : laidMet Tryd.prog _ W := laidMet.tail h1
  rw [e_tz] at h1
  rw [e_pow] at h2
  have t1 := Lib.tabIs_of_head (g := 1) (by kernel_rfl) (t := 109) (by kernel_rfl) Tryd.underlying109 Tryd.underlying5 (by kernel_rfl) (by kernel_rfl) h1
  have t2 := Lib.tabIs_of_head (g := 4) (by kernel_rfl) (t := 125) (by kernel_rfl) Tryd.underlying125 Tryd.underlying69 (by kernel_rfl) (by kernel_rfl) h2
  have hz : ∀ j, j < Lib.deBruijn64tab.length → W.cell? ⟨1, j, none⟩ = some (.int .u8 (Lib.deBruijn64tab.getD j 0)) := fun j hj => by
    rw [Lib.TabIs.cell t1 (by kernel_rfl) j (by simpa using hj)]
    rw [List.getD_eq_getElem?_getD, List.getD_eq_getElem?_getD, List.getElem?_map, List.getElem?_eq_getElem hj]; rfl
  exact {
    tz := ⟨World.block_lt_of_cell? W _ (hz 0 (by decide)), hz⟩
    pow := Lib.tabBelow_of_tabIs t2
    mxl := Tryd.laysM145.s1_3 W hs }
theorem door_shaped (os : Go.Os) (args : Array Value) : ((World.laidAll Tryd.prog os laidSets).forCall (fun _ _ => 0) ⟨#[], args, []⟩).Shaped Tryd.prog := World.shaped_of_ZipB (by kernel_rfl) (by kernel_rfl)
theorem door_met (os : Go.Os) (args : Array Value) : laidMetH Tryd.prog laidSets ((World.laidAll Tryd.prog os laidSets).forCall (fun _ _ => 0) ⟨#[], args, []⟩).memory := by
  rw [MakeChecks.laidMetH_plain _ _ _ (by kernel_rfl)]
  exact laidMet_laidAll _ (by kernel_rfl) (by kernel_rfl)
theorem wrap_shaped {H : Type} {enc : TypeId × Value → H} {a : Assume} {C : Checked} {os : Os} {f : FuncId} {fn : Func} {s : ChangeSpec} {conds : List PathCond} {apart fresh handsOn again : Bool} {X : World → Array Value → Prop}
    (hX : ∀ (w w' : World) (args : Array Value), w.heap = w'.heap → X w args → X w' args)
    (own : ownKnob C.prog.godebug = none) (started : os.Started) (noInit : C.prog.inits.idxOf? f = none) (hfn : C.prog.funcs[f]? = some fn)
    (witness : ∃ (w : World) (tape : Tape) (i : Input), w.os = os ∧ (w.forCall tape i).Shaped C.prog ∧ i.vars = [] ∧ Input.okWide C.prog (w.forCall tape i) .any w.heap.size f i ∧
      ((s.pre enc C.prog fn conds apart (w.forCall tape i).memory i.args ∧ X (w.forCall tape i).memory i.args) ∧ sizedMet enc C.prog fn (OpenSpec.ofChange s) apart (w.forCall tape i).memory i.args) ∧ a.holds C.prog (lone (Frame.enter C.prog f i.args .normal) [] (w.forCall tape i)))
    (contract : ∀ (W : World) (base : Nat) (args : Array Value) (ds gs : List (DataW H)) (before : List MemPlace),
      (∀ (j : Nat) t v, fn.params[j]? = some t → args[j]? = some v → Value.okWide C.prog W .any base t v) →
      DataW.Whole enc C.prog fn.params.toList s.vars apart W args.toList ds gs before →
      conds.all (PathCond.test C.prog ⟨fn.params.toList, ds, s.plain.varTypes C.prog, gs⟩) = true →
      (DataW.weightsEach C.prog (fn.params.toList ++ s.plain.varTypes C.prog) (ds ++ gs)).all (· ≤ reachBytes) = true → X W args → W.ShapedOpen C.prog →
      a.holds C.prog (lone (Frame.enter C.prog f args .normal) [] W) →
      Calls C.prog f args W fun e W' => ∃ v, e = .returned v ∧ s.post enc C.prog fn apart fresh handsOn again W args v W') :
    ReturnsInHanded a C os f .any (fun w args => (s.pre enc C.prog fn conds apart w args ∧ X w args) ∧ sizedMet enc C.prog fn (OpenSpec.ofChange s) apart w args) (s.post enc C.prog fn apart fresh handsOn again) := by
  refine returnsInHanded_of_calls own started noInit witness ?_
  intro w tape i _ hsh _ hok hpre hholds
  obtain ⟨_, _, _, fn', hfn', _, _, _, _, hval⟩ := hok
  have e : fn' = fn := Option.some.inj (hfn'.symm.trans hfn)
  subst e
  obtain ⟨⟨⟨ds, gs, before, hw, hc⟩, hx⟩, hz⟩ := hpre
  have hw' := DataW.Whole.of_heap (w' := w.forCall tape i) (by rfl) hw
  refine (contract (w.forCall tape i) w.heap.size i.args ds gs before hval hw' hc (hz.weights hw) (hX _ _ _ (by rfl) hx) hsh hholds).mono fun e W' ⟨v, he, hp⟩ => ?_
  subst he
  exact ChangeSpec.post_blind hp
theorem addr_add (b o n : Nat) : (⟨b, o, none⟩ : Addr).add n = ⟨b, o + n, none⟩ := by unfold Addr.add; split <;> simp_all
theorem cells1_get {w : World} {base : Nat} {a : Addr} {cs : List Value} (h : w.cells? base a 1 = some cs) : ∃ c, cs = [c] ∧ w.cell? (a.add 0) = some c := by
  unfold World.cells? at h
  split at h
  · have hl := mapM_some_length h
    have hg := mapM_some_get h 0 0 (by simp)
    match cs, hl with
    | [c], _ => exact ⟨c, rfl, by simpa using hg⟩
  · cases h
set_option maxRecDepth 20000 in
theorem ok_addr {W : World} {base : Nat} {t e : TypeId} {a : Option Addr} {n cap : Nat} (ht : Tryd.prog.underlying t = some (.slice e)) (h : Value.okWide Tryd.prog W .any base t (.slice a n cap)) :
    n ≤ cap ∧ cap ≤ 9223372036854775807 ∧ (a = none ∧ n = 0 ∧ cap = 0 ∨ ∃ b o, a = some ⟨b, o, none⟩ ∧ b < W.heap.size) := by
  simp only [Value.okWide, ht, Cell.okWide] at h
  cases a with
  | none =>
    rcases n with _ | n
    · rcases cap with _ | c
      · exact ⟨Nat.le_refl _, Nat.zero_le _, .inl ⟨rfl, rfl, rfl⟩⟩
      · simp [Cell.ok, ht] at h
    · simp [Cell.ok, ht] at h
  | some ad =>
    simp only [Cell.ok, ht] at h
    obtain ⟨h1, h2, _, h3, row, cells, h4, _⟩ := h
    obtain ⟨b, o, sp⟩ := ad
    dsimp only at h3
    subst h3
    have hm : IntKind.i64.max = 9223372036854775807 := by decide
    rw [hm] at h2
    refine ⟨h1, by omega, .inr ⟨b, o, rfl, ?_⟩⟩
    unfold World.shape? at h4
    rcases Nat.lt_or_ge b W.heap.size with hb | hb
    · exact hb
    · rw [Array.getElem?_eq_none hb] at h4; cases h4
set_option maxRecDepth 100000 in
theorem open_u16 {H : Type} {enc : TypeId × Value → H} {W : World} {base : Nat} {sp : Nat → Bool} {held : Bool} {a : Option Addr} {n cap : Nat} {d : DataW H} {p : List MemPlace}
    (hok : Value.okWide Tryd.prog W .any base 37 (.slice a n cap)) (h : DataW.Trod enc Tryd.prog W 0 sp held 37 (.slice a n cap) d p) : ∃ zs, Uw W a n cap zs := by
  obtain ⟨h1, h2, h3⟩ := ok_addr Tryd.underlying37 hok
  obtain ⟨fuel, hf⟩ := h
  have hf : DataW.trod enc Tryd.prog W 0 sp held fuel 37 [.slice a n cap] = some (d, p) := by simpa [Value.cells] using hf
  have hC : Tryd.prog.cellsOf 42 = 1 := by kernel_rfl
  rcases h3 with ⟨rfl, rfl, rfl⟩ | ⟨b, o, rfl, hb⟩
  · exact ⟨[], rfl, Nat.le_refl _, by omega, .inl ⟨rfl, rfl, rfl⟩⟩
  · rcases open_slice Tryd.underlying37 hf with ⟨h0, _⟩ | ⟨ad, len, cp, m, k, D, Pl, h0, _, hle, hcm, hm, _, hel⟩
    · simp at h0
    · simp only [List.cons.injEq, Value.slice.injEq, Option.some.injEq, and_true] at h0
      obtain ⟨rfl, rfl, rfl⟩ := h0
      rw [hC] at hel
      have hnm : n ≤ m := by rw [hm]; split <;> omega
      have helem : ∀ i, i < n → ∃ z : Nat, z < 65536 ∧ W.cell? ⟨b, o + i, none⟩ = some (.int .u16 (z : Int)) := by
        intro i hi
        obtain ⟨cs, hc, ht⟩ := hel i (by omega)
        obtain ⟨c, rfl, hg⟩ := cells1_get hc
        obtain ⟨z, hz, _, hwf⟩ := DataW.trod_int Tryd.underlying42 ht
        have hbd := bounds_u16 hwf
        simp only [List.cons.injEq, and_true] at hz
        subst hz
        rw [addr_add, addr_add] at hg
        exact ⟨z.toNat, by omega, by rw [show ((z.toNat : Nat) : Int) = z by omega]; simpa using hg⟩
      obtain ⟨f, hf⟩ := choose_lt helem
      refine ⟨(List.range n).map f, by simp, h1, h2, .inr ⟨b, o, rfl, hb, fun j x hx => ?_⟩⟩
      have hj : j < n := by have := (List.getElem?_eq_some_iff.1 hx).1; simpa using this
      rw [List.getElem?_map, List.getElem?_range hj] at hx
      cases hx
      exact hf j hj
end Go.Proofs.YtkmchnggcjmchaaDoor.Ts
