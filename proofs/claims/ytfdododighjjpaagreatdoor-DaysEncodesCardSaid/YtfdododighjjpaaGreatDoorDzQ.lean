/- The world that the door lays at the great seat; slices of pairs that came in, opened; the wrap that keeps the world's shape. -/
import Derived.Test.YtfdododighjjpaaGreatDoorRows
import Derived.Test.YtfdododighjjpaaGreatDoorDzB
import Derived.Deep.Slices
import Derived.Lib.SmallJoins
import Derived.Lib.LaidTab
import Derived.Lib.LaidU8
import Derived.Stop.LaidErr
import Derived.Stop.Joined
import Derived.ProofKit
import Derived.LaidMore
import Derived.OpenShut
import Derived.WalkKit
import Derived.ShutString
import Derived.ChangeOld
import Derived.Below
import Derived.Lay
import Derived.LaidOnce
namespace Go.Proofs.YtfdododighjjpaaGreatDoor.Dy
open Go.ChangeShapes Go.WideShapes Go.ChangeAt Go.RowKit Go.Deep Go.Joins
set_option linter.unusedVariables false

def laidGreat : List (String × DataW Unit) := Rows.daysTextsRow.laid
theorem e_pow : (Rows.laid_internal_strconv_uint64pow10 : DataW Unit) = Lib.tabData .u64 Lib.pow10Tab := by kernel_rfl
theorem var_below {P : Program} {w w' : World} {n : String} {g : Nat} {x : Value} (hg : P.globalNamed n = some g) (hv : w.var? P n = some #[x]) (hb : RowKit.Below w.heap.size w w') : w'.var? P n = some #[x] := by
  have hc := World.var?_cell hg hv 0
  have hlt := World.block_lt_of_cell? w _ (show w.cell? ⟨g, 0, none⟩ = some x from hc)
  unfold World.var? at hv ⊢
  simp only [hg, Option.bind_some] at hv ⊢
  rw [hb.block g hlt]
  exact hv
theorem star_err : "*" ++ "errors.errorString" = "*errors.errorString" := by decide
theorem row_err (u : TypeId) (h : Tryz.prog.typeName? 3 u = some "*errors.errorString") : u = 167 :=
  typeName_ptr_named (nm := "errors.errorString") (by rw [star_err]; kernel_rfl) (by kernel_rfl) (by decide) u (by rw [star_err]; exact h)
theorem wz_of {W : World} (h : laidMetH Tryz.prog laidGreat W) (hs : W.ShapedOpen Tryz.prog) : Wz W := by
  rw [MakeChecks.laidMetH_plain _ _ _ (by kernel_rfl)] at h
  have h1 : laidMet Tryz.prog _ W := laidMet.tail (show laidMet Tryz.prog (_ :: _) W from h)
  have h2 : laidMet Tryz.prog _ W := laidMet.tail h1
  have h3 : laidMet Tryz.prog _ W := laidMet.tail h2
  have h4 : laidMet Tryz.prog _ W := laidMet.tail h3
  have h5 : laidMet Tryz.prog _ W := laidMet.tail h4
  rw [e_pow] at h2
  have t2 := Lib.tabIs_of_head (g := 3) (by kernel_rfl) (t := 164) (by kernel_rfl) Tryz.underlying164 Tryz.underlying45 (by kernel_rfl) (by kernel_rfl) h2
  obtain ⟨a3, s3, v3, _, _, _⟩ := laid_sentinel h4 (g := 2) (by kernel_rfl) (by kernel_rfl) Tryz.underlying71 (tp := 167) row_err Tryz.underlying167 Tryz.underlying169 rfl rfl Tryz.underlying9 (by kernel_rfl) (by kernel_rfl)
  obtain ⟨a4, s4, v4, _, _, _⟩ := laid_sentinel h5 (g := 1) (by kernel_rfl) (by kernel_rfl) Tryz.underlying71 (tp := 167) row_err Tryz.underlying167 Tryz.underlying169 rfl rfl Tryz.underlying9 (by kernel_rfl) (by kernel_rfl)
  exact {
    pow := Lib.tabBelow_of_tabIs t2
    syn := ⟨_, _, fun w' hb => var_below (g := 1) (by kernel_rfl) v4 hb⟩
    rng := ⟨_, _, fun w' hb => var_below (g := 2) (by kernel_rfl) v3 hb⟩
    mxl := Tryz.laysM145.s1_3 W hs }
theorem door_shaped (os : Go.Os) (args : Array Value) : ((World.laidAll Tryz.prog os laidGreat).forCall (fun _ _ => 0) ⟨#[], args, []⟩).Shaped Tryz.prog := World.shaped_of_ZipB (by kernel_rfl) (by kernel_rfl)
theorem door_met (os : Go.Os) (args : Array Value) : laidMetH Tryz.prog laidGreat ((World.laidAll Tryz.prog os laidGreat).forCall (fun _ _ => 0) ⟨#[], args, []⟩).memory := by
  rw [MakeChecks.laidMetH_plain _ _ _ (by kernel_rfl)]
  exact laidMet_laidAll _ (by kernel_rfl) (by kernel_rfl)
theorem wrap_shaped {H : Type} {enc : TypeId × Value → H} {a : Assume} {C : Checked} {os : Go.Os} {f : FuncId} {fn : Func} {s : ChangeSpec} {conds : List PathCond} {apart fresh handsOn again : Bool} {X : World → Array Value → Prop}
    (hX : ∀ (w w' : World) (args : Array Value), w.heap = w'.heap → X w args → X w' args)
    (own : ownKnob C.prog.godebug = none) (started : os.Started) (noInit : C.prog.inits.idxOf? f = none) (hfn : C.prog.funcs[f]? = some fn)
    (witness : ∃ (w : World) (tape : Tape) (i : Input), w.os = os ∧ (w.forCall tape i).Shaped C.prog ∧ i.vars = [] ∧ Input.okWide C.prog (w.forCall tape i) .any w.heap.size f i ∧
      ((s.pre enc C.prog fn conds apart (w.forCall tape i).memory i.args ∧ X (w.forCall tape i).memory i.args) ∧ sizedMet enc C.prog fn (OpenSpec.ofChange s) apart (w.forCall tape i).memory i.args) ∧ a.holds C.prog (lone (Frame.enter C.prog f i.args .normal) [] (w.forCall tape i)))
    (contract : ∀ (W : World) (base : Nat) (args : Array Value) (ds gs : List (DataW H)) (before : List MemPlace),
      (∀ (j : Nat) t v, fn.params[j]? = some t → args[j]? = some v → Value.okWide C.prog W .any base t v) →
      DataW.Whole enc C.prog fn.params.toList s.vars apart W args.toList ds gs before →
      conds.all (PathCond.test C.prog ⟨fn.params.toList, ds, s.plain.varTypes C.prog, gs⟩) = true →
      (DataW.weightsEach C.prog (fn.params.toList ++ s.plain.varTypes C.prog) (ds ++ gs)).all (· ≤ reachBytes) = true → X W args → W.ShapedOpen C.prog →
      a.holds C.prog (lone (Frame.enter C.prog f args .normal) [] W) →
      Calls C.prog f args W fun e W' => ∃ v, e = .returned v ∧ s.post enc C.prog fn apart fresh handsOn again W args v W') :
    ReturnsInHanded a C os f .any (fun w args => (s.pre enc C.prog fn conds apart w args ∧ X w args) ∧ sizedMet enc C.prog fn (OpenSpec.ofChange s) apart w args) (s.post enc C.prog fn apart fresh handsOn again) := by
  refine returnsInHanded_of_calls own started noInit witness ?_
  intro w tape i _ hsh _ hok hpre hholds
  obtain ⟨_, _, _, fn', hfn', _, _, _, _, hval⟩ := hok
  have e : fn' = fn := Option.some.inj (hfn'.symm.trans hfn)
  subst e
  obtain ⟨⟨⟨ds, gs, before, hw, hc⟩, hx⟩, hz⟩ := hpre
  have hw' := DataW.Whole.of_heap (w' := w.forCall tape i) (by rfl) hw
  refine (contract (w.forCall tape i) w.heap.size i.args ds gs before hval hw' hc (hz.weights hw) (hX _ _ _ (by rfl) hx) hsh hholds).mono fun e W' ⟨v, he, hp⟩ => ?_
  subst he
  exact ChangeSpec.post_blind hp
theorem addr_add (b o n : Nat) : (⟨b, o, none⟩ : Addr).add n = ⟨b, o + n, none⟩ := by unfold Addr.add; split <;> simp_all
theorem cells2_get {w : World} {base : Nat} {a : Addr} {cs : List Value} (h : w.cells? base a 2 = some cs) : ∃ c0 c1, cs = [c0, c1] ∧ w.cell? (a.add 0) = some c0 ∧ w.cell? (a.add 1) = some c1 := by
  unfold World.cells? at h
  split at h
  · have hl := mapM_some_length h
    have h0 := mapM_some_get h 0 0 (by simp)
    have h1 := mapM_some_get h 1 1 (by simp)
    match cs, hl with
    | [c0, c1], _ => exact ⟨c0, c1, rfl, by simpa using h0, by simpa using h1⟩
  · cases h
set_option maxRecDepth 20000 in
theorem ok_addr {W : World} {base : Nat} {t e : TypeId} {a : Option Addr} {n cap : Nat} (ht : Tryz.prog.underlying t = some (.slice e)) (h : Value.okWide Tryz.prog W .any base t (.slice a n cap)) :
    n ≤ cap ∧ cap ≤ 9223372036854775807 ∧ (a = none ∧ n = 0 ∧ cap = 0 ∨ ∃ b o, a = some ⟨b, o, none⟩ ∧ b < W.heap.size) := by
  simp only [Value.okWide, ht, Cell.okWide] at h
  cases a with
  | none =>
    rcases n with _ | n
    · rcases cap with _ | c
      · exact ⟨Nat.le_refl _, Nat.zero_le _, .inl ⟨rfl, rfl, rfl⟩⟩
      · simp [Cell.ok, ht] at h
    · simp [Cell.ok, ht] at h
  | some ad =>
    simp only [Cell.ok, ht] at h
    obtain ⟨h1, h2, _, h3, row, cells, h4, _⟩ := h
    obtain ⟨b, o, sp⟩ := ad
    dsimp only at h3
    subst h3
    have hm : IntKind.i64.max = 9223372036854775807 := by decide
    rw [hm] at h2
    refine ⟨h1, by omega, .inr ⟨b, o, rfl, ?_⟩⟩
    unfold World.shape? at h4
    rcases Nat.lt_or_ge b W.heap.size with hb | hb
    · exact hb
    · rw [Array.getElem?_eq_none hb] at h4; cases h4
set_option maxRecDepth 100000 in
/-- A slice of pairs, opened. -/
theorem open_pairs2 {H : Type} {enc : TypeId × Value → H} {W : World} {base : Nat} {sp : Nat → Bool} {held : Bool} {a : Option Addr} {n cap : Nat} {d : DataW H} {p : List MemPlace} {S T U : TypeId} {k : IntKind}
    (hS : Tryz.prog.underlying S = some (.slice T)) (hT : Tryz.prog.underlying T = some (.array 2 U)) (hU : Tryz.prog.underlying U = some (.int k)) (hCT : Tryz.prog.cellsOf T = 2) (hCU : Tryz.prog.cellsOf U = 1)
    (hok : Value.okWide Tryz.prog W .any base S (.slice a n cap)) (h : DataW.Trod enc Tryz.prog W 0 sp held S (.slice a n cap) d p) :
    n ≤ cap ∧ cap ≤ 9223372036854775807 ∧ (a = none ∧ n = 0 ∧ cap = 0 ∨ ∃ b o, a = some ⟨b, o, none⟩ ∧ b < W.heap.size ∧
      ∃ f : Nat → Int × Int, ∀ i, i < n → ((Lit.int k (f i).1).wf = true ∧ (Lit.int k (f i).2).wf = true) ∧ W.cell? ⟨b, o + i * 2, none⟩ = some (.int k (f i).1) ∧ W.cell? ⟨b, o + i * 2 + 1, none⟩ = some (.int k (f i).2)) := by
  obtain ⟨h1, h2, h3⟩ := ok_addr hS hok
  obtain ⟨fuel, hf⟩ := h
  have hf : DataW.trod enc Tryz.prog W 0 sp held fuel S [.slice a n cap] = some (d, p) := by simpa [Value.cells] using hf
  refine ⟨h1, h2, ?_⟩
  rcases h3 with ⟨rfl, rfl, rfl⟩ | ⟨b, o, rfl, hb⟩
  · exact .inl ⟨rfl, rfl, rfl⟩
  · refine .inr ⟨b, o, rfl, hb, ?_⟩
    rcases open_slice hS hf with ⟨h0, _⟩ | ⟨ad, len, cp, m, kk, D, Pl, h0, _, hle, hcm, hm, _, hel⟩
    · simp at h0
    · simp only [List.cons.injEq, Value.slice.injEq, Option.some.injEq, and_true] at h0
      obtain ⟨rfl, rfl, rfl⟩ := h0
      rw [hCT] at hel
      have hnm : n ≤ m := by rw [hm]; split <;> omega
      have helem : ∀ i, i < n → ∃ q : Int × Int, ((Lit.int k q.1).wf = true ∧ (Lit.int k q.2).wf = true) ∧ W.cell? ⟨b, o + i * 2, none⟩ = some (.int k q.1) ∧ W.cell? ⟨b, o + i * 2 + 1, none⟩ = some (.int k q.2) := by
        intro i hi
        obtain ⟨cs, hc, ht⟩ := hel i (by omega)
        obtain ⟨c0, c1, rfl, hg0, hg1⟩ := cells2_get hc
        obtain ⟨xs, mm, _, _, _, hxl, hx⟩ := DataW.trod_array hT ht
        rw [hCU] at hx
        have hx0 := hx 0 (by omega)
        have hx1 := hx 1 (by omega)
        rw [List.getElem?_eq_getElem (by omega)] at hx0 hx1
        obtain ⟨z0, hz0, _, hw0⟩ := DataW.trod_int hU hx0
        obtain ⟨z1, hz1, _, hw1⟩ := DataW.trod_int hU hx1
        simp at hz0 hz1
        subst hz0 hz1
        rw [addr_add, addr_add] at hg0 hg1
        exact ⟨(z0, z1), ⟨hw0, hw1⟩, by simpa using hg0, by simpa [Nat.add_assoc] using hg1⟩
      exact choose_lt helem
set_option maxRecDepth 100000 in
theorem open_u16s {H : Type} {enc : TypeId × Value → H} {W : World} {base : Nat} {sp : Nat → Bool} {held : Bool} {a : Option Addr} {n cap : Nat} {d : DataW H} {p : List MemPlace}
    (hok : Value.okWide Tryz.prog W .any base 35 (.slice a n cap)) (h : DataW.Trod enc Tryz.prog W 0 sp held 35 (.slice a n cap) d p) : ∃ l, Us W a n cap l := by
  obtain ⟨h1, h2, h3⟩ := open_pairs2 Tryz.underlying35 Tryz.underlying108 Tryz.underlying107 (by kernel_rfl) (by kernel_rfl) hok h
  rcases h3 with h3 | ⟨b, o, rfl, hb, f, hf⟩
  · obtain ⟨rfl, rfl, rfl⟩ := h3
    exact ⟨[], rfl, h1, h2, .inl ⟨rfl, rfl, rfl⟩⟩
  · refine ⟨(List.range n).map fun i => ((f i).1.toNat, (f i).2.toNat), by simp, h1, h2, .inr ⟨b, o, rfl, hb, fun j q hq => ?_⟩⟩
    have hj : j < n := by have := (List.getElem?_eq_some_iff.1 hq).1; simpa using this
    rw [List.getElem?_map, List.getElem?_range hj] at hq
    cases hq
    obtain ⟨⟨w0, w1⟩, c0, c1⟩ := hf j hj
    have b0 := bounds_u16 w0
    have b1 := bounds_u16 w1
    dsimp only
    refine ⟨by omega, ?_, ?_⟩
    · rw [c0, show (((f j).1.toNat : Nat) : Int) = (f j).1 by omega]
    · rw [c1, show (((f j).2.toNat : Nat) : Int) = (f j).2 by omega]
set_option maxRecDepth 100000 in
theorem open_pairs {H : Type} {enc : TypeId × Value → H} {W : World} {base : Nat} {sp : Nat → Bool} {held : Bool} {a : Option Addr} {n cap : Nat} {d : DataW H} {p : List MemPlace}
    (hok : Value.okWide Tryz.prog W .any base 62 (.slice a n cap)) (h : DataW.Trod enc Tryz.prog W 0 sp held 62 (.slice a n cap) d p) : ∃ l, Ds W a n cap l ∧ AtB a n cap := by
  obtain ⟨h1, h2, h3⟩ := open_pairs2 Tryz.underlying62 Tryz.underlying61 Tryz.underlying3 (by kernel_rfl) (by kernel_rfl) hok h
  rcases h3 with h3 | ⟨b, o, rfl, hb, f, hf⟩
  · obtain ⟨rfl, rfl, rfl⟩ := h3
    exact ⟨[], ⟨rfl, h1, by unfold maxLen; omega, .inl rfl⟩, .inl ⟨rfl, rfl, rfl⟩⟩
  · refine ⟨(List.range n).map f, ⟨by simp, h1, by unfold maxLen; omega, .inr ⟨b, o, rfl, hb, fun j q hq => ?_⟩⟩, .inr ⟨b, o, rfl⟩⟩
    have hj : j < n := by have := (List.getElem?_eq_some_iff.1 hq).1; simpa using this
    rw [List.getElem?_map, List.getElem?_range hj] at hq
    cases hq
    exact (hf j hj).2
end Go.Proofs.YtfdododighjjpaaGreatDoor.Dy
