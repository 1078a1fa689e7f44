/- The world that the door lays at the rule seat; the arguments that came in, opened. -/
import Derived.Test.YtfjpbkmnlmecgaaGreatDoorRows
import Derived.Test.YtfjpbkmnlmecgaaGreatDoorQgw
import Derived.Deep.Slices
import Derived.Lib.SmallJoins
import Derived.Lib.LaidTab
import Derived.Stop.LaidErr
import Derived.Stop.Joined
import Derived.ProofKit
import Derived.LaidMore
import Derived.OpenShut
import Derived.WalkKit
import Derived.ShutString
import Derived.ChangeOld
import Derived.Below
import Derived.Lay
import Derived.LaidOnce
namespace Go.Proofs.YtfjpbkmnlmecgaaGreatDoor.Ru
open Go.ChangeShapes Go.WideShapes Go.ChangeAt Go.RowKit Go.Deep Go.Joins Go.Proofs.YtfjpbkmnlmecgaaGreatDoor Go.Proofs.YtfjpbkmnlmecgaaGreatDoor.Bz
set_option linter.unusedVariables false

def laidRule : List (String × DataW Unit) := Rows.ruleChecksRow.laid
theorem e_tz : (Rows.laid_math_bits_deBruijn64tab : DataW Unit) = Lib.tabData .u8 (Lib.deBruijn64tab.map fun x : Nat => (x : Int)) := by kernel_rfl
theorem e_pow : (Rows.laid_internal_strconv_uint64pow10 : DataW Unit) = Lib.tabData .u64 Lib.pow10Tab := by kernel_rfl
theorem wz_of {W : World} (h : laidMetH Tryz.prog laidRule W) : Wz W := by
  rw [MakeChecks.laidMetH_plain _ _ _ (by kernel_rfl)] at h
  have h1 : laidMet Tryz.prog _ W := laidMet.tail (show laidMet Tryz.prog (_ :: _) W from h)
  have h2 : laidMet Tryz.prog _ W := laidMet.tail h1
  rw [e_tz] at h1
  rw [e_pow] at h2
  have t1 := Lib.tabIs_of_head (g := 1) (by kernel_rfl) (t := 278) (by kernel_rfl) Tryz.underlying278 Tryz.underlying5 (by kernel_rfl) (by kernel_rfl) h1
  have t2 := Lib.tabIs_of_head (g := 4) (by kernel_rfl) (t := 333) (by kernel_rfl) Tryz.underlying333 Tryz.underlying29 (by kernel_rfl) (by kernel_rfl) h2
  have hz : ∀ j, j < Lib.deBruijn64tab.length → W.cell? ⟨1, j, none⟩ = some (.int .u8 (Lib.deBruijn64tab.getD j 0)) := fun j hj => by
    rw [Lib.TabIs.cell t1 (by kernel_rfl) j (by simpa using hj)]
    rw [List.getD_eq_getElem?_getD, List.getD_eq_getElem?_getD, List.getElem?_map, List.getElem?_eq_getElem hj]; rfl
  exact ⟨⟨World.block_lt_of_cell? W _ (hz 0 (by decide)), hz⟩, Lib.tabBelow_of_tabIs t2⟩
theorem door_shaped (os : Go.Os) (args : Array Value) : ((World.laidAll Tryz.prog os laidRule).forCall (fun _ _ => 0) ⟨#[], args, []⟩).Shaped Tryz.prog := World.shaped_of_ZipB (by kernel_rfl) (by kernel_rfl)
theorem door_met (os : Go.Os) (args : Array Value) : laidMetH Tryz.prog laidRule ((World.laidAll Tryz.prog os laidRule).forCall (fun _ _ => 0) ⟨#[], args, []⟩).memory := by
  rw [MakeChecks.laidMetH_plain _ _ _ (by kernel_rfl)]
  exact laidMet_laidAll _ (by kernel_rfl) (by kernel_rfl)
theorem addr_add (b o n : Nat) : (⟨b, o, none⟩ : Addr).add n = ⟨b, o + n, none⟩ := by unfold Addr.add; split <;> simp_all
theorem cells2_get {w : World} {base : Nat} {a : Addr} {cs : List Value} (h : w.cells? base a 2 = some cs) : ∃ c0 c1, cs = [c0, c1] ∧ w.cell? (a.add 0) = some c0 ∧ w.cell? (a.add 1) = some c1 := by
  unfold World.cells? at h
  split at h
  · have hl := mapM_some_length h
    have h0 := mapM_some_get h 0 0 (by simp)
    have h1 := mapM_some_get h 1 1 (by simp)
    match cs, hl with
    | [c0, c1], _ => exact ⟨c0, c1, rfl, by simpa using h0, by simpa using h1⟩
  · cases h
set_option maxRecDepth 20000 in
theorem ok_addr {W : World} {base : Nat} {t e : TypeId} {a : Option Addr} {n cap : Nat} (ht : Tryz.prog.underlying t = some (.slice e)) (h : Value.okWide Tryz.prog W .any base t (.slice a n cap)) :
    n ≤ cap ∧ cap ≤ 9223372036854775807 ∧ (a = none ∧ n = 0 ∧ cap = 0 ∨ ∃ b o, a = some ⟨b, o, none⟩ ∧ b < W.heap.size) := by
  simp only [Value.okWide, ht, Cell.okWide] at h
  cases a with
  | none =>
    rcases n with _ | n
    · rcases cap with _ | c
      · exact ⟨Nat.le_refl _, Nat.zero_le _, .inl ⟨rfl, rfl, rfl⟩⟩
      · simp [Cell.ok, ht] at h
    · simp [Cell.ok, ht] at h
  | some ad =>
    simp only [Cell.ok, ht] at h
    obtain ⟨h1, h2, _, h3, row, cells, h4, _⟩ := h
    obtain ⟨b, o, sp⟩ := ad
    dsimp only at h3
    subst h3
    have hm : IntKind.i64.max = 9223372036854775807 := by decide
    rw [hm] at h2
    refine ⟨h1, by omega, .inr ⟨b, o, rfl, ?_⟩⟩
    unfold World.shape? at h4
    rcases Nat.lt_or_ge b W.heap.size with hb | hb
    · exact hb
    · rw [Array.getElem?_eq_none hb] at h4; cases h4
theorem bounds_i16 {n : Int} (h : (Lit.int .i16 n).wf = true) : -32768 ≤ n ∧ n ≤ 32767 := by
  simp [Lit.wf, IntKind.min, IntKind.max, IntKind.signed, IntKind.bits] at h
  omega
theorem bounds_u64 {n : Int} (h : (Lit.int .u64 n).wf = true) : 0 ≤ n ∧ n < 18446744073709551616 := by
  simp [Lit.wf, IntKind.min, IntKind.max, IntKind.signed, IntKind.bits] at h
  omega
set_option maxRecDepth 100000 in
/-- A slice of pairs of small ints, opened. -/
theorem open_i16s {H : Type} {enc : TypeId × Value → H} {W : World} {base : Nat} {sp : Nat → Bool} {held : Bool} {fuel : Nat} {a : Option Addr} {n cap : Nat} {x : DataW H × List MemPlace}
    (hok : Value.okWide Tryz.prog W .any base 30 (.slice a n cap)) (hf : DataW.trod enc Tryz.prog W 0 sp held fuel 30 [.slice a n cap] = some x) : ∃ l, Ss W a n cap l ∧ ∀ p ∈ l, -32768 ≤ p.1 ∧ p.1 ≤ 32767 ∧ -32768 ≤ p.2 ∧ p.2 ≤ 32767 := by
  obtain ⟨h1, h2, h3⟩ := ok_addr Tryz.underlying30 hok
  rcases h3 with ⟨rfl, rfl, rfl⟩ | ⟨b, o, rfl, hb⟩
  · exact ⟨[], ⟨rfl, Nat.le_refl _, by unfold maxLen; omega, .inl rfl⟩, fun p hp => by cases hp⟩
  · rcases open_slice Tryz.underlying30 hf with ⟨h0, _⟩ | ⟨ad, len, cp, m, kk, D, Pl, h0, _, hle, hcm, hm, _, hel⟩
    · simp at h0
    · simp only [List.cons.injEq, Value.slice.injEq, Option.some.injEq, and_true] at h0
      obtain ⟨rfl, rfl, rfl⟩ := h0
      have hCT : Tryz.prog.cellsOf 111 = 2 := by kernel_rfl
      have hCU : Tryz.prog.cellsOf 110 = 1 := by kernel_rfl
      rw [hCT] at hel
      have hnm : n ≤ m := by rw [hm]; split <;> omega
      have helem : ∀ i, i < n → ∃ q : Int × Int, ((Lit.int .i16 q.1).wf = true ∧ (Lit.int .i16 q.2).wf = true) ∧ W.cell? ⟨b, o + i * 2, none⟩ = some (.int .i16 q.1) ∧ W.cell? ⟨b, o + i * 2 + 1, none⟩ = some (.int .i16 q.2) := by
        intro i hi
        obtain ⟨cs, hc, ht⟩ := hel i (by omega)
        obtain ⟨c0, c1, rfl, hg0, hg1⟩ := cells2_get hc
        obtain ⟨xs, mm, _, _, _, hxl, hx⟩ := DataW.trod_array Tryz.underlying111 ht
        rw [hCU] at hx
        have hx0 := hx 0 (by omega)
        have hx1 := hx 1 (by omega)
        rw [List.getElem?_eq_getElem (by omega)] at hx0 hx1
        obtain ⟨z0, hz0, _, hw0⟩ := DataW.trod_int Tryz.underlying110 hx0
        obtain ⟨z1, hz1, _, hw1⟩ := DataW.trod_int Tryz.underlying110 hx1
        simp at hz0 hz1
        subst hz0 hz1
        rw [addr_add, addr_add] at hg0 hg1
        exact ⟨(z0, z1), ⟨hw0, hw1⟩, by simpa using hg0, by simpa [Nat.add_assoc] using hg1⟩
      obtain ⟨f, hf⟩ := choose_lt helem
      refine ⟨(List.range n).map f, ⟨by simp, h1, by unfold maxLen; omega, .inr ⟨b, o, rfl, hb, fun j q hq => ?_⟩⟩, fun p hp => ?_⟩
      · have hj : j < n := by have := (List.getElem?_eq_some_iff.1 hq).1; simpa using this
        rw [List.getElem?_map, List.getElem?_range hj] at hq
        cases hq
        exact (hf j hj).2
      · obtain ⟨i, hi, rfl⟩ := List.mem_map.1 hp
        obtain ⟨⟨w0, w1⟩, -⟩ := hf i (by simpa using hi)
        exact ⟨(bounds_i16 w0).1, (bounds_i16 w0).2, (bounds_i16 w1).1, (bounds_i16 w1).2⟩
/-- What stands for any rule. -/
structure Rin where
  rv : Bool
  ad : Int
  tg : Int
  lg : Int
  y : Nat
  z : Nat
  a : Option Addr
  n : Nat
  c : Nat
def rinV (r : Rin) : Value := .agg #[.bool r.rv, .int .i64 r.ad, .int .i64 r.tg, .int .i64 r.lg, .int .u64 (r.y : Nat), .int .u64 (r.z : Nat), .slice r.a r.n r.c]
def RinOk (W : World) (r : Rin) : Prop := r.y < 18446744073709551616 ∧ r.z < 18446744073709551616 ∧ ∃ l, Ss W r.a r.n r.c l ∧ ∀ p ∈ l, -32768 ≤ p.1 ∧ p.1 ≤ 32767 ∧ -32768 ≤ p.2 ∧ p.2 ≤ 32767
set_option maxRecDepth 100000 in
theorem open_rin {H : Type} {enc : TypeId × Value → H} {W : World} {base : Nat} {sp : Nat → Bool} {held : Bool} {v : Value} {d : DataW H} {p : List MemPlace}
    (hok : Value.okWide Tryz.prog W .any base 32 v) (h : DataW.Trod enc Tryz.prog W 0 sp held 32 v d p) : ∃ r : Rin, v = rinV r ∧ RinOk W r := by
  simp only [Value.okWide, Tryz.underlying32] at hok
  obtain ⟨cs, rfl, -, ts, hts, -, hall⟩ := hok
  obtain ⟨fuel, hf⟩ := h
  have hf : DataW.trod enc Tryz.prog W 0 sp held fuel 32 cs.toList = some (d, p) := hf
  obtain ⟨xs, n, _, _, hl, hxl, hx⟩ := DataW.trod_struct Tryz.underlying32 hf
  rw [show Tryz.prog.cellsOf 32 = 7 from by kernel_rfl] at hl
  obtain ⟨ls⟩ := cs
  dsimp only at hl hx hall hf ⊢
  match ls, hl with
  | [a0, a1, a2, a3, a4, a5, a6], _ =>
    have hcb : Tryz.prog.cellsOf 4 = 1 := by kernel_rfl
    have hci : Tryz.prog.cellsOf 3 = 1 := by kernel_rfl
    have hcu : Tryz.prog.cellsOf 29 = 1 := by kernel_rfl
    have hcs : Tryz.prog.cellsOf 30 = 1 := by kernel_rfl
    have h0 : DataW.trod enc Tryz.prog W 0 sp held n 4 (List.take (Tryz.prog.cellsOf 4) (List.drop 0 [a0, a1, a2, a3, a4, a5, a6])) = xs[0]? := hx 0 _ rfl
    have h1 : DataW.trod enc Tryz.prog W 0 sp held n 3 (List.take (Tryz.prog.cellsOf 3) (List.drop 1 [a0, a1, a2, a3, a4, a5, a6])) = xs[1]? := hx 1 _ rfl
    have h2 : DataW.trod enc Tryz.prog W 0 sp held n 3 (List.take (Tryz.prog.cellsOf 3) (List.drop 2 [a0, a1, a2, a3, a4, a5, a6])) = xs[2]? := hx 2 _ rfl
    have h3 : DataW.trod enc Tryz.prog W 0 sp held n 3 (List.take (Tryz.prog.cellsOf 3) (List.drop 3 [a0, a1, a2, a3, a4, a5, a6])) = xs[3]? := hx 3 _ rfl
    have h4 : DataW.trod enc Tryz.prog W 0 sp held n 29 (List.take (Tryz.prog.cellsOf 29) (List.drop 4 [a0, a1, a2, a3, a4, a5, a6])) = xs[4]? := hx 4 _ rfl
    have h5 : DataW.trod enc Tryz.prog W 0 sp held n 29 (List.take (Tryz.prog.cellsOf 29) (List.drop 5 [a0, a1, a2, a3, a4, a5, a6])) = xs[5]? := hx 5 _ rfl
    have h6 : DataW.trod enc Tryz.prog W 0 sp held n 30 (List.take (Tryz.prog.cellsOf 30) (List.drop 6 [a0, a1, a2, a3, a4, a5, a6])) = xs[6]? := hx 6 _ rfl
    have hxl : xs.length = 7 := hxl
    rw [hcb] at h0
    rw [hci] at h1 h2 h3
    rw [hcu] at h4 h5
    rw [hcs] at h6
    rw [List.getElem?_eq_getElem (by omega)] at h0 h1 h2 h3 h4 h5 h6
    simp only [List.drop_zero, List.drop_succ_cons, List.take_succ_cons, List.take_zero] at h0 h1 h2 h3 h4 h5 h6
    obtain ⟨z0, hz0, _⟩ := DataW.trod_bool Tryz.underlying4 h0
    obtain ⟨z1, hz1, _, -⟩ := DataW.trod_int Tryz.underlying3 h1
    obtain ⟨z2, hz2, _, -⟩ := DataW.trod_int Tryz.underlying3 h2
    obtain ⟨z3, hz3, _, -⟩ := DataW.trod_int Tryz.underlying3 h3
    obtain ⟨z4, hz4, _, hw4⟩ := DataW.trod_int Tryz.underlying29 h4
    obtain ⟨z5, hz5, _, hw5⟩ := DataW.trod_int Tryz.underlying29 h5
    simp at hz0 hz1 hz2 hz3 hz4 hz5
    subst hz0 hz1 hz2 hz3 hz4 hz5
    have b4 := bounds_u64 hw4
    have b5 := bounds_u64 hw5
    obtain ⟨a, m, c, rfl⟩ : ∃ a m c, a6 = .slice a m c := by
      rcases open_slice Tryz.underlying30 h6 with ⟨g0, _⟩ | ⟨ad, len, cp, m, kk, D, Pl, g0, _⟩
      · simp at g0; exact ⟨_, _, _, g0⟩
      · simp at g0; exact ⟨_, _, _, g0⟩
    have hts2 : Tryz.prog.cellTypes Tryz.prog.depth 32 = some [4, 3, 3, 3, 29, 29, 30] := by kernel_rfl
    rw [hts2] at hts
    cases hts
    obtain ⟨u, hu, hk⟩ := hall 6 (.slice a m c) rfl
    cases hu
    have hok6 : Value.okWide Tryz.prog W .any base 30 (.slice a m c) := by
      simp only [Value.okWide, Tryz.underlying30]; exact hk
    obtain ⟨l, hl, hb⟩ := open_i16s hok6 h6
    refine ⟨⟨z0, z1, z2, z3, z4.toNat, z5.toNat, a, m, c⟩, ?_, by dsimp only; omega, by dsimp only; omega, l, hl, hb⟩
    unfold rinV
    dsimp only
    rw [show ((z4.toNat : Nat) : Int) = z4 by omega, show ((z5.toNat : Nat) : Int) = z5 by omega]
def twoV (q : Int × Int) : Value := .agg #[.int .i64 q.1, .int .i64 q.2]
set_option maxRecDepth 100000 in
theorem open_two {H : Type} {enc : TypeId × Value → H} {W : World} {base : Nat} {sp : Nat → Bool} {held : Bool} {v : Value} {d : DataW H} {p : List MemPlace}
    (hok : Value.okWide Tryz.prog W .any base 80 v) (h : DataW.Trod enc Tryz.prog W 0 sp held 80 v d p) : ∃ q : Int × Int, v = twoV q ∧ (Lit.int .i64 q.1).wf = true ∧ (Lit.int .i64 q.2).wf = true := by
  simp only [Value.okWide, Tryz.underlying80] at hok
  obtain ⟨cs, rfl, -⟩ := hok
  obtain ⟨fuel, hf⟩ := h
  have hf : DataW.trod enc Tryz.prog W 0 sp held fuel 80 cs.toList = some (d, p) := hf
  obtain ⟨xs, mm, _, _, hl, hxl, hx⟩ := DataW.trod_array Tryz.underlying80 hf
  have hCU : Tryz.prog.cellsOf 3 = 1 := by kernel_rfl
  rw [show Tryz.prog.cellsOf 80 = 2 from by kernel_rfl] at hl
  rw [hCU] at hx
  obtain ⟨ls⟩ := cs
  dsimp only at hl hx
  match ls, hl with
  | [a0, a1], _ =>
    have hx0 := hx 0 (by omega)
    have hx1 := hx 1 (by omega)
    rw [List.getElem?_eq_getElem (by omega)] at hx0 hx1
    obtain ⟨z0, hz0, _, hw0⟩ := DataW.trod_int Tryz.underlying3 hx0
    obtain ⟨z1, hz1, _, hw1⟩ := DataW.trod_int Tryz.underlying3 hx1
    simp at hz0 hz1
    subst hz0 hz1
    exact ⟨(z0, z1), rfl, hw0, hw1⟩
end Go.Proofs.YtfjpbkmnlmecgaaGreatDoor.Ru
