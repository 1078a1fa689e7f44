/- A slice of calls that came in, opened. -/
import Derived.Test.YtnjaflldlhiefaaTkOpen
import Derived.Test.YtnjaflldlhiefaaTokenReadsW
import Derived.Deep.Slices
import Derived.Lib.SmallJoins
import Derived.ProofKit
import Derived.OpenShut
namespace Go.Proofs.Ytnjaflldlhiefaa
open Go.ChangeShapes Go.WideShapes Go.ChangeAt Go.RowKit Go.Deep Go.Joins
set_option linter.unusedVariables false

set_option maxRecDepth 100000 in
theorem open_ops {H : Type} {enc : TypeId × Value → H} {W : World} {sp : Nat → Bool} {held : Bool} {fuel : Nat} {a : Option Addr} {n cap : Nat} {x : DataW H × List MemPlace}
    (hf : DataW.trod enc Try.prog W 0 sp held fuel 56 [.slice a n cap] = some x) :
    ∃ L : List OT, Sl W (.slice a n cap) n 4 (L.flatMap ov) ∧ L.length = n ∧ ∀ x ∈ L, 0 ≤ x.1 ∧ x.1 ≤ 255 ∧ 0 ≤ x.2.1 ∧ x.2.1 ≤ 255 := by
  have hC : Try.prog.cellsOf 61 = 4 := by kernel_rfl
  rcases open_slice Try.underlying56 hf with ⟨h0, _⟩ | ⟨ad, len, cp, m, k, D, Pl, h0, _, hle, hcm, hm, _, hel⟩
  · simp only [List.cons.injEq, Value.slice.injEq, and_true] at h0
    obtain ⟨rfl, rfl, rfl⟩ := h0
    exact ⟨[], ⟨rfl, none, 0, rfl, Nat.le_refl _, Nat.zero_le _, .inl rfl⟩, rfl, by simp⟩
  · simp only [List.cons.injEq, Value.slice.injEq, and_true] at h0
    obtain ⟨rfl, rfl, rfl⟩ := h0
    rw [hC] at hel
    have hnm : n ≤ m := by rw [hm]; split <;> omega
    have helem : ∀ i, i < n → ∃ t : OT, W.cell? ((ad.add (i * 4)).add 0) = some (.int .u8 t.1) ∧ W.cell? ((ad.add (i * 4)).add 1) = some (.int .u8 t.2.1) ∧ W.cell? ((ad.add (i * 4)).add 2) = some (.int .i64 t.2.2.1) ∧ W.cell? ((ad.add (i * 4)).add 3) = some (.int .i64 t.2.2.2) ∧
        0 ≤ t.1 ∧ t.1 ≤ 255 ∧ 0 ≤ t.2.1 ∧ t.2.1 ≤ 255 := by
      intro i hi
      obtain ⟨cs, hc, ht⟩ := hel i (by omega)
      obtain ⟨hl, hg⟩ := cells4_get hc
      obtain ⟨y0, y1, y2, y3, q, _, _, t0, t1, t2, t3⟩ := trod_struct4 Try.underlying61 ht
      match cs, hl with
      | [c0, c1, c2, c3], _ =>
        have e3 : Try.prog.cellsOf 3 = 1 := by kernel_rfl
        have ek : Try.prog.cellsOf 5 = 1 := by kernel_rfl
        simp only [e3, ek, List.drop_zero, List.drop_succ_cons, List.take_succ_cons, List.take_zero] at t0 t1 t2 t3
        obtain ⟨k0, h0, _, w0⟩ := DataW.trod_int Try.underlying5 t0
        obtain ⟨s1, h1, _, w1⟩ := DataW.trod_int Try.underlying5 t1
        obtain ⟨k2, h2, _, w2⟩ := DataW.trod_int Try.underlying3 t2
        obtain ⟨k3, h3, _, w3⟩ := DataW.trod_int Try.underlying3 t3
        simp only [List.cons.injEq, and_true] at h0 h1 h2 h3
        subst h0 h1 h2 h3
        have hb : 0 ≤ k0 ∧ k0 ≤ 255 := bounds_u8 w0
        have hb1 : 0 ≤ s1 ∧ s1 ≤ 255 := bounds_u8 w1
        exact ⟨(k0, s1, k2, k3), hg 0 (by omega), hg 1 (by omega), hg 2 (by omega), hg 3 (by omega), hb.1, hb.2, hb1.1, hb1.2⟩
    by_cases hn : n = 0
    · subst hn
      exact ⟨[], ⟨rfl, some ad, cap, rfl, hle, hcm, .inl rfl⟩, rfl, by simp⟩
    · have hspot : ad.spot = none := by
        obtain ⟨t, h0, _⟩ := helem 0 (by omega)
        have := World.cell?_spot h0
        obtain ⟨b, o, sp⟩ := ad
        cases sp with
        | none => rfl
        | some z => simp [Addr.add] at this
      obtain ⟨b, o, sp⟩ := ad
      dsimp only at hspot
      subst hspot
      obtain ⟨f, hf⟩ := choose_lt helem
      refine ⟨(List.range n).map f, ⟨by rw [flat_lenG ov (fun _ => rfl)]; simp, some ⟨b, o, none⟩, cap, rfl, hle, hcm, .inr ⟨b, o, rfl, ?_, ?_⟩⟩, by simp, ?_⟩
      · have := World.block_lt_of_cell? W _ (hf 0 (by omega)).1
        simpa [addr_add] using this
      · intro j hj
        obtain ⟨i, c, hc, rfl⟩ : ∃ i c, c < 4 ∧ j = i * 4 + c := ⟨j / 4, j % 4, Nat.mod_lt _ (by omega), by omega⟩
        have hi : i < n := by omega
        have hget : ((List.range n).map f)[i]? = some (f i) := by simp [hi]
        rw [List.getD_eq_getElem?_getD, flat_getG ov (fun _ => rfl) _ i c (f i) hget hc]
        obtain ⟨g0, g1, g2, g3, _⟩ := hf i hi
        rw [addr_add, addr_add] at g0 g1 g2 g3
        rw [← Nat.add_assoc]
        match c, hc with
        | 0, _ => exact g0
        | 1, _ => exact g1
        | 2, _ => exact g2
        | 3, _ => exact g3
      · intro x hx
        obtain ⟨i, hi, rfl⟩ := List.mem_map.1 hx
        exact (hf i (by simpa using hi)).2.2.2.2

theorem open_ops_Trod {H : Type} {enc : TypeId × Value → H} {W : World} {sp : Nat → Bool} {held : Bool} {a : Option Addr} {n cap : Nat} {d : DataW H} {p : List MemPlace}
    (h : DataW.Trod enc Try.prog W 0 sp held 56 (.slice a n cap) d p) :
    ∃ L : List OT, Sl W (.slice a n cap) n 4 (L.flatMap ov) ∧ L.length = n ∧ ∀ x ∈ L, 0 ≤ x.1 ∧ x.1 ≤ 255 ∧ 0 ≤ x.2.1 ∧ x.2.1 ≤ 255 := by
  obtain ⟨fuel, hf⟩ := h
  exact open_ops (by simpa [Value.cells] using hf)

end Go.Proofs.Ytnjaflldlhiefaa
