/- A call that came in by value, opened. -/
import Derived.Test.YtnjaflldlhiefaaTkOp
namespace Go.Proofs.Ytnjaflldlhiefaa
open Go.ChangeShapes Go.WideShapes Go.ChangeAt Go.RowKit Go.Deep Go.Joins
set_option linter.unusedVariables false

theorem open_op_Trod {H : Type} {enc : TypeId × Value → H} {W : World} {sp : Nat → Bool} {held : Bool} {base : Nat} {v : Value} {d : DataW H} {p : List MemPlace}
    (hv : Value.okWide Try.prog W .any base 61 v) (h : DataW.Trod enc Try.prog W 0 sp held 61 v d p) :
    ∃ x : OT, v = .agg #[.int .u8 x.1, .int .u8 x.2.1, .int .i64 x.2.2.1, .int .i64 x.2.2.2] ∧ 0 ≤ x.1 ∧ x.1 ≤ 255 ∧ 0 ≤ x.2.1 ∧ x.2.1 ≤ 255 := by
  obtain ⟨v0, v1, v2, v3, y0, y1, y2, y3, m, rfl, -, -, t0, t1, t2, t3⟩ := open_agg4 Try.underlying61 (by kernel_rfl) (by kernel_rfl) hv h
  obtain ⟨k0, h0, _, w0⟩ := DataW.trod_int Try.underlying5 t0
  obtain ⟨k1, h1, _, w1⟩ := DataW.trod_int Try.underlying5 t1
  obtain ⟨k2, h2, _, w2⟩ := DataW.trod_int Try.underlying3 t2
  obtain ⟨k3, h3, _, w3⟩ := DataW.trod_int Try.underlying3 t3
  simp only [List.cons.injEq, and_true] at h0 h1 h2 h3
  subst h0 h1 h2 h3
  exact ⟨(k0, k1, k2, k3), rfl, (bounds_u8 w0).1, (bounds_u8 w0).2, (bounds_u8 w1).1, (bounds_u8 w1).2⟩
end Go.Proofs.Ytnjaflldlhiefaa
