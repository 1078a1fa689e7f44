/- Several of the texts below, joined: RxP RxS. -/
import Derived.Test.YtfjpbkmnlmecgaaGreatDoorQgv
import Derived.Test.YtfjpbkmnlmecgaaGreatDoorQgx
import Derived.Test.YtfjpbkmnlmecgaaGreatDoorQgy
import Derived.Test.YtfjpbkmnlmecgaaGreatDoorQgi
section
/- The contracts in the laws' form. -/
namespace Go.Proofs.YtfjpbkmnlmecgaaGreatDoor.Ru
open Go.RowKit Go.PlainAid Go.Maps Go.Shelf Go.Proofs.YtfjpbkmnlmecgaaGreatDoor Go.Proofs.YtfjpbkmnlmecgaaGreatDoor.Bz
set_option linter.unusedVariables false
set_option linter.unusedSimpArgs false
set_option maxHeartbeats 4000000
set_option maxRecDepth 20000

theorem hrule_v {w : World} {v : Value} {f : Fr} (h : FrV w v f) : Calls Tryz.prog 15 #[v] w fun e w' => ∃ u, e = .returned u ∧ RlV w' u (toRl f) ∧ Below w.heap.size w w' := by
  obtain ⟨cs, rfl, a, n, c, rfl, hd, hy, hz, ey, ez, hc⟩ := h
  exact (hrule_any f.revoke f.admin f.target f.longest f.yes f.no a n c f.days w hy hz hd.1 hc).mono fun e w' ⟨h, he, hr, hb⟩ => ⟨_, he, ⟨h, rfl, hr⟩, hb⟩
theorem check_v {w : World} {v s : Value} {r : Rl} {adm : List Nat} (roles : Int) {x : Int} (h : RlV w v r) (hs : StV w s adm) (hx : chkL r roles adm = x) : Calls Tryz.prog 34 #[v, .int .i64 roles, s] w (IntPost w x) := by
  obtain ⟨k, rfl, hr⟩ := h
  obtain ⟨a, n, c, rfl, hb⟩ := hs
  subst hx
  exact check_any k r roles a n c adm w hr hb
theorem rcheck_v {w : World} {v : Value} {f : Fr} (roles : Int) (adm : Nat) {x : Int} (h : FrV w v f) (hm : adm < 18446744073709551616) (hx : chkF f roles adm = x) : Calls Tryz.prog 35 #[v, .int .i64 roles, .int .u64 (adm : Nat)] w (IntPost w x) := by
  obtain ⟨cs, rfl, a, n, c, rfl, hd, hy, hz, ey, ez, hc⟩ := h
  subst hx
  exact rcheck_any f.revoke f.admin f.target f.longest f.yes f.no adm a n c f.days roles w hy hz hm
theorem eqr_v {w : World} {v u : Value} {r s : Rl} {b : Bool} (h : RlV w v r) (k : RlV w u s) (hb : eqRl r s = b) : Calls Tryz.prog 37 #[v, u] w (BoolPost w b) := by
  obtain ⟨x, rfl, hr⟩ := h
  obtain ⟨y, rfl, hs⟩ := k
  subst hb
  exact eqr_any x y r s w hr hs
theorem rsame_v {w : World} {v u : Value} {f g : Fr} {b : Bool} (h : FrV w v f) (k : FrV w u g) (hb : sameF f g = b) : Calls Tryz.prog 38 #[v, u] w (BoolPost w b) := by
  obtain ⟨cs, rfl, a, n, c, rfl, hd, -⟩ := h
  obtain ⟨cs', rfl, a', n', c', rfl, hd', -⟩ := k
  subst hb
  exact rsame_any f.revoke f.admin f.target f.longest f.yes f.no a n c f.days g.revoke g.admin g.target g.longest g.yes g.no a' n' c' g.days w hd.1 hd'.1
theorem mset_v (m : Nat) (hm : m < 18446744073709551616) (w : World) : Calls Tryz.prog 20 #[.int .u64 (m : Nat)] w fun e w' => ∃ u, e = .returned u ∧ StV w' u (maskL m) ∧ Below w.heap.size w w' :=
  (mset_any m hm w).mono fun e w' ⟨a, n, c, he, hs, hb⟩ => ⟨_, he, ⟨a, n, c, rfl, hs⟩, hb⟩
theorem ofv_any {a : Option Addr} {n c : Nat} {zs : List Int} {w : World} (h : Iw w a n c zs) (hn : n ≤ 1000000) : Calls Tryz.prog 36 #[.slice a n c] w fun e w' => ∃ u, e = .returned u ∧ StV w' u (Go.Proofs.YtfjpbkmnlmecgaaGreatDoor.Bz.ofL zs) ∧ Below w.heap.size w w' :=
  (of_any a n c zs w h hn).mono fun e w' ⟨a, n, c, he, hs, hb⟩ => ⟨_, he, ⟨a, n, c, rfl, hs⟩, hb⟩
theorem plain_v {w : World} {x : Rin} (h : RinOk w x) : Calls Tryz.prog 14 #[rinV x] w fun e w' => ∃ v f, e = .returned v ∧ FrV w' v f ∧ Below w.heap.size w w' := by
  obtain ⟨hy, hz, l, hs, hr⟩ := h
  exact plain_any x.rv x.ad x.tg x.lg x.y x.z x.a x.n x.c l w hs hr hy hz
theorem of56 : Go.Proofs.YtfjpbkmnlmecgaaGreatDoor.Bz.ofL [5, 6] = maskL 96 := by decide +kernel
end Go.Proofs.YtfjpbkmnlmecgaaGreatDoor.Ru
end

section
/- What the laws about rules share. -/
namespace Go.Proofs.YtfjpbkmnlmecgaaGreatDoor.Ru
open Go.RowKit Go.PlainAid Go.Maps Go.Shelf Go.Proofs.YtfjpbkmnlmecgaaGreatDoor Go.Proofs.YtfjpbkmnlmecgaaGreatDoor.Bz
set_option linter.unusedVariables false
set_option linter.unusedSimpArgs false
set_option maxHeartbeats 8000000
set_option maxRecDepth 20000

theorem stepc {W w1 w2 : World} (h : Below W.heap.size W w1) (h2 : Below w1.heap.size w1 w2) : Below W.heap.size W w2 := h.trans (h2.mono h.size)
theorem FrV.pick {w : World} {v : Value} {f : Fr} (h : FrV w v f) : ∃ a n c, v = .agg #[.bool f.revoke, .int .i64 f.admin, .int .i64 f.target, .int .u64 (f.yes : Nat), .int .u64 (f.no : Nat), .slice a n c, .int .i64 f.longest] ∧ FrC w (frL f a n c) f := by
  obtain ⟨cs, e, a, n, c, rfl, h2⟩ := h
  exact ⟨a, n, c, e, a, n, c, rfl, h2⟩
theorem FrC.val {w : World} {f : Fr} {a : Option Addr} {n c : Nat} (h : FrC w (frL f a n c) f) : FrV w (.agg #[.bool f.revoke, .int .i64 f.admin, .int .i64 f.target, .int .u64 (f.yes : Nat), .int .u64 (f.no : Nat), .slice a n c, .int .i64 f.longest]) f := ⟨_, rfl, h⟩
theorem rcheck96_v {w : World} {v : Value} {f : Fr} {x : Int} (h : FrV w v f) (hx : chkF f 6 96 = x) : Calls Tryz.prog 35 #[v, .int .i64 6, .int .u64 96] w (IntPost w x) := rcheck_v 6 96 h (by decide) hx
theorem FrC.ok {w : World} {cs : List Value} {f : Fr} (h : FrC w cs f) : FrOk f := by
  obtain ⟨a, n, c, e, h1, h2⟩ := h; exact h2
theorem RinOk.below {w w' : World} {r : Rin} (h : RinOk w r) (hb : Below w.heap.size w w') : RinOk w' r := by
  obtain ⟨h1, h2, l, h3, h4⟩ := h
  exact ⟨h1, h2, l, h3.below hb (Nat.le_refl _), h4⟩
/-- Three boxes: two of seven cells, one of two. -/
theorem box772 {w wr : World} {v0 v1 v2 v3 v4 v5 v6 u0 u1 u2 u3 u4 u5 u6 x0 x1 : Value} {T S : TypeId} (h : Below (w.heap.size + 3) (((w.alloc (.cells #[v0, v1, v2, v3, v4, v5, v6] T)).alloc (.cells #[u0, u1, u2, u3, u4, u5, u6] T)).alloc (.cells #[x0, x1] S)) wr) :
    (wr.cell? ⟨w.heap.size, 0, none⟩ = some (v0) ∧ wr.cell? ⟨w.heap.size, 1, none⟩ = some (v1) ∧ wr.cell? ⟨w.heap.size, 2, none⟩ = some (v2) ∧ wr.cell? ⟨w.heap.size, 3, none⟩ = some (v3) ∧ wr.cell? ⟨w.heap.size, 4, none⟩ = some (v4) ∧ wr.cell? ⟨w.heap.size, 5, none⟩ = some (v5) ∧ wr.cell? ⟨w.heap.size, 6, none⟩ = some (v6)) ∧ (wr.cell? ⟨w.heap.size + 1, 0, none⟩ = some (u0) ∧ wr.cell? ⟨w.heap.size + 1, 1, none⟩ = some (u1) ∧ wr.cell? ⟨w.heap.size + 1, 2, none⟩ = some (u2) ∧ wr.cell? ⟨w.heap.size + 1, 3, none⟩ = some (u3) ∧ wr.cell? ⟨w.heap.size + 1, 4, none⟩ = some (u4) ∧ wr.cell? ⟨w.heap.size + 1, 5, none⟩ = some (u5) ∧ wr.cell? ⟨w.heap.size + 1, 6, none⟩ = some (u6)) ∧ (wr.cell? ⟨w.heap.size + 2, 0, none⟩ = some x0 ∧ wr.cell? ⟨w.heap.size + 2, 1, none⟩ = some x1) ∧ Below w.heap.size w wr := by
  have h1 : Below (w.heap.size + 2) ((w.alloc (.cells #[v0, v1, v2, v3, v4, v5, v6] T)).alloc (.cells #[u0, u1, u2, u3, u4, u5, u6] T)) wr := ((Below.refl _ _).alloc (by simp) _).trans (h.mono (by omega))
  obtain ⟨ha, hb, hc⟩ := box77 h1
  have hz : (((w.alloc (.cells #[v0, v1, v2, v3, v4, v5, v6] T)).alloc (.cells #[u0, u1, u2, u3, u4, u5, u6] T)).alloc (.cells #[x0, x1] S)).heap[w.heap.size + 2]? = some (.cells #[x0, x1] S (0, 0)) := by
    have := heap_alloc_new ((w.alloc (.cells #[v0, v1, v2, v3, v4, v5, v6] T)).alloc (.cells #[u0, u1, u2, u3, u4, u5, u6] T)) (.cells #[x0, x1] S)
    simp only [World.size_alloc] at this
    exact this
  have hq := (h.block (w.heap.size + 2) (by omega)).trans hz
  exact ⟨ha, hb, ⟨by simp [World.cell?, hq], by simp [World.cell?, hq]⟩, hc⟩
theorem iw_two (w : World) (x y : Int) : Iw (w.alloc (.cells #[.int .i64 x, .int .i64 y] 3)) (some ⟨w.heap.size, 0, none⟩) 2 2 [x, y] := by
  refine ⟨rfl, Nat.le_refl _, by omega, .inr ⟨_, 0, rfl, by simp, fun j hj => ?_⟩⟩
  match j, hj with
  | 0, _ => simp [go_sem, zg]
  | 1, _ => simp [go_sem, zg]
  | j + 2, hj => omega
theorem Iw.keep {w w' : World} {a : Option Addr} {n cap : Nat} {zs : List Int} (h : Iw w a n cap zs) (hb : Below w.heap.size w w') : Iw w' a n cap zs := h.below hb
theorem wrap_u64_nat (x : Int) : ∃ m : Nat, IntKind.u64.wrap x = (m : Int) ∧ m < 18446744073709551616 := by
  rw [IntKind.wrap_u64]
  exact ⟨(x % 18446744073709551616).toNat, by omega, by omega⟩
end Go.Proofs.YtfjpbkmnlmecgaaGreatDoor.Ru
end
