/- Several of the texts below, joined: CuI CuC Rin. -/
import Derived.RangeFuncNested
import Derived.RangeFuncBound
import Derived.RangeFuncCalls
import Derived.RangeFuncLeaves
import Derived.RangeFuncBox
import Derived.RangeFuncWrites
import Derived.Shelf.Abstract
import Derived.Shelf.RegionOpen
import Derived.WalkKit
import Derived.OwnWalkIn
import Derived.TacticsInMore
import Derived.LoopNIn
import Derived.LoopIn
import Derived.Maps.AppendAt
import Derived.Test.YtadomogbakcokaaGreatDoorQgd
import Derived.Test.YtadomogbakcokaaGreatDoorQgh
import Derived.Deep.RegionHeld3
import Derived.OrdersIn
section
/- The iterator over the members again, where the loop's body may write what the iterator does not read. -/
namespace Go.Proofs.YtadomogbakcokaaGreatDoor
open Go.RowKit Go.PlainAid Go.Shelf
attribute [local go_sem] Oper.semAt_some
set_option linter.unusedVariables false
set_option linter.unusedSimpArgs false
set_option maxHeartbeats 2000000

set_option maxRecDepth 100000 in
theorem all1_inK (n : Nat) (hn : 1 ≤ n) (lk Bq n₀ b off len cap : Nat) (ws l : List Nat) (hr : Rp ws l) (hlen : ws.length = len) (K : World → World → Prop) (hKr : ∀ A, K A A) (hKt : ∀ {A B C}, K A B → K B C → K A C) (hKT : ∀ {A B}, K A B → Tzn n₀ A → Tzn n₀ B) (hKc : ∀ {A B}, K A B → ∀ j, A.cell? ⟨b, j, none⟩ = B.cell? ⟨b, j, none⟩) (J Jx : List Nat → World → Prop)
    (hY : ∀ pre x W, J pre W → pre.length < l.length → pre ++ [x] <+: l → YieldAt Fence.wide (n - 1) Tryz.prog lk #[.int .i64 ((x : Nat) : Int)] W fun e W' =>
      (e = .returned (.bool true) ∧ J (pre ++ [x]) W' ∧ K W W') ∨ (e = .returned (.bool false) ∧ Jx (pre ++ [x]) W'))
    (W : World) (hT : Tzn n₀ W) (hBs : W.cell? ⟨Bq, 0, none⟩ = some (.slice (some ⟨b, off, none⟩) len cap)) (hc : ∀ j, j < len → W.cell? ⟨b, off + j, none⟩ = some (.int .u64 (wd ws j : Nat))) (h0 : J [] W) :
    CallsIn Fence.wide n Tryz.prog 100 #[.func (.yield lk) #[] #[], .pointer (some ⟨Bq, 0, none⟩)] W fun e W' => (∃ v, e = .returned v) ∧
      ((∃ ys, ys = l ∧ J ys W') ∨ (∃ pre, pre <+: l ∧ Jx pre W')) := by
  have hl64 := hr.2.2.1
  rw [hlen] at hl64
  refine callsIn_of_wp Tryz.func100 rfl trivial ?_ rfl
  simp only [Tryz.ntmps100, List.size_toArray, List.length_cons, List.length_nil, Nat.reduceAdd, Nat.reduceSub, Array.replicate_succ, Array.replicate_zero, List.push_toArray, List.append_toArray, List.nil_append, List.cons_append]
  have HY := Lib.hid hY
  have HC := Lib.hid hc
  have HR := Lib.hid hr
  have HT := Lib.hid hT
  have H0 := Lib.hid h0
  have HLEN := Lib.hid hlen
  clear hY hc hr hT h0 hlen
  gi_wp2
  gi_loopw [8] (fun i wr => ∃ (k : Nat) (pre rest : List Nat), k ≤ len ∧ i = .int .i64 k ∧ Hid (l = pre ++ rest) ∧ Hid (∀ y ∈ rest, 64 * k ≤ y) ∧ Hid (∀ y ∈ pre, y < 64 * k) ∧ Hid (J pre wr) ∧ Hid (K W wr)) (fun i _ => len - (intOf i).toNat)
  case atStart => exact ⟨0, [], l, Nat.zero_le _, rfl, rfl, fun y _ => by omega, fun y hy => by simp at hy, H0.out, hKr _⟩
  case round =>
    obtain ⟨k, pre, rest, hk, rfl, hpr, hre, hpe, hJ, hB⟩ := hrel
    by_cases hlt : k < len
    · have c1 := (hKc hB.out (off + k)).symm.trans (HC.out k hlt)
      have hst := Lib.hid (Bits64.start HR.out hpr.out hre.out hpe.out)
      obtain ⟨x0, hx0⟩ : ∃ x0, x0 = wd ws k := ⟨_, rfl⟩
      rw [← hx0] at c1 hst
      clear hx0
      obtain ⟨wo, rfl⟩ : ∃ wo : World, wo = wr := ⟨_, rfl⟩
      gi_wp2
      gi_loopw [4] (fun v wr => ∃ (x : Nat) (pre rest : List Nat), v = .int .u64 x ∧ Hid (l = pre ++ rest) ∧ Hid (Bits64 k x rest) ∧ Hid (∀ y ∈ pre, y < 64 * (k + 1)) ∧ Hid (J pre wr) ∧ Hid (K W wr)) (fun v _ => (intOf v).toNat)
      case atStart => exact ⟨x0, pre, rest, rfl, hpr.out, hst.out, fun y hy => by have := hpe.out y hy; omega, hJ.out, hB.out⟩
      case round =>
        clear hst hJ hB hpe hre hpr c1
        obtain ⟨x, pre, rest, rfl, hpr, hst, hpe, hJ, hB⟩ := hrel
        have hx64 := hst.out.1
        by_cases hx : x = 0
        · have HD := Lib.hid (hst.out.done hx)
          subst hx
          gi_wp2
          go_roundw
          case rel => exact ⟨k + 1, pre, rest, by omega, by go_num, hpr.out, HD.out, hpe.out, hJ.out, hB.out⟩
          case measure => simp [intOf]; omega
        · obtain ⟨rest2, hr2, hst2, hlt2⟩ := hst.out.next hx
          have hcz := (ctz_spec hx hx64).1
          have hlen : pre.length < l.length := by rw [hpr.out, hr2]; simp
          obtain ⟨fn, tmps, assign, body, hy, hRo⟩ := HY.out pre (64 * k + Lib.ctz 64 x) wr hJ.out hlen ⟨rest2, by rw [hpr.out, hr2]; simp⟩
          have htz := Lib.hid (fun w' hb => tzn_any x hx hx64 n₀ w' ((hKT hB.out HT.out).below hb))
          have HX := Lib.hid hx
          have HR2 := Lib.hid hr2
          have HS2 := Lib.hid hst2
          have hx1 : ((x : Int) == 0) = false := beq_eq_false_iff_ne.2 (by omega)
          have hx2 : ((x : Int) != 0) = true := by rw [bne, hx1]; rfl
          have hand : bits .and .u64 (x : Int) (IntKind.u64.wrap ((x : Int) - 1)) = ((x &&& (x - 1) : Nat) : Int) := by
            have e : IntKind.u64.wrap ((x : Int) - 1) = ((x - 1 : Nat) : Int) := by rw [IntKind.wrap_u64]; omega
            rw [e]; exact u64_and_nat _ _ hx64 (by omega)
          have hand2 : bits .and .u64 (x : Int) ((x : Int) - 1) = ((x &&& (x - 1) : Nat) : Int) := by
            have e : (x : Int) - 1 = ((x - 1 : Nat) : Int) := by omega
            rw [e]; exact u64_and_nat _ _ hx64 (by omega)
          have hx3 : 1 ≤ x := by omega
          generalize Lib.ctz 64 x = c at *
          have he : ((64 * k + c : Nat) : Int) = 64 * (k : Int) + (c : Int) := by omega
          rw [he] at hy
          clear hx hr2 hst2 he
          gi_wp2
          refine ⟨trivial, (callsIn_wide.2 (htz.out _ (Below.refl _ _))).mono ?_⟩
          rintro e w' ⟨rfl, rfl⟩
          gi_wp2
          refine hRo.mono ?_
          rintro e W3 (⟨rfl, hJ3, hk3⟩ | ⟨rfl, hJx3⟩)
          · have HJ3 := Lib.hid hJ3
            have HK3 := Lib.hid hk3
            clear hJ3 hk3
            gi_wp2
            go_roundw
            case rel => exact ⟨x &&& (x - 1), pre ++ [64 * k + c], rest2, rfl, by first | (show True; trivial) | (rw [hpr.out, HR2.out]; simp; done) | (show _ = _; rw [hpr.out, HR2.out, List.append_assoc]; rfl), HS2.out, fun y hy => by
              rw [List.mem_append, List.mem_singleton] at hy
              rcases hy with hy | rfl
              · exact hpe.out y hy
              · omega, HJ3.out, hKt hB.out HK3.out⟩
            case measure => simp [intOf]; omega
          · have HJ3 := Lib.hid hJx3
            clear hJx3
            gi_wp2
            refine bodyPost_ret (results_none rfl _ _ _) rfl ?_
            exact ⟨⟨_, rfl⟩, .inr ⟨pre ++ [64 * k + c], ⟨rest2, by rw [hpr.out, HR2.out]; simp⟩, HJ3.out⟩⟩
    · have hkl : k = len := by omega
      have hnil : rest = [] := by
        cases rest with
        | nil => rfl
        | cons y r =>
          have h1 := hre.out y (by simp)
          have h2 := (HR.out.mem_iff y).1 (by rw [hpr.out]; simp)
          rw [mem_out (by rw [HLEN.out]; omega)] at h2; cases h2
      have hl : Hid (pre = l) := by show _ = _; rw [hpr.out, hnil, List.append_nil]
      clear hnil hkl
      gi_wp2
      go_end0
      exact ⟨⟨_, rfl⟩, .inl ⟨_, hl.out, hJ.out⟩⟩

/-- All hands back an iterator over the members, each below 4096; the body may write what the iterator does not read. -/
theorem all_stopsK (n : Nat) (hn : 1 ≤ n) (Bq n₀ : Nat) (a : Option Addr) (len cap : Nat) (l : List Nat) (w : World) (hBs : Bq < w.heap.size) (hn₀ : n₀ ≤ w.heap.size) (hT : Tzn n₀ w)
    (hc : w.cell? ⟨Bq, 0, none⟩ = some (.slice a len cap)) (hI : Bs w a len cap l) (K : World → World → Prop) (hKr : ∀ A, K A A) (hKt : ∀ {A B C}, K A B → K B C → K A C) (hKT : ∀ {A B}, K A B → Tzn n₀ A → Tzn n₀ B) (hKc : ∀ p, a = some p → ∀ {A B}, K A B → ∀ j, A.cell? ⟨p.block, j, none⟩ = B.cell? ⟨p.block, j, none⟩) :
    SeqStopsK Fence.wide n Tryz.prog 100 #[.pointer (some ⟨Bq, 0, none⟩)] (fun x : {x : Nat // x < 4096} => #[Value.int .i64 ((x.1 : Nat) : Int)]) K (fun ys => ys.map (·.1) = l) (fun pre => pre.map (·.1) <+: l) l.length w := fun lk J Jx W hW _ _ hY h0 => by
  have hc' := (hW.cell (p := ⟨Bq, 0, none⟩) hBs).trans hc
  have hT' := hT.below (hW.mono hn₀)
  obtain ⟨ws, ⟨h1, h2, h3, ⟨rfl, rfl, rfl⟩ | ⟨b, o, rfl, ⟨hb, -⟩, hcs⟩⟩, hr⟩ := hI
  · have hl : l = [] := none_words hr (fun j hj => by omega)
    exact (all1_nil_in n lk Bq (fun _ W => J [] W) W hc' h0).mono fun e W' ⟨he, hj⟩ => ⟨he, .inl ⟨[], by rw [hl]; rfl, hj⟩⟩
  · refine (all1_inK n hn lk Bq n₀ b o len cap ws l hr h1 K hKr hKt hKT (fun h j => hKc _ rfl h j) (fun pre W => ∃ pre', pre'.map (·.1) = pre ∧ J pre' W) (fun pre W => ∃ pre', pre'.map (·.1) = pre ∧ Jx pre' W) ?_ W hT' hc' (fun j hj => (hW.cell (p := ⟨b, o + j, none⟩) hb).trans (hcs j hj)) ⟨[], rfl, h0⟩).mono ?_
    · rintro pre x W ⟨pre', rfl, hj⟩ hlen ⟨t, ht⟩
      have hx : x < 4096 := hr.asc.2 x (by rw [← ht]; simp)
      have hy := hY pre' ⟨x, hx⟩ W hj (by simpa using hlen)
      obtain ⟨fn, tmps, assign, body, hy1, hy2⟩ := hy
      refine ⟨fn, tmps, assign, body, hy1, hy2.mono ?_⟩
      rintro e W' (⟨he, hJ, hb⟩ | ⟨he, hJ⟩)
      · exact .inl ⟨he, ⟨_, by simp, hJ⟩, hb⟩
      · exact .inr ⟨he, _, by simp, hJ⟩
    · rintro e W' ⟨he, ⟨ys, rfl, pre', hp, hj⟩ | ⟨pre, hpre, pre', hp, hj⟩⟩
      · exact ⟨he, .inl ⟨_, hp, hj⟩⟩
      · exact ⟨he, .inr ⟨_, by simpa [hp] using hpre, hj⟩⟩

/-- Blocks below B, but for p and q, are as they were. -/
structure But (B p q : Nat) (w w' : World) : Prop where
  os : w'.os = w.os
  tape : w'.tape = w.tape
  output : w'.output = w.output
  size : w.heap.size ≤ w'.heap.size
  block : ∀ k, k < B → k ≠ p → k ≠ q → w'.heap[k]? = w.heap[k]?
theorem But.refl (B p q : Nat) (w : World) : But B p q w w := ⟨rfl, rfl, rfl, Nat.le_refl _, fun _ _ _ _ => rfl⟩
theorem But.trans {B p q : Nat} {a b c : World} (h : But B p q a b) (k : But B p q b c) : But B p q a c :=
  ⟨k.os.trans h.os, k.tape.trans h.tape, k.output.trans h.output, Nat.le_trans h.size k.size, fun i hi h1 h2 => (k.block i hi h1 h2).trans (h.block i hi h1 h2)⟩
theorem But.of {B p q : Nat} {w w' : World} (h : Below B w w') : But B p q w w' := ⟨h.os, h.tape, h.output, h.size, fun k hk _ _ => h.block k hk⟩
theorem But.below {B p q N : Nat} {w w' : World} (h : But B p q w w') (hN : N ≤ B) (hp : N ≤ p) (hq : N ≤ q) : Below N w w' := ⟨h.os, h.tape, h.output, h.size, fun k hk => h.block k (by omega) (by omega) (by omega)⟩
theorem But.set {B p q : Nat} {w : World} (a : Addr) (v : Value) (h : a.block = p ∨ a.block = q ∨ B ≤ a.block) : But B p q w (w.setCell a v) :=
  ⟨rfl, rfl, rfl, by simp, fun k hk h1 h2 => Below.heap_setCell _ _ _ k (by rcases h with h | h | h <;> omega)⟩
theorem But.cell {B p q : Nat} {w w' : World} (h : But B p q w w') {k j : Nat} (hk : k < B) (h1 : k ≠ p) (h2 : k ≠ q) : w'.cell? ⟨k, j, none⟩ = w.cell? ⟨k, j, none⟩ := by
  unfold World.cell?; rw [h.block k hk h1 h2]
theorem But.tzn {B p q : Nat} {w w' : World} (h : But B p q w w') (hp : 1 ≠ p) (hq : 1 ≠ q) (hT : Tzn B w) : Tzn B w' :=
  ⟨hT.1, fun j hj => (h.cell hT.1 hp hq).trans (hT.2 j hj)⟩
theorem But.putObj {B p q : Nat} {W : World} (l : Nat) (o o' : Obj) (hl : B ≤ l) : But B p q W (W.putObj l o') :=
  ⟨rfl, rfl, rfl, by simp [World.putObj], fun k hk _ _ => World.putObj_heap_other (by omega)⟩
end Go.Proofs.YtadomogbakcokaaGreatDoor
end

section
/- Contract: Minus (its loop over a function). What the loop keeps. -/
namespace Go.Proofs.YtadomogbakcokaaGreatDoor
open Go.RowKit Go.PlainAid Go.Shelf
attribute [local go_sem] Oper.semAt_some
set_option linter.unusedVariables false
set_option linter.unusedSimpArgs false
set_option maxHeartbeats 4000000

theorem wp_append_co {w : World} {o : Oper} {a : Act} {K : Act → World → Prop} {Q : Exit → Act → World → Prop} (s x : Operand)
    (ho : o.op = .call { callee := .builtin .append, args := #[s, x], argTypes := #[41, 41] }) (base : Nat)
    (v : Value) (l : List Cu) (hs : a.eval s = v) (hown : Co w base v l) (ad : Option Addr) (m c : Nat) (r : List Cu) (hx : a.eval x = .slice ad m c) (h : Cs w ad m c r) (hb : l.length + m ≤ 1000000000) (hbase : base ≤ w.heap.size)
    (hK : ∀ v' w', Co w' base v' (l ++ r) → w.grownBy w' v.ownBlock → K (a.put o.dst v') w') : Oper.wp Tryz.prog o a w K Q := by
  obtain ⟨i0, hi, hz0, hz1, hz2⟩ := info_parts infoCube
  have hnt := hown.ntyp
  obtain ⟨hh, h1, h2⟩ := hown
  obtain ⟨ks, k1, k2⟩ := h
  obtain ⟨v', w', hr, h3, h4⟩ := run_append_dk w base 41 34 o.type Tryz.underlying41 i0 _ 48 hi hz0 hz1 hz2 rfl (by decide) (by decide) v hh h1 ad m c ks k1 (by rw [h2.1]; exact hb) hbase
  unfold Oper.wp
  simp [execOp, ho, resolve, invoke, builtin, hs, hx, hr, Result.andThen]
  exact hK _ _ ⟨_, h3, (h2.append k2).grown h4 hnt⟩ h4

theorem cell_of2 {W : World} {g : Nat} {x y : Value} {T : TypeId} (h : W.heap[g]? = some (.cells #[x, y] T (0, 0))) : W.cell? ⟨g, 0, none⟩ = some x ∧ W.cell? ⟨g, 1, none⟩ = some y ∧ ∀ j, W.frozen? ⟨g, j, none⟩ = false := by
  refine ⟨?_, ?_, fun j => ?_⟩
  · simp [World.cell?, h]
  · simp [World.cell?, h]
  · simp [World.frozen?, h]
theorem heap_set2 {W : World} {g : Nat} {x y : Value} {T : TypeId} (h : W.heap[g]? = some (.cells #[x, y] T (0, 0))) (u : Value) : (W.setCell ⟨g, 0, none⟩ u).heap[g]? = some (.cells #[u, y] T (0, 0)) ∧ (W.setCell ⟨g, 1, none⟩ u).heap[g]? = some (.cells #[x, u] T (0, 0)) := by
  constructor
  · show (W.heap.modify g _)[g]? = _
    rw [Array.getElem?_modify, if_pos rfl, h]; rfl
  · show (W.heap.modify g _)[g]? = _
    rw [Array.getElem?_modify, if_pos rfl, h]; rfl

/-- What the loop of Minus has in memory: the cube a (its literals s), the cube b (y), the cubes so far. -/
def MJ (N A T7 : Nat) (a : Option Addr) (n c : Nat) (b : Option Addr) (m d : Nat) (b1 : Option Addr) (n1 c1 : Nat) (b2 : Option Addr) (n2 c2 : Nat) (v : Value) (s y : Cu) (out : List Cu) (W : World) : Prop :=
  W.heap[A]? = some (.cells #[.slice a n c, .slice b m d] 34 (0, 0)) ∧ W.heap[A + 1]? = some (.cells #[.slice b1 n1 c1, .slice b2 n2 c2] 34 (0, 0)) ∧ Boxed W T7 41 v ∧
  Cb W ⟨a, n, c, b, m, d⟩ s ∧ Cb W ⟨b1, n1, c1, b2, n2, c2⟩ y ∧ Co W N v out ∧ A + 1 < T7 ∧ T7 < N ∧ N ≤ W.heap.size
section
variable {N A T7 : Nat} {a : Option Addr} {n c : Nat} {b : Option Addr} {m d : Nat} {b1 : Option Addr} {n1 c1 : Nat} {b2 : Option Addr} {n2 c2 : Nat} {v : Value} {s y : Cu} {out : List Cu} {W W' : World}
theorem MJ.below (h : MJ N A T7 a n c b m d b1 n1 c1 b2 n2 c2 v s y out W) (hb : Below W.heap.size W W') : MJ N A T7 a n c b m d b1 n1 c1 b2 n2 c2 v s y out W' := by
  obtain ⟨h1, h2, h3, h4, h5, h6, h7, h8, h9⟩ := h
  exact ⟨(hb.block A (by omega)).trans h1, (hb.block (A + 1) (by omega)).trans h2, (hb.block T7 (by omega)).trans h3, h4.below hb, h5.below hb, h6.below hb, h7, h8, Nat.le_trans h9 hb.size⟩
theorem MJ.cells (h : MJ N A T7 a n c b m d b1 n1 c1 b2 n2 c2 v s y out W) : (W.cell? ⟨A, 0, none⟩ = some (.slice a n c) ∧ W.cell? ⟨A, 1, none⟩ = some (.slice b m d)) ∧ W.cell? ⟨A + 1, 0, none⟩ = some (.slice b1 n1 c1) ∧ W.cell? ⟨A + 1, 1, none⟩ = some (.slice b2 n2 c2) ∧ W.cell? ⟨T7, 0, none⟩ = some v ∧ W.frozen? ⟨A, 0, none⟩ = false ∧ W.frozen? ⟨A, 1, none⟩ = false ∧ W.frozen? ⟨T7, 0, none⟩ = false := by
  obtain ⟨h1, h2, h3, h4, h5, h6, h7, h8, h9⟩ := h
  obtain ⟨a1, a2, a3⟩ := cell_of2 h1
  obtain ⟨e1, e2, e3⟩ := cell_of2 h2
  exact ⟨⟨a1, a2⟩, e1, e2, h3.cell, a3 0, a3 1, h3.frozen⟩
theorem MJ.kept {row : Option Nat} (h : MJ N A T7 a n c b m d b1 n1 c1 b2 n2 c2 v s y out W) (hg : W.grownBy W' row) (hr : ∀ r, row = some r → ∃ o : Obj, W.heap[r]? = some o ∧ o.isCells = false) : MJ N A T7 a n c b m d b1 n1 c1 b2 n2 c2 v s y out W' := by
  obtain ⟨h1, h2, h3, h4, h5, h6, h7, h8, h9⟩ := h
  have hne : ∀ (k : Nat) cs T fz, W.heap[k]? = some (.cells cs T fz) → some k ≠ row := fun k cs T fz hk e => by
    obtain ⟨o, ho, hc⟩ := hr k e.symm
    rw [hk] at ho; cases ho; cases hc
  have hnt : ∀ r, row = some r → ¬ ∃ cs fz, W.heap[r]? = some (.cells cs 23 fz) := by
    rintro r e ⟨cs, fz, hk⟩
    exact hne r _ _ _ hk e.symm
  refine ⟨(hg.block A (by omega) (hne _ _ _ _ h1)).trans h1, (hg.block (A + 1) (by omega) (hne _ _ _ _ h2)).trans h2, (hg.block T7 (by omega) (hne _ _ _ _ h3)).trans h3, h4.grown hg hnt, h5.grown hg hnt, ?_, h7, h8, Nat.le_trans h9 hg.size⟩
  obtain ⟨hs, k1, k2⟩ := h6
  refine ⟨hs, World.ownsRow.kept k1 hg ?_, k2.grown hg hnt⟩
  cases hv : v.ownBlock with
  | none => exact .inl rfl
  | some g =>
    refine .inr fun e => ?_
    rcases k1.2 with ⟨rfl, _⟩ | ⟨g', cap', cur, rfl, _, hh, _⟩
    · cases hv
    · simp only [Value.ownBlock, Option.some.injEq] at hv
      subst hv
      exact hne _ _ _ _ hh e
theorem MJ.mid (h : MJ N A T7 a n c b m d b1 n1 c1 b2 n2 c2 v s y out W) (hg : W.grownBy W' v.ownBlock) : (W'.cell? ⟨A, 0, none⟩ = some (.slice a n c) ∧ W'.cell? ⟨A, 1, none⟩ = some (.slice b m d)) ∧ W'.cell? ⟨T7, 0, none⟩ = some v ∧ W'.frozen? ⟨T7, 0, none⟩ = false := by
  obtain ⟨h1, h2, h3, h4, h5, h6, h7, h8, h9⟩ := h
  have hlt := h6.lt
  have hne : ∀ k, k < N → some k ≠ v.ownBlock := fun k hk e => by have := (hlt k e.symm).1; omega
  obtain ⟨a1, a2, a3⟩ := cell_of2 ((hg.block A (by omega) (hne A (by omega))).trans h1)
  have hB : Boxed W' T7 _ v := (hg.block T7 (by omega) (hne T7 (by omega))).trans h3
  exact ⟨⟨a1, a2⟩, hB.cell, hB.frozen⟩
theorem co_set {W : World} {N g j : Nat} {v u x : Value} {l : List Cu} (h : Co W N v l) (hg : g < N) (hx : W.cell? ⟨g, j, none⟩ = some x) (hv : ∀ z : Int, x ≠ .int .u64 z) : Co (W.setCell ⟨g, j, none⟩ u) N v l := by
  obtain ⟨hs, k1, k2⟩ := h
  refine ⟨hs, owns_set k1 (fun b hb e => ?_) u, k2.1, fun j k x h1 h2 => ?_⟩
  · have := (World.ownsRow.lt k1 b hb).1
    dsimp only at e; omega
  · have := k2.2 j k x h1 h2
    exact ⟨this.1.set hx hv, this.2.set hx hv⟩
theorem MJ.append {v' : Value} {out' : List Cu} (h : MJ N A T7 a n c b m d b1 n1 c1 b2 n2 c2 v s y out W) (hg : W.grownBy W' v.ownBlock) (h' : Co W' N v' out') (hv : ∃ z k l, v = .slice z k l) :
    MJ N A T7 a n c b m d b1 n1 c1 b2 n2 c2 v' s y out' (W'.setCell ⟨T7, 0, none⟩ v') := by
  have hm := h.mid hg
  obtain ⟨h1, h2, h3, h4, h5, h6, h7, h8, h9⟩ := h
  have hlt := h6.lt
  have hne : ∀ k, k < N → some k ≠ v.ownBlock := fun k hk e => by have := (hlt k e.symm).1; omega
  have hB : Boxed W' T7 _ v := (hg.block T7 (by omega) (hne T7 (by omega))).trans h3
  obtain ⟨z, k, l, rfl⟩ := hv
  have hs : ∀ x : Int, (Value.slice z k l) ≠ .int .u64 x := fun x e => by cases e
  have e4 := h4.grown hg h6.ntyp
  have e5 := h5.grown hg h6.ntyp
  refine ⟨(Below.heap_setCell _ _ _ A (by dsimp only; omega)).trans ((hg.block A (by omega) (hne A (by omega))).trans h1), (Below.heap_setCell _ _ _ (A + 1) (by dsimp only; omega)).trans ((hg.block (A + 1) (by omega) (hne _ (by omega))).trans h2), hB.set v',
    ⟨e4.1.set hm.2.1 hs, e4.2.set hm.2.1 hs⟩, ⟨e5.1.set hm.2.1 hs, e5.2.set hm.2.1 hs⟩, co_set h' h8 hm.2.1 hs, h7, h8, by have := hg.size; simp; omega⟩
theorem MJ.set1 {a' : Option Addr} {n' c' : Nat} {l : List Nat} (h : MJ N A T7 a n c b m d b1 n1 c1 b2 n2 c2 v s y out W) (hl : Bs W a' n' c' l) :
    MJ N A T7 a' n' c' b m d b1 n1 c1 b2 n2 c2 v (l, s.2) y out (W.setCell ⟨A, 0, none⟩ (.slice a' n' c')) := by
  obtain ⟨⟨x0, x1⟩, -, -, x4, -⟩ := h.cells
  obtain ⟨h1, h2, h3, h4, h5, h6, h7, h8, h9⟩ := h
  have hs : ∀ x : Int, (Value.slice a n c) ≠ .int .u64 x := fun x e => by cases e
  exact ⟨(heap_set2 h1 _).1, (Below.heap_setCell _ _ _ (A + 1) (by dsimp only; omega)).trans h2, (Below.heap_setCell _ _ _ T7 (by dsimp only; omega)).trans h3,
    ⟨hl.set x0 hs, h4.2.set x0 hs⟩, ⟨h5.1.set x0 hs, h5.2.set x0 hs⟩, co_set h6 (by omega) x0 hs, h7, h8, by simpa using h9⟩
theorem MJ.set2 {a' : Option Addr} {n' c' : Nat} {l : List Nat} (h : MJ N A T7 a n c b m d b1 n1 c1 b2 n2 c2 v s y out W) (hl : Bs W a' n' c' l) :
    MJ N A T7 a n c a' n' c' b1 n1 c1 b2 n2 c2 v (s.1, l) y out (W.setCell ⟨A, 1, none⟩ (.slice a' n' c')) := by
  obtain ⟨⟨x0, x1⟩, -, -, x4, -⟩ := h.cells
  obtain ⟨h1, h2, h3, h4, h5, h6, h7, h8, h9⟩ := h
  have hs : ∀ x : Int, (Value.slice b m d) ≠ .int .u64 x := fun x e => by cases e
  exact ⟨(heap_set2 h1 _).2, (Below.heap_setCell _ _ _ (A + 1) (by dsimp only; omega)).trans h2, (Below.heap_setCell _ _ _ T7 (by dsimp only; omega)).trans h3,
    ⟨h4.1.set x1 hs, hl.set x1 hs⟩, ⟨h5.1.set x1 hs, h5.2.set x1 hs⟩, co_set h6 (by omega) x1 hs, h7, h8, by simpa using h9⟩
end
/-- The state of the loop behind the numbers pre. -/
def MState (N A T7 : Nat) (w4 : World) (b1 : Option Addr) (n1 c1 : Nat) (b2 : Option Addr) (n2 c2 : Nat) (y : Cu) (st : Cu × List Cu) (W : World) : Prop :=
  ∃ a n c b m d v, MJ N A T7 a n c b m d b1 n1 c1 b2 n2 c2 v st.1 y st.2 W ∧ But N A T7 w4 W
theorem MState.own {N A T7 : Nat} {w4 : World} {b1 : Option Addr} {n1 c1 : Nat} {b2 : Option Addr} {n2 c2 : Nat} {y : Cu} (f : List M4 → Cu × List Cu) :
    OwnFrom N (fun (pre : List M4) W => MState N A T7 w4 b1 n1 c1 b2 n2 c2 y (f pre) W) := by
  intro pre W W' row hs hg hr
  obtain ⟨a, n, c, b, m, d, v, h, hb⟩ := hs
  refine ⟨a, n, c, b, m, d, v, h.kept hg (fun r e => ⟨(hr r e).2.choose, (hr r e).2.choose_spec⟩), hb.trans ⟨hg.os, hg.tape, hg.output, hg.size, fun k hk h1 h2 => hg.block k (by have := h.2.2.2.2.2.2.2.2; omega) (fun e => by have := (hr k e.symm).1; omega)⟩⟩
end Go.Proofs.YtadomogbakcokaaGreatDoor
end

section
/- A region that asks the tape, inside a round of a loop over a function: what is shown of it by the plain laws holds there too. -/
namespace Go.Proofs.YtadomogbakcokaaGreatDoor
open Go
set_option linter.unusedVariables false

def noDefer (ops : Array Oper) : Bool := ops.toList.all fun o => match o.op with | .defer _ => false | _ => true
theorem noDefer_spec {ops : Array Oper} (h : noDefer ops = true) {i : Nat} {o : Oper} (ho : ops[i]? = some o) : ∀ c, o.op ≠ .defer c := by
  intro c e
  unfold noDefer at h
  rw [List.all_eq_true] at h
  have := h o (by
    have := Array.mem_of_getElem? ho
    simpa using this)
  rw [e] at this; cases this
theorem rowsIn_round {P : Program} {lk n : Nat} {row : String} {args : Array Value} {w : World} {R : Value → World → Prop} (h : Rows P row args w R) : RowsIn (Fence.wide.inRound lk) n P row args w R :=
  fun c cs _ => let ⟨v, w', r, s⟩ := h c cs; ⟨v, w', r, (stepsIn_wide (P := P)).2 s⟩
theorem uponIn_round {P : Program} {lk n : Nat} {o : Oper} {a : Act} {K K' : Act → World → Prop} {Q : Exit → Act → World → Prop} (hK : ∀ a w, K a w → K' a w) (r : Result Next) (h : o.upon P a K Q r) : o.uponIn (Fence.wide.inRound lk) n P a K' Q r := by
  cases r with
  | ok x w' =>
    cases x with
    | value v => exact hK _ _ h
    | skip => exact hK _ _ h
    | defer d => exact hK _ _ h
    | enter f args =>
      refine ⟨fun hd => (by cases hd), ?_⟩
      have h' : Calls P f args w' _ := h
      refine (CallsIn.inRound lk (callsIn_wide.2 h')).mono ?_
      intro e w'' he
      cases e with
      | returned v => exact hK _ _ he
      | panicked chain => exact he
      | outgrown => exact he
    | row row args =>
      refine ⟨fun hd => (by cases hd), ?_⟩
      have h' : Rows P row args w' _ := h
      exact (rowsIn_round h').mono fun _ _ h => hK _ _ h
    | _ => exact False.elim h
  | halt b w' =>
    cases b with
    | panic v => exact h
    | _ => exact False.elim h
theorem wpOpIn_round {P : Program} {lk n : Nat} {ops : Array Oper} {Q : Exit → Act → World → Prop} (hQ : ∀ a w, ¬ Q .outgrown a w) (hd : noDefer ops = true) {i : Nat} {K K' : Act → World → Prop} (hK : ∀ a w, K a w → K' a w) {a : Act} {w : World}
    (h : wpOp P ops Q i K a w) : wpOpIn (Fence.wide.inRound lk) n P ops Q i K' a w := by
  unfold wpOp at h
  unfold wpOpIn
  cases ho : ops[i]? with
  | none =>
    rw [ho] at h
    exact hK _ _ h
  | some o =>
    rw [ho] at h
    dsimp only at h ⊢
    split
    · rename_i hw
      rw [if_pos hw] at h
      rcases h with h | ⟨_, a', w', ho⟩
      · refine ⟨fun f _ => trivial, ?_⟩
        rw [Oper.semAt_eq _ _ _ (noDefer_spec hd ho)]
        exact uponIn_round hK _ h
      · exact absurd ho (hQ _ _)
    · rename_i hw
      rw [if_neg hw] at h
      exact ⟨fun f _ => trivial, hK _ _ h⟩
theorem wpAnyIn_round {P : Program} {lk n : Nat} {ops : Array Oper} {Q : Exit → Act → World → Prop} (hQ : ∀ a w, ¬ Q .outgrown a w) (hd : noDefer ops = true) :
    ∀ (fuel : Nat) (listed : Array Bool) (a : Act) (w : World), wpAny P .any ops Q fuel listed a w → wpAnyIn (Fence.wide.inRound lk) n P .any ops Q fuel listed a w
  | 0, _, _, _, h => h
  | fuel + 1, _, _, _, h => ⟨h.1, fun i hi => wpOpIn_round hQ hd (fun a' w' h' => wpAnyIn_round hQ hd fuel _ a' w' h') (h.2 i hi)⟩
/-- The region, inside a round. -/
theorem wpIn_region_round {P : Program} {S : World → Prop} {lk n id : Nat} {ops : Array Oper} {Q : Exit → Act → World → Prop} {a : Act} {w : World} (hm : P.follows .mixedOrders = true) (hd : noDefer ops = true) (hQ : ∀ a w, ¬ Q .outgrown a w) (hS : S w.drew)
    (h : S w.drew → wpAnyH P .any ops (NoPanic Q) S ops.size (Array.replicate ops.size false) a w.drew) : (Code.region id ops true).wpIn (Fence.wide.inRound lk) n P Q a w :=
  wpIn_mono (wpIn_region_any hm (wpAnyIn_round (Q := NoPanic Q) (fun a w h => hQ a w (NoPanic.imp _ _ _ h)) hd _ _ _ _ (wpAny_of_held _ _ _ _ (h hS)))) NoPanic.imp
end Go.Proofs.YtadomogbakcokaaGreatDoor
end
