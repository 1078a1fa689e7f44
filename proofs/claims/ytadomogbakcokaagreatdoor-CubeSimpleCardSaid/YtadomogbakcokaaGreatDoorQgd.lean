/- Several of the texts below, joined: BtI BtJ BtK BtL BtN BtO. -/
import Derived.RangeFuncNested
import Derived.RangeFuncBound
import Derived.RangeFuncCalls
import Derived.RangeFuncLeaves
import Derived.RangeFuncBox
import Derived.RangeFuncWrites
import Derived.Shelf.Abstract
import Derived.Shelf.RegionOpen
import Derived.WalkKit
import Derived.OwnWalkIn
import Derived.TacticsInMore
import Derived.LoopNIn
import Derived.LoopIn
import Derived.Maps.AppendAt
import Derived.Test.YtadomogbakcokaaGreatDoorQgc
import Derived.Lib.Builder
import Derived.Lib.AppendStr
import Derived.Lib.Slices
import Derived.Lib.Walk
import Derived.Laws.Externs
import Derived.Laws.IdiomCopy
import Derived.Lib.OthersKept
import Derived.Lib.AppendIntMem
section
/- Contract: the iterator over the members (All, All$1). -/
namespace Go.Proofs.YtadomogbakcokaaGreatDoor
open Go.RowKit Go.PlainAid Go.Shelf
attribute [local go_sem] Oper.semAt_some
set_option linter.unusedVariables false
set_option linter.unusedSimpArgs false
set_option maxHeartbeats 2000000

/-- x holds the bits of word k of what is still to come. -/
def Bits64 (k x : Nat) (rest : List Nat) : Prop := x < 18446744073709551616 ∧ (∀ j, j < 64 → (x.testBit j = true ↔ 64 * k + j ∈ rest)) ∧ (∀ y ∈ rest, 64 * k ≤ y) ∧ rest.Pairwise (· < ·)
theorem clear_low {x : Nat} (h0 : x ≠ 0) (hx : x < 18446744073709551616) : x &&& (x - 1) < x ∧ ∀ j, (x &&& (x - 1)).testBit j = (x.testBit j && !decide (j = Lib.ctz 64 x)) := by
  obtain ⟨h1, h2, h3⟩ := ctz_spec h0 hx
  generalize Lib.ctz 64 x = c at *
  obtain ⟨m, hm⟩ : ∃ m, x = 2 ^ c * (2 * m + 1) := by
    refine ⟨x / 2 ^ c / 2, ?_⟩
    have a : x % 2 ^ c = 0 := by
      apply Nat.eq_of_testBit_eq
      intro j
      rw [Nat.testBit_mod_two_pow, Nat.zero_testBit]
      by_cases hj : j < c
      · rw [h3 j hj]; simp
      · simp [hj]
    have b : x / 2 ^ c % 2 = 1 := by
      rw [Nat.testBit_eq_decide_div_mod_eq] at h2; simpa using h2
    have d := Nat.div_add_mod x (2 ^ c)
    have e := Nat.div_add_mod (x / 2 ^ c) 2
    rw [a, b] at *
    rw [e]; omega
  have hp : 1 ≤ 2 ^ c := Nat.one_le_two_pow
  have hx1 : x - 1 = 2 ^ c * (2 * m) + (2 ^ c - 1) := by
    rw [hm, Nat.mul_add, Nat.mul_one]; omega
  have hx0 : x = 2 ^ c * (2 * m + 1) + 0 := by rw [hm]; omega
  have key : ∀ j, (x &&& (x - 1)).testBit j = (x.testBit j && !decide (j = c)) := by
    intro j
    rw [Nat.testBit_and]
    have t1 : (x - 1).testBit j = if j < c then (2 ^ c - 1).testBit j else (2 * m).testBit (j - c) := by
      rw [hx1]; exact Nat.testBit_two_pow_mul_add _ (by omega) _
    have t0 : x.testBit j = if j < c then (0 : Nat).testBit j else (2 * m + 1).testBit (j - c) := by
      conv => lhs; rw [hx0]
      exact Nat.testBit_two_pow_mul_add _ (by omega) _
    by_cases hj : j < c
    · rw [h3 j hj]; rfl
    · by_cases hjc : j = c
      · subst hjc
        rw [t1, if_neg (Nat.lt_irrefl _)]; simp
      · rw [t1, if_neg hj, t0, if_neg hj, decide_eq_false hjc]
        obtain ⟨d, hd⟩ : ∃ d, j - c = d + 1 := ⟨j - c - 1, by omega⟩
        rw [hd, Nat.testBit_succ, Nat.testBit_succ, show 2 * m / 2 = m by omega, show (2 * m + 1) / 2 = m by omega]
        simp
  refine ⟨?_, key⟩
  have hle : x &&& (x - 1) ≤ x - 1 := Nat.and_le_right
  omega
theorem Bits64.next {k x : Nat} {rest : List Nat} (h : Bits64 k x rest) (h0 : x ≠ 0) : ∃ rest', rest = (64 * k + Lib.ctz 64 x) :: rest' ∧ Bits64 k (x &&& (x - 1)) rest' ∧ x &&& (x - 1) < x := by
  obtain ⟨hx, h1, h2, h3⟩ := h
  obtain ⟨c1, c2, c3⟩ := ctz_spec h0 hx
  obtain ⟨l1, l2⟩ := clear_low h0 hx
  generalize Lib.ctz 64 x = c at *
  have hm : 64 * k + c ∈ rest := (h1 c c1).1 c2
  match rest, h2, h3, hm, h1 with
  | [], _, _, hm, _ => simp at hm
  | y :: r, h2, h3, hm, h1 =>
    obtain ⟨p1, p2⟩ := List.pairwise_cons.1 h3
    have hy : y = 64 * k + c := by
      simp only [List.mem_cons] at hm
      rcases hm with hm | hm
      · exact hm.symm
      · have e1 := p1 _ hm
        have e2 := h2 y (by simp)
        have e3 := (h1 (y - 64 * k) (by omega)).2 (by rw [show 64 * k + (y - 64 * k) = y by omega]; simp)
        rw [c3 (y - 64 * k) (by omega)] at e3; cases e3
    refine ⟨r, by rw [hy], ⟨by omega, fun j hj => ?_, fun z hz => h2 z (by simp [hz]), p2⟩, l1⟩
    rw [l2 j, Bool.and_eq_true, h1 j hj, Bool.not_eq_true', decide_eq_false_iff_not, List.mem_cons]
    constructor
    · rintro ⟨a | a, b⟩
      · exact absurd (by omega) b
      · exact a
    · intro a
      have := p1 _ a
      exact ⟨.inr a, by omega⟩
theorem Bits64.done {k x : Nat} {rest : List Nat} (h : Bits64 k x rest) (h0 : x = 0) : ∀ y ∈ rest, 64 * (k + 1) ≤ y := by
  intro y hy
  have h1 := h.2.2.1 y hy
  by_cases hc : 64 * (k + 1) ≤ y
  · exact hc
  · have := (h.2.1 (y - 64 * k) (by omega)).2 (by rw [show 64 * k + (y - 64 * k) = y by omega]; exact hy)
    rw [h0, Nat.zero_testBit] at this; cases this
theorem Bits64.start {ws l pre rest : List Nat} {k : Nat} (h : Rp ws l) (hl : l = pre ++ rest) (hr : ∀ y ∈ rest, 64 * k ≤ y) (hp : ∀ y ∈ pre, y < 64 * k) : Bits64 k (wd ws k) rest := by
  have hpw := h.asc.1
  rw [hl, List.pairwise_append] at hpw
  refine ⟨wd_lt h.1 k, fun j hj => ?_, hr, hpw.2.1⟩
  rw [← mem_at ws k j hj, ← h.mem_iff, hl, List.mem_append]
  constructor
  · rintro (a | a)
    · have := hp _ a; omega
    · exact a
  · intro a; exact .inr a

def Tzn (n₀ : Nat) (w : World) : Prop := 1 < n₀ ∧ ∀ j, j < Lib.deBruijn64tab.length → w.cell? ⟨1, j, none⟩ = some (.int .u8 (Lib.deBruijn64tab.getD j 0))
theorem Tzn.below {n₀ : Nat} {w w' : World} (h : Tzn n₀ w) (hb : Below n₀ w w') : Tzn n₀ w' := ⟨h.1, fun j hj => (hb.cell (p := ⟨_, j, none⟩) h.1).trans (h.2 j hj)⟩
theorem tzn_any (x : Nat) (hx0 : x ≠ 0) (hx : x < 18446744073709551616) (n₀ : Nat) (w : World) (hT : Tzn n₀ w) :
    Calls Tryz.prog 93 #[.int .u64 x] w fun e w' => e = .returned (.int .i64 (Lib.ctz 64 x)) ∧ w' = w := by
  obtain ⟨hlow, hk⟩ := Lib.lowest_bit 64 x hx0 hx
  obtain ⟨hi, htab⟩ := Lib.deBruijn64_at _ hk
  have hcell := hT.2 _ hi
  rw [htab] at hcell
  exact tz_core x _ _ w (by simp; omega) (Go.Proofs.tz64_key x _ hx hx0 hlow) hi hk hcell

set_option maxRecDepth 100000 in
theorem all1_in (n : Nat) (hn : 1 ≤ n) (lk Bq n₀ b off len cap : Nat) (ws l : List Nat) (hr : Rp ws l) (hlen : ws.length = len) (hb : b < n₀) (J Jx : List Nat → World → Prop)
    (hY : ∀ pre x W, J pre W → pre.length < l.length → pre ++ [x] <+: l → YieldAt Fence.wide (n - 1) Tryz.prog lk #[.int .i64 ((x : Nat) : Int)] W fun e W' =>
      (e = .returned (.bool true) ∧ J (pre ++ [x]) W' ∧ Below n₀ W W') ∨ (e = .returned (.bool false) ∧ Jx (pre ++ [x]) W'))
    (W : World) (hT : Tzn n₀ W) (hBs : W.cell? ⟨Bq, 0, none⟩ = some (.slice (some ⟨b, off, none⟩) len cap)) (hc : ∀ j, j < len → W.cell? ⟨b, off + j, none⟩ = some (.int .u64 (wd ws j : Nat))) (h0 : J [] W) :
    CallsIn Fence.wide n Tryz.prog 100 #[.func (.yield lk) #[] #[], .pointer (some ⟨Bq, 0, none⟩)] W fun e W' => (∃ v, e = .returned v) ∧
      ((∃ ys, ys = l ∧ J ys W') ∨ (∃ pre, pre <+: l ∧ Jx pre W')) := by
  have hl64 := hr.2.2.1
  rw [hlen] at hl64
  refine callsIn_of_wp Tryz.func100 rfl trivial ?_ rfl
  simp only [Tryz.ntmps100, List.size_toArray, List.length_cons, List.length_nil, Nat.reduceAdd, Nat.reduceSub, Array.replicate_succ, Array.replicate_zero, List.push_toArray, List.append_toArray, List.nil_append, List.cons_append]
  have HY := Lib.hid hY
  have HC := Lib.hid hc
  have HR := Lib.hid hr
  have HT := Lib.hid hT
  have H0 := Lib.hid h0
  have HLEN := Lib.hid hlen
  clear hY hc hr hT h0 hlen
  gi_wp2
  gi_loopw [8] (fun i wr => ∃ (k : Nat) (pre rest : List Nat), k ≤ len ∧ i = .int .i64 k ∧ Hid (l = pre ++ rest) ∧ Hid (∀ y ∈ rest, 64 * k ≤ y) ∧ Hid (∀ y ∈ pre, y < 64 * k) ∧ Hid (J pre wr) ∧ Hid (Below n₀ W wr)) (fun i _ => len - (intOf i).toNat)
  case atStart => exact ⟨0, [], l, Nat.zero_le _, rfl, rfl, fun y _ => by omega, fun y hy => by simp at hy, H0.out, Below.refl _ _⟩
  case round =>
    obtain ⟨k, pre, rest, hk, rfl, hpr, hre, hpe, hJ, hB⟩ := hrel
    by_cases hlt : k < len
    · have c1 := (hB.out.cell (p := ⟨b, off + k, none⟩) hb).trans (HC.out k hlt)
      have hst := Lib.hid (Bits64.start HR.out hpr.out hre.out hpe.out)
      obtain ⟨x0, hx0⟩ : ∃ x0, x0 = wd ws k := ⟨_, rfl⟩
      rw [← hx0] at c1 hst
      clear hx0
      obtain ⟨wo, rfl⟩ : ∃ wo : World, wo = wr := ⟨_, rfl⟩
      gi_wp2
      gi_loopw [4] (fun v wr => ∃ (x : Nat) (pre rest : List Nat), v = .int .u64 x ∧ Hid (l = pre ++ rest) ∧ Hid (Bits64 k x rest) ∧ Hid (∀ y ∈ pre, y < 64 * (k + 1)) ∧ Hid (J pre wr) ∧ Hid (Below n₀ W wr)) (fun v _ => (intOf v).toNat)
      case atStart => exact ⟨x0, pre, rest, rfl, hpr.out, hst.out, fun y hy => by have := hpe.out y hy; omega, hJ.out, hB.out⟩
      case round =>
        clear hst hJ hB hpe hre hpr c1
        obtain ⟨x, pre, rest, rfl, hpr, hst, hpe, hJ, hB⟩ := hrel
        have hx64 := hst.out.1
        by_cases hx : x = 0
        · have HD := Lib.hid (hst.out.done hx)
          subst hx
          gi_wp2
          go_roundw
          case rel => exact ⟨k + 1, pre, rest, by omega, by go_num, hpr.out, HD.out, hpe.out, hJ.out, hB.out⟩
          case measure => simp [intOf]; omega
        · obtain ⟨rest2, hr2, hst2, hlt2⟩ := hst.out.next hx
          have hcz := (ctz_spec hx hx64).1
          have hlen : pre.length < l.length := by rw [hpr.out, hr2]; simp
          obtain ⟨fn, tmps, assign, body, hy, hRo⟩ := HY.out pre (64 * k + Lib.ctz 64 x) wr hJ.out hlen ⟨rest2, by rw [hpr.out, hr2]; simp⟩
          have htz := Lib.hid (fun w' hb => tzn_any x hx hx64 n₀ w' ((HT.out.below hB.out).below hb))
          have HX := Lib.hid hx
          have HR2 := Lib.hid hr2
          have HS2 := Lib.hid hst2
          have hx1 : ((x : Int) == 0) = false := beq_eq_false_iff_ne.2 (by omega)
          have hx2 : ((x : Int) != 0) = true := by rw [bne, hx1]; rfl
          have hand : bits .and .u64 (x : Int) (IntKind.u64.wrap ((x : Int) - 1)) = ((x &&& (x - 1) : Nat) : Int) := by
            have e : IntKind.u64.wrap ((x : Int) - 1) = ((x - 1 : Nat) : Int) := by rw [IntKind.wrap_u64]; omega
            rw [e]; exact u64_and_nat _ _ hx64 (by omega)
          have hand2 : bits .and .u64 (x : Int) ((x : Int) - 1) = ((x &&& (x - 1) : Nat) : Int) := by
            have e : (x : Int) - 1 = ((x - 1 : Nat) : Int) := by omega
            rw [e]; exact u64_and_nat _ _ hx64 (by omega)
          have hx3 : 1 ≤ x := by omega
          generalize Lib.ctz 64 x = c at *
          have he : ((64 * k + c : Nat) : Int) = 64 * (k : Int) + (c : Int) := by omega
          rw [he] at hy
          clear hx hr2 hst2 he
          gi_wp2
          refine ⟨trivial, (callsIn_wide.2 (htz.out _ (Below.refl _ _))).mono ?_⟩
          rintro e w' ⟨rfl, rfl⟩
          gi_wp2
          refine hRo.mono ?_
          rintro e W3 (⟨rfl, hJ3, hk3⟩ | ⟨rfl, hJx3⟩)
          · have HJ3 := Lib.hid hJ3
            have HK3 := Lib.hid hk3
            clear hJ3 hk3
            gi_wp2
            go_roundw
            case rel => exact ⟨x &&& (x - 1), pre ++ [64 * k + c], rest2, rfl, by first | (show True; trivial) | (rw [hpr.out, HR2.out]; simp; done) | (show _ = _; rw [hpr.out, HR2.out, List.append_assoc]; rfl), HS2.out, fun y hy => by
              rw [List.mem_append, List.mem_singleton] at hy
              rcases hy with hy | rfl
              · exact hpe.out y hy
              · omega, HJ3.out, hB.out.trans HK3.out⟩
            case measure => simp [intOf]; omega
          · have HJ3 := Lib.hid hJx3
            clear hJx3
            gi_wp2
            refine bodyPost_ret (results_none rfl _ _ _) rfl ?_
            exact ⟨⟨_, rfl⟩, .inr ⟨pre ++ [64 * k + c], ⟨rest2, by rw [hpr.out, HR2.out]; simp⟩, HJ3.out⟩⟩
    · have hkl : k = len := by omega
      have hnil : rest = [] := by
        cases rest with
        | nil => rfl
        | cons y r =>
          have h1 := hre.out y (by simp)
          have h2 := (HR.out.mem_iff y).1 (by rw [hpr.out]; simp)
          rw [mem_out (by rw [HLEN.out]; omega)] at h2; cases h2
      have hl : Hid (pre = l) := by show _ = _; rw [hpr.out, hnil, List.append_nil]
      clear hnil hkl
      gi_wp2
      go_end0
      exact ⟨⟨_, rfl⟩, .inl ⟨_, hl.out, hJ.out⟩⟩

set_option maxRecDepth 100000 in
theorem all1_nil_in (n : Nat) (lk Bq : Nat) (J : List Nat → World → Prop) (W : World) (hBs : W.cell? ⟨Bq, 0, none⟩ = some (.slice none 0 0)) (h0 : J [] W) :
    CallsIn Fence.wide n Tryz.prog 100 #[.func (.yield lk) #[] #[], .pointer (some ⟨Bq, 0, none⟩)] W fun e W' => (∃ v, e = .returned v) ∧ J [] W' := by
  refine callsIn_of_wp Tryz.func100 rfl trivial ?_ rfl
  simp only [Tryz.ntmps100, List.size_toArray, List.length_cons, List.length_nil, Nat.reduceAdd, Nat.reduceSub, Array.replicate_succ, Array.replicate_zero, List.push_toArray, List.append_toArray, List.nil_append, List.cons_append]
  have H0 := Lib.hid h0
  clear h0
  gi_wp2
  gi_loopw [8] (fun i wr => i = .int .i64 0 ∧ Hid (J [] wr)) (fun _ _ => 0)
  case atStart => exact ⟨rfl, H0.out⟩
  case round =>
    obtain ⟨rfl, hJs⟩ := hrel
    gi_wp2
    go_end0
    exact ⟨⟨_, rfl⟩, hJs.out⟩

theorem all_in (n : Nat) (a : Option Addr) (len cap : Nat) (w : World) :
    CallsIn Fence.wide n Tryz.prog 72 #[.agg #[.slice a len cap]] w fun e w' => e = .returned (.func (.func 100) #[] #[.pointer (some ⟨w.heap.size, 0, none⟩)]) ∧ w' = w.alloc (.cells #[.slice a len cap] 32) := by
  refine callsIn_of_wp Tryz.func72 rfl trivial ?_ rfl
  simp only [Tryz.ntmps72, List.size_toArray, List.length_cons, List.length_nil, Nat.reduceAdd, Nat.reduceSub, Array.replicate_succ, Array.replicate_zero, List.push_toArray, List.append_toArray, List.nil_append, List.cons_append]
  gi_wp2
  go_ret
  exact ⟨rfl, rfl⟩

/-- All hands back an iterator over the members. -/
theorem all_stops (n : Nat) (hn : 1 ≤ n) (Bq n₀ : Nat) (a : Option Addr) (len cap : Nat) (l : List Nat) (w : World) (hBs : Bq < w.heap.size) (hn₀ : n₀ ≤ w.heap.size) (hT : Tzn n₀ w)
    (hc : w.cell? ⟨Bq, 0, none⟩ = some (.slice a len cap)) (hI : Bs w a len cap l) (hblk : ∀ p, a = some p → p.block < n₀) :
    SeqStopsK Fence.wide n Tryz.prog 100 #[.pointer (some ⟨Bq, 0, none⟩)] (fun x : Nat => #[Value.int .i64 ((x : Nat) : Int)]) (Below n₀) (fun ys => ys = l) (fun pre => pre <+: l) l.length w := fun lk J Jx W hW _ _ hY h0 => by
  have hc' := (hW.cell (p := ⟨Bq, 0, none⟩) hBs).trans hc
  have hT' := hT.below (hW.mono hn₀)
  obtain ⟨ws, ⟨h1, h2, h3, ⟨rfl, rfl, rfl⟩ | ⟨b, o, rfl, ⟨hb, -⟩, hcs⟩⟩, hr⟩ := hI
  · have hl : l = [] := none_words hr (fun j hj => by omega)
    exact (all1_nil_in n lk Bq J W hc' h0).mono fun e W' ⟨he, hj⟩ => ⟨he, .inl ⟨[], hl.symm, hj⟩⟩
  · exact all1_in n hn lk Bq n₀ b o len cap ws l hr h1 (hblk _ rfl) J Jx (fun pre x W h1 h2 _ => hY pre x W h1 h2) W hT' hc' (fun j hj => (hW.cell (p := ⟨b, o + j, none⟩) hb).trans (hcs j hj)) h0

/-- All hands back an iterator over the members, each below 4096. -/
theorem all_stops4 (n : Nat) (hn : 1 ≤ n) (Bq n₀ : Nat) (a : Option Addr) (len cap : Nat) (l : List Nat) (w : World) (hBs : Bq < w.heap.size) (hn₀ : n₀ ≤ w.heap.size) (hT : Tzn n₀ w)
    (hc : w.cell? ⟨Bq, 0, none⟩ = some (.slice a len cap)) (hI : Bs w a len cap l) (hblk : ∀ p, a = some p → p.block < n₀) :
    SeqStopsK Fence.wide n Tryz.prog 100 #[.pointer (some ⟨Bq, 0, none⟩)] (fun x : {x : Nat // x < 4096} => #[Value.int .i64 ((x.1 : Nat) : Int)]) (Below n₀) (fun ys => ys.map (·.1) = l) (fun pre => pre.map (·.1) <+: l) l.length w := fun lk J Jx W hW _ _ hY h0 => by
  have hc' := (hW.cell (p := ⟨Bq, 0, none⟩) hBs).trans hc
  have hT' := hT.below (hW.mono hn₀)
  obtain ⟨ws, ⟨h1, h2, h3, ⟨rfl, rfl, rfl⟩ | ⟨b, o, rfl, ⟨hb, -⟩, hcs⟩⟩, hr⟩ := hI
  · have hl : l = [] := none_words hr (fun j hj => by omega)
    exact (all1_nil_in n lk Bq (fun _ W => J [] W) W hc' h0).mono fun e W' ⟨he, hj⟩ => ⟨he, .inl ⟨[], by rw [hl]; rfl, hj⟩⟩
  · refine (all1_in n hn lk Bq n₀ b o len cap ws l hr h1 (hblk _ rfl) (fun pre W => ∃ pre', pre'.map (·.1) = pre ∧ J pre' W) (fun pre W => ∃ pre', pre'.map (·.1) = pre ∧ Jx pre' W) ?_ W hT' hc' (fun j hj => (hW.cell (p := ⟨b, o + j, none⟩) hb).trans (hcs j hj)) ⟨[], rfl, h0⟩).mono ?_
    · rintro pre x W ⟨pre', rfl, hj⟩ hlen ⟨t, ht⟩
      have hx : x < 4096 := hr.asc.2 x (by rw [← ht]; simp)
      have hy := hY pre' ⟨x, hx⟩ W hj (by simpa using hlen)
      obtain ⟨fn, tmps, assign, body, hy1, hy2⟩ := hy
      refine ⟨fn, tmps, assign, body, hy1, hy2.mono ?_⟩
      rintro e W' (⟨he, hJ, hb⟩ | ⟨he, hJ⟩)
      · exact .inl ⟨he, ⟨_, by simp, hJ⟩, hb⟩
      · exact .inr ⟨he, _, by simp, hJ⟩
    · rintro e W' ⟨he, ⟨ys, rfl, pre', hp, hj⟩ | ⟨pre, hpre, pre', hp, hj⟩⟩
      · exact ⟨he, .inl ⟨_, hp, hj⟩⟩
      · exact ⟨he, .inr ⟨_, by simpa [hp] using hpre, hj⟩⟩
end Go.Proofs.YtadomogbakcokaaGreatDoor
end

section
/- Contract: List. -/
namespace Go.Proofs.YtadomogbakcokaaGreatDoor
open Go.RowKit Go.PlainAid Go.Shelf
attribute [local go_sem] Oper.semAt_some
set_option linter.unusedVariables false
set_option linter.unusedSimpArgs false
set_option maxHeartbeats 4000000

def i64v (x : Nat) : Value := .int .i64 ((x : Nat) : Int)
theorem info3i : (Tryz.prog.info? 3).map (fun i => (i.zero, i.size, i.bytes)) = some (some (.int .i64 0), 1, 8) := by kernel_rfl
theorem Tz.to {w : World} (h : Tz w) : Tzn w.heap.size w := h
theorem asc_length {l : List Nat} (h : Asc l) : l.length ≤ 4096 := by
  have : l = mlist (fun x => decide (x ∈ l)) := asc_ext h (asc_mlist _) fun x => by
    rw [mem_mlist, decide_eq_true_eq]; exact ⟨fun hx => ⟨h.2 x hx, hx⟩, fun hx => hx.2⟩
  rw [this]
  unfold mlist
  exact Nat.le_trans (List.length_filter_le _ _) (by simp)

set_option maxRecDepth 100000 in
theorem list_any (a : Option Addr) (n cap : Nat) (l : List Nat) (w : World) (h : Bs w a n cap l) (hT : Tz w) :
    Calls Tryz.prog 47 #[.agg #[.slice a n cap]] w fun e w' => ∃ v, e = .returned v ∧ w'.ownsRow w.heap.size 3 1 v l.length (l.map i64v) ∧ Below w.heap.size w w' := by
  obtain ⟨i0, hi, hz0, hz1, hz2⟩ := info_parts info3i
  have hL := Lib.hid (fun w' (hb : Below w.heap.size w w') => len_any a n cap l w' (h.below hb))
  have hlen : l.length ≤ 4096 := by obtain ⟨ws, _, hr⟩ := h; exact asc_length hr.asc
  have hblk : Hid (∀ p, a = some p → p.block < w.heap.size) := by
    obtain ⟨ws, ⟨_, _, _, ⟨rfl, _⟩ | ⟨b, o, rfl, ⟨hb, -⟩, _⟩⟩, _⟩ := h
    · intro p hp; cases hp
    · intro p hp; cases hp; exact hb
  have HH := Lib.hid h
  have HT := Lib.hid hT
  have hncap : n ≤ cap := by obtain ⟨ws, hw, _⟩ := h; exact hw.2.1
  clear h hT
  obtain ⟨m, hm⟩ : ∃ m, m = l.length := ⟨_, rfl⟩
  rw [← hm] at hL hlen
  have HM := Lib.hid hm
  clear hm
  have hby : i0.bytes * m ≤ 281474976710656 := by rw [hz2]; omega
  have hmx : m ≤ maxLen := by unfold maxLen; omega
  refine (callsIn_wide (n := 3)).1 ?_
  refine callsIn_of_wp_marks Tryz.func47 rfl trivial ?_ rfl
  simp only [Tryz.ntmps47, List.size_toArray, List.length_cons, List.length_nil, Nat.reduceAdd, Nat.reduceSub, Array.replicate_succ, Array.replicate_zero, List.push_toArray, List.append_toArray, List.nil_append, List.cons_append]
  gi_wp2_with (first | (refine ⟨trivial, ?_⟩; gi_at_call 82; refine (callsIn_wide.2 (hL.out _ (by go_grown))).mono ?_; rintro e w2 ⟨rfl, hb2⟩; have q0 := (hb2.cell (p := ⟨w.heap.size, 0, none⟩) (by simp)).trans (new1 w _ _).1; have hz2' := hb2.size; simp at hz2'; have hbw := bel1 hb2) | (gi_at_make; refine wpListIn_make_own _ rfl _ (.tmp 6) 52 rfl w.heap.size 3 i0 (.int .i64 0) 1 Tryz.underlying52 hi hz0 hz1 .i64 .i64 m m rfl rfl rfl hby hmx (by omega) ?_; (intro w3 hown hgr; have hown3 := Lib.hid hown; have hb3 := (Below.refl w2.heap.size w2).grown hgr (Nat.le_refl _) (fun b hb => by cases hb); have q3 := (hb3.cell (p := ⟨w.heap.size, 0, none⟩) (by exact hz2')).trans q0; have hz3 := hb3.size; have l3 : w.heap.size < w3.heap.size := (by omega); clear hown hgr)) | (refine ⟨trivial, ?_⟩; gi_at_call 72; refine (all_in 2 _ _ _ _).mono ?_; rintro e w4 ⟨rfl, rfl⟩))
  have hb03 := Lib.hid (hbw.trans (hb3.mono hbw.size))
  have hzw3 := hb03.out.size
  have bO := Boxed.new w3 52 (.slice (some ⟨w2.heap.size, 0, none⟩) 0 m)
  have bN := Boxed.new (w3.alloc (.cells #[.slice (some ⟨w2.heap.size, 0, none⟩) 0 m] 52)) 32 (.slice a n cap)
  rw [World.size_alloc] at bN
  have hB0 : Below w.heap.size w ((w3.alloc (.cells #[.slice (some ⟨w2.heap.size, 0, none⟩) 0 m] 52)).alloc (.cells #[.slice a n cap] 32)) := (hb03.out.alloc hzw3 _).alloc (by simp; omega) _
  refine wpIn_rangeFunc_ownG (F := Fence.wide) rfl (show 1 ≤ 3 by omega) (gf := 100) (lb := #[.pointer (some ⟨w3.heap.size + 1, 0, none⟩)]) rfl trivial (enters_of Tryz.func100 (by kernel_rfl) rfl)
    (all_stops (3 - 1) (by omega) (w3.heap.size + 1) w.heap.size a n cap l _ (by simp) (by simp; omega) ((Tz.to HT.out).below hB0) bN.cell (HH.out.below hB0) hblk.out) belowK_t (belowK_b (by simp; omega)) (Below.refl _ _) (fun _ => rfl)
    (fun pre W => (∃ v, Boxed W w3.heap.size 52 v ∧ W.ownsRow w.heap.size 3 1 v pre.length (pre.map i64v) ∧ True) ∧ Below w.heap.size w W)
    (fun _ _ _ => False)
    (OwnFrom.and (Own.from (holdsRow_own w.heap.size w3.heap.size 52 3 1 (fun pre : List Nat => pre.length) (fun pre => pre.map i64v) (fun pre v => True)) _) (ownFrom_below (Nat.le_refl _) (by simp; omega)))
    (fun _ _ _ _ _ hs _ _ => hs)
    ⟨⟨_, bO.alloc _, (hown3.out.alloc _).alloc _, trivial⟩, hB0⟩
    (fun x => { tmps := #[.agg #[.slice a n cap], .pointer (some ⟨w.heap.size, 0, none⟩), .slice none 0 0, .pointer (some ⟨w3.heap.size, 0, none⟩), .int .i64 ((x : Nat) : Int), .agg #[.slice a n cap], .int .i64 (m : Nat), .slice (some ⟨w2.heap.size, 0, none⟩) 0 m, .agg #[.slice a n cap], .func (.func 100) #[] #[.pointer (some ⟨w3.heap.size + 1, 0, none⟩)], .int .i64 ((x : Nat) : Int), undef, undef, undef, undef, undef], defers := [] }) ?assign ?body ?done ?stop
  case assign =>
    intro lk x W K hK
    gi_wp2
    exact hK
  case body =>
    rintro lk pre x W ⟨⟨v, hv, hrow, -⟩, hB⟩ hlt
    have hc := hv.cell
    have hpl : pre.length < 4096 := by have := HM.out; omega
    gi_wp2_with (gi_at_builtin; refine wpListIn_append_own _ rfl _ _ 52 rfl w.heap.size 3 i0 (.int .i64 0) 1 8 Tryz.underlying52 hi hz0 hz1 hz2 rfl (by decide) _ _ _ rfl (hrow.alloc _) ⟨W.heap.size, 0, none⟩ 1 1 [.int .i64 ((x : Nat) : Int)] rfl rfl (cell_one_new _ _ _) (by simp [Value.oneCell']) (by unfold maxLen; omega) (by omega) (by have := hB.size; simp; omega) ?_; intro v' w1 hown' hgrow _; obtain ⟨g', cap', rfl⟩ := ownsRow_succ hown'; obtain ⟨hv1, hv2, hr2, hk2, hb2⟩ := hv.appended (by decide) hrow hB.size hzw3 hown' hgrow; have hc1 := hv1.cell; have hf1 := hv1.frozen)
    exact ⟨hk2.from _, hb2, ⟨_, hv2, by simpa [i64v] using hr2, trivial⟩, hB.trans hb2⟩
  case done =>
    rintro D ys W hD rfl ⟨⟨v, hv, hrow, -⟩, hB⟩ hK
    have hc := hv.cell
    gi_wp2
    refine ⟨by simp, .inl ⟨_, _, rfl, run_takeDeferred hK, ?_⟩⟩
    exact ⟨_, results_tmp rfl _ _ _, v, rfl, ownsRow_putObj hrow _ hK rfl, hB.trans (belowK_b (w := w) (Nat.le_refl _) W D _ _ (by simp at hD; omega) hK rfl rfl)⟩
  case stop =>
    rintro D c pre W _ _ h _
    exact h.elim
end Go.Proofs.YtadomogbakcokaaGreatDoor
end

section
/- Contracts: strings.Builder's copyCheck, WriteByte, WriteString (the shelf's proofs, turned to this translation). -/
namespace Go.Proofs.YtadomogbakcokaaGreatDoor
open Go.RowKit Go.PlainAid
set_option linter.unusedVariables false
set_option linter.unusedSimpArgs false
set_option maxHeartbeats 2000000

theorem sizeBuilder : (Tryz.prog.info? 137).map (·.size) = some 2 := by kernel_rfl
theorem liesBuilder : liesAt Tryz.prog Tryz.prog.depth 137 (2 / Tryz.prog.cellsOf 137) 0 137 1 = true := by kernel_rfl
theorem infoByte : (Tryz.prog.info? 5).map (fun i => (i.zero, i.size, i.bytes)) = some (some (.int .u8 0), 1, 1) := by kernel_rfl
/-- The builder of the call's own (block b) holds the bytes l. -/
abbrev IsB (w : World) (B b : Nat) (l : List Value) : Prop := Lib.IsBuilder 137 5 B b l w

theorem row_cells {B k : Nat} {e : TypeId} {v : Value} {xs : List Value} {w : World} (h : w.ownsRow B e 1 v k xs) : ∀ (j : Nat) (o : Obj), v.ownBlock = some j → w.heap[j]? = some o → o.isCells = true := by
  intro j o hj ho
  rcases h.2 with ⟨rfl, _⟩ | ⟨g, cap, cur, rfl, _, hgb, _⟩
  · simp [Value.ownBlock] at hj
  · obtain rfl : g = j := by simpa [Value.ownBlock] using hj
    rw [hgb] at ho; cases ho; rfl

set_option maxRecDepth 100000 in
theorem copyCheck_used (b : Nat) (w : World) (h0 : w.cell? ⟨b, 0, none⟩ = some (.pointer (some ⟨b, 0, none⟩))) :
    Calls Tryz.prog 124 #[.pointer (some ⟨b, 0, none⟩)] w fun e w' => e = .returned (.tuple #[]) ∧ w' = w := by
  obtain ⟨j, hj, _⟩ := Option.map_eq_some_iff.1 sizeBuilder
  go_enter Tryz.func124, Tryz.ntmps124
  go_wp2
  rw [Lib.run_neq_ptr_same w _ Tryz.underlying135 hj]
  go_wp2
  go_end0
  exact ⟨rfl, rfl⟩
set_option maxRecDepth 100000 in
theorem copyCheck_fresh (b : Nat) (w : World) (h0 : w.cell? ⟨b, 0, none⟩ = some (.pointer none)) (hsh : w.shape? b = some (137, 2)) (hfz : w.frozen? ⟨b, 0, none⟩ = false) :
    Calls Tryz.prog 124 #[.pointer (some ⟨b, 0, none⟩)] w fun e w' => e = .returned (.tuple #[]) ∧ w' = w.setCell ⟨b, 0, none⟩ (.pointer (some ⟨b, 0, none⟩)) := by
  obtain ⟨j, hj, hjs⟩ := Option.map_eq_some_iff.1 sizeBuilder
  go_enter Tryz.func124, Tryz.ntmps124
  go_wp2
  rw [Lib.run_to_unsafe w ⟨b, 0, none⟩ Tryz.underlying135 Tryz.underlying201 hj (by rw [hjs]; decide) hsh (Nat.zero_lt_succ 1)]
  simp only [Result.andThen]
  rw [Oper.upon_value]
  go_wp2
  rw [run_callFunc_extern Tryz.func151 (by kernel_rfl) (by kernel_rfl) (by kernel_rfl) (e := Extern.AbiNoEscape.same) (by kernel_rfl)]
  rw [Lib.run_noEscape]
  simp only [Result.andThen]
  rw [Oper.upon_value]
  go_wp2
  rw [Lib.run_from_unsafe w ⟨b, 0, none⟩ Tryz.underlying201 Tryz.underlying135 hj hsh liesBuilder]
  simp only [Result.andThen]
  rw [Oper.upon_value]
  go_wp2
  go_end0
  exact ⟨rfl, rfl⟩
theorem copyCheck_any (B b : Nat) (bs : List Value) (w : World) (h : IsB w B b bs) :
    Calls Tryz.prog 124 #[.pointer (some ⟨b, 0, none⟩)] w fun e w' => e = .returned (.tuple #[]) ∧ (Lib.BuilderAt 137 5 B b (.pointer (some ⟨b, 0, none⟩)) bs w' ∧ Below B w w' ∧ KeepsOthers w w') := by
  rcases h with h | h
  · refine (copyCheck_fresh b w h.cell0 h.shape h.frozen0).mono ?_
    rintro e w' ⟨rfl, rfl⟩
    exact ⟨rfl, h.used _, (Below.refl B w).setCell (p := ⟨b, 0, none⟩) h.1 _, KeepsOthers.setCell _ _ _⟩
  · refine (copyCheck_used b w h.cell0).mono ?_
    rintro e w' ⟨rfl, rfl⟩
    exact ⟨rfl, h, Below.refl B _, KeepsOthers.refl _⟩

set_option maxRecDepth 100000 in
theorem writeString_any (B b : Nat) (bs : List Value) (s : ByteArray) (w : World) (h : IsB w B b bs) (hlen : bs.length + s.size ≤ 140737488355328) (hBw : B ≤ w.heap.size) :
    Calls Tryz.prog 103 #[.pointer (some ⟨b, 0, none⟩), .string s] w fun e w' => e = .returned (.tuple #[.int .i64 s.size, .nilIface]) ∧ (IsB w' B b (bs ++ Lib.strCells s) ∧ Below B w w' ∧ KeepsOthers w w') := by
  obtain ⟨i0, hi, hz0, hz1, hz2⟩ := info_parts infoByte
  go_enter Tryz.func103, Tryz.ntmps103
  go_wp2_with (go_at_call 124; refine (copyCheck_any B b bs _ h).mono ?_)
  rintro e w1 ⟨rfl, h1, hb1, hk1⟩
  obtain ⟨hB, v, hbk, hown, hne⟩ := h1
  have c0 : w1.cell? ⟨b, 0, none⟩ = some (.pointer (some ⟨b, 0, none⟩)) := by rw [Lib.cell_of_heap hbk]; rfl
  have c1 : w1.cell? ⟨b, 1, none⟩ = some v := by rw [Lib.cell_of_heap hbk]; rfl
  go_wp2_with (at_builtin; refine Lib.wpList_append_own_string _ rfl _ _ 87 9 rfl B 5 i0 Tryz.underlying87 Tryz.underlying9 hi hz0 hz1 hz2 _ _ _ rfl hown s rfl ?c3 ?c4 ?c5 ?_)
  case c3 => unfold maxLen; omega
  case c4 => omega
  case c5 => have := hb1.size; omega
  intro v' w2 hown' hgrow _
  have HK2 := Lib.hid (fun q : Value => (hk1.trans (KeepsOthers.of_grownBy hgrow (row_cells hown))).trans (KeepsOthers.setCell w2 ⟨b, 1, none⟩ q))
  have hlt : b < w1.heap.size := by
    rcases Nat.lt_or_ge b w1.heap.size with h' | h'
    · exact h'
    · simp [Array.getElem?_eq_none h'] at hbk
  have hb2 : w2.heap[b]? = some (.cells #[.pointer (some ⟨b, 0, none⟩), v] 137 (0, 0)) := by
    rw [hgrow.block b hlt (fun e => hne e.symm)]
    exact hbk
  have d0 : w2.cell? ⟨b, 0, none⟩ = some (.pointer (some ⟨b, 0, none⟩)) := by rw [Lib.cell_of_heap hb2]; rfl
  have d1 : w2.cell? ⟨b, 1, none⟩ = some v := by rw [Lib.cell_of_heap hb2]; rfl
  have f1 : w2.frozen? ⟨b, 1, none⟩ = false := Lib.frozen_of_heap hb2 1
  obtain ⟨ao, n', cap, rfl⟩ : ∃ ao n' cap, v' = .slice ao n' cap := by
    rcases hown'.2 with ⟨hv, _⟩ | ⟨g, cap, cur, hv, _⟩
    · exact ⟨_, _, _, hv⟩
    · exact ⟨_, _, _, hv⟩
  go_wp2
  go_ret2
  refine ⟨rfl, .inr ?_, ?_, HK2.out _⟩
  · exact Lib.BuilderAt.put (T := 137) (e := 5) hB hb2 (bs' := bs ++ Lib.strCells s) (by simpa [Lib.strCells_length] using hown') (by decide)
  · exact (hb1.grown hgrow (by have := hb1.size; omega) (fun k hk => (hown.lt k hk).1)).setCell (p := ⟨b, 1, none⟩) hB _
end Go.Proofs.YtadomogbakcokaaGreatDoor
end

section
/- Contract: Text. -/
namespace Go.Proofs.YtadomogbakcokaaGreatDoor
open Go.RowKit Go.PlainAid Go.Shelf
attribute [local go_sem] Oper.semAt_some
set_option linter.unusedVariables false
set_option linter.unusedSimpArgs false
set_option maxHeartbeats 4000000

def dig (x : Nat) : List UInt8 := 32 :: Lib.decDigits x
def joinB (l : List Nat) : List UInt8 := (l.flatMap dig).tail
def headB (l : List Nat) : List UInt8 := 123 :: joinB l
def textB (l : List Nat) : List UInt8 := headB l ++ [125]
theorem itoa_nat (x : Nat) : Lib.itoa (x : Int) = Lib.decDigits x := by rw [Lib.itoa, if_neg (by omega)]; rfl
theorem headB_first (x : Nat) : headB [x] = [123] ++ Lib.decDigits x := by simp [headB, joinB, dig]
theorem headB_snoc (l : List Nat) (x : Nat) (h : l ≠ []) : headB (l ++ [x]) = headB l ++ [32] ++ Lib.decDigits x := by
  match l, h with
  | y :: r, _ => simp [headB, joinB, dig]
theorem dec_small (x : Nat) (h : x < 4096) : 1 ≤ (Lib.decDigits x).length ∧ (Lib.decDigits x).length ≤ 4 := by
  rw [Lib.decDigits_eq, List.length_map, List.length_range]
  refine ⟨Lib.nDigits_pos x, ?_⟩
  by_cases h1 : x < 10
  · rw [Lib.nDigits_small h1]; omega
  · rw [Lib.nDigits_big h1]
    by_cases h2 : x / 10 < 10
    · rw [Lib.nDigits_small h2]; omega
    · rw [Lib.nDigits_big h2]
      by_cases h3 : x / 10 / 10 < 10
      · rw [Lib.nDigits_small h3]; omega
      · rw [Lib.nDigits_big h3, Lib.nDigits_small (by omega)]; omega
theorem joinB_len : ∀ l : List Nat, (∀ x ∈ l, x < 4096) → (l.flatMap dig).length ≤ 5 * l.length
  | [], _ => by simp
  | x :: r, hh => by
    have h1 := joinB_len r fun y hy => hh y (by simp [hy])
    have h2 := (dec_small x (hh x (by simp))).2
    rw [List.flatMap_cons, List.length_append, List.length_cons, dig, List.length_cons]; omega
theorem headB_length (l : List Nat) (h : ∀ x ∈ l, x < 4096) : (headB l).length ≤ 1 + 5 * l.length ∧ (l ≠ [] → 1 < (headB l).length) := by
  constructor
  · have := joinB_len l h
    rw [headB, joinB, List.length_cons, List.length_tail]; omega
  · intro hne
    match l, hne, h with
    | x :: r, _, h =>
      have h2 := (dec_small x (h x (by simp))).1
      rw [headB, joinB, List.flatMap_cons, dig, List.cons_append, List.tail_cons, List.length_cons, List.length_append]; omega
theorem kept_below {W W' : World} (h : Below W.heap.size W W') : KeepsOthers W W' := ⟨h.size, fun k o hk _ => (h.block k (Array.getElem?_eq_some_iff.1 hk).1).trans hk⟩
theorem bAt_kept {B b : Nat} {p : Value} {l : List Value} {w w' : World} {row : Option Nat} (h : Lib.BuilderAt 137 5 B b p l w) (hg : w.grownBy w' row) (hr : ∀ r, row = some r → ∃ o : Obj, w.heap[r]? = some o ∧ o.isCells = false) : Lib.BuilderAt 137 5 B b p l w' := by
  obtain ⟨hB, v, hbk, hown, hne⟩ := h
  have hlt : b < w.heap.size := (Array.getElem?_eq_some_iff.1 hbk).1
  refine ⟨hB, v, (hg.block b hlt (fun e => ?_)).trans hbk, hown.kept hg ?_, hne⟩
  · obtain ⟨o, ho, hc⟩ := hr b e.symm
    rw [hbk] at ho; cases ho; cases hc
  · cases hv : v.ownBlock with
    | none => exact .inl rfl
    | some g =>
      refine .inr fun e => ?_
      obtain ⟨o, ho, hc⟩ := hr g e.symm
      have := row_cells hown g o hv ho
      rw [hc] at this; cases this
theorem IsB.kept {B b : Nat} {l : List Value} {w w' : World} {row : Option Nat} (h : IsB w B b l) (hg : w.grownBy w' row) (hr : ∀ r, row = some r → ∃ o : Obj, w.heap[r]? = some o ∧ o.isCells = false) : IsB w' B b l :=
  h.elim (fun x => .inl (bAt_kept x hg hr)) (fun x => .inr (bAt_kept x hg hr))
theorem IsB.below {B b : Nat} {l : List Value} {w w' : World} (h : IsB w B b l) (hb : Below w.heap.size w w') : IsB w' B b l :=
  IsB.kept h (row := none) ⟨hb.os, hb.tape, hb.output, hb.size, fun j hj _ => hb.block j hj⟩ (fun r e => by cases e)
theorem grow_below {W w' : World} {k : Nat} {os : Array Obj} (h : w' = Go.Sort.grow (W.drewN k) os) : Below W.heap.size W w' := by rw [h]; exact Lib.below_grow _ _ (Nat.le_refl _) _ _
theorem IsB.block {B b : Nat} {l : List Value} {w : World} (h : IsB w B b l) : ∃ cs, w.heap[b]? = some (.cells cs 137 (0, 0)) := by
  rcases h with ⟨_, v, h, _⟩ | ⟨_, v, h, _⟩ <;> exact ⟨_, h⟩

def Pow10 (w : World) : Prop := Lib.TabBelow Tryz.prog w.heap.size w "internal/strconv.uint64pow10" .u64 Lib.pow10Tab
abbrev M4 := {x : Nat // x < 4096}
abbrev vals (l : List M4) : List Nat := l.map (·.1)
theorem isB_own (B b : Nat) (f : List M4 → List Value) : Own (fun (s : List M4) W => IsB W B b (f s)) := fun s W W' row hs hg hr => IsB.kept hs hg hr
theorem vals_lt (l : List M4) : ∀ x ∈ vals l, x < 4096 := by
  intro x hx; obtain ⟨y, _, rfl⟩ := List.mem_map.1 hx; exact y.2

end Go.Proofs.YtadomogbakcokaaGreatDoor
end

section
/- Contract: Compare. -/
namespace Go.Proofs.YtadomogbakcokaaGreatDoor
open Go.RowKit Go.PlainAid
set_option linter.unusedVariables false
set_option linter.unusedSimpArgs false
set_option maxHeartbeats 4000000

def cmpL : List Nat → List Nat → Int
  | [], [] => 0
  | [], _ :: _ => -1
  | _ :: _, [] => 1
  | x :: l, y :: r => if x < y then -1 else if y < x then 1 else cmpL l r
theorem cmpL_neg : ∀ l r, cmpL r l = - cmpL l r
  | [], [] => rfl
  | [], _ :: _ => rfl
  | _ :: _, [] => rfl
  | x :: l, y :: r => by
    unfold cmpL
    by_cases h : x < y
    · rw [if_neg (by omega), if_pos h, if_pos h]; rfl
    · by_cases h2 : y < x
      · rw [if_pos h2, if_neg h, if_pos h2]
      · rw [if_neg h2, if_neg h, if_neg h, if_neg h2, cmpL_neg l r]
theorem cmpL_self : ∀ l, cmpL l l = 0
  | [] => rfl
  | x :: l => by unfold cmpL; rw [if_neg (Nat.lt_irrefl _), if_neg (Nat.lt_irrefl _), cmpL_self l]
theorem cmpL_zero : ∀ l r, cmpL l r = 0 → l = r
  | [], [] => fun _ => rfl
  | [], _ :: _ => fun h => by simp [cmpL] at h
  | _ :: _, [] => fun h => by simp [cmpL] at h
  | x :: l, y :: r => fun h => by
    unfold cmpL at h
    by_cases h1 : x < y
    · rw [if_pos h1] at h; simp at h
    · rw [if_neg h1] at h
      by_cases h2 : y < x
      · rw [if_pos h2] at h; simp at h
      · rw [if_neg h2] at h
        rw [cmpL_zero l r h, show x = y by omega]
theorem cmp_at : ∀ {l r : List Nat} {i : Nat}, l.Pairwise (· < ·) → r.Pairwise (· < ·) → (∀ j, j < i → (j ∈ l ↔ j ∈ r)) → i ∈ l → i ∉ r → cmpL l r = if (∃ y ∈ r, i < y) then -1 else 1
  | [], _, _, _, _, _, hi, _ => by simp at hi
  | _ :: _, [], _, _, _, _, _, _ => by simp [cmpL]
  | x :: l, y :: r, i, hl, hr, hlow, hi, hn => by
    obtain ⟨l1, l2⟩ := List.pairwise_cons.1 hl
    obtain ⟨r1, r2⟩ := List.pairwise_cons.1 hr
    have hxi : x ≤ i := by
      rcases List.mem_cons.1 hi with e | e
      · omega
      · have := l1 _ e; omega
    have hyi : y ≠ i := fun e => hn (by simp [e])
    unfold cmpL
    by_cases h1 : x < y
    · rw [if_pos h1]
      have : x = i := by
        rcases Nat.lt_or_ge x i with h | h
        · have h3 := (hlow x h).1 (by simp)
          rcases List.mem_cons.1 h3 with e | e
          · omega
          · have := r1 _ e; omega
        · omega
      rw [if_pos ⟨y, by simp, by omega⟩]
    · rw [if_neg h1]
      by_cases h2 : y < x
      · exfalso
        have h3 := (hlow y (by omega)).2 (by simp)
        rcases List.mem_cons.1 h3 with e | e
        · omega
        · have := l1 _ e; omega
      · rw [if_neg h2]
        have hxy : x = y := by omega
        have hx : x < i := by omega
        have ih := cmp_at (l := l) (r := r) (i := i) l2 r2 (fun j hj => by
          have h3 := hlow j hj
          constructor
          · intro hm
            have := l1 _ hm
            rcases List.mem_cons.1 (h3.1 (by simp [hm])) with e | e
            · omega
            · exact e
          · intro hm
            have := r1 _ hm
            rcases List.mem_cons.1 (h3.2 (by simp [hm])) with e | e
            · omega
            · exact e) (by
          rcases List.mem_cons.1 hi with e | e
          · omega
          · exact e) (fun hm => hn (by simp [hm]))
        rw [ih]
        by_cases hb : ∃ z ∈ r, i < z
        · rw [if_pos hb, if_pos]; obtain ⟨z, hz, h⟩ := hb; exact ⟨z, by simp [hz], h⟩
        · rw [if_neg hb, if_neg]
          rintro ⟨z, hz, h⟩
          rcases List.mem_cons.1 hz with e | e
          · omega
          · exact hb ⟨z, e, h⟩
theorem beyond_iff {l : List Nat} (hl : l.Pairwise (· < ·)) (i : Nat) : (!l.isEmpty && decide ((i : Int) < (l.getLastD 0 : Nat))) = decide (∃ y ∈ l, i < y) := by
  match l, hl with
  | [], _ => simp
  | x :: r, hl =>
    have hne : x :: r ≠ [] := by simp
    have hm : (x :: r).getLastD 0 ∈ x :: r := by
      rw [List.getLastD_eq_getLast?, List.getLast?_eq_some_getLast hne]; exact List.getLast_mem hne
    rw [Bool.eq_iff_iff]
    simp only [List.isEmpty_cons, Bool.not_false, Bool.true_and, decide_eq_true_eq]
    constructor
    · intro h; exact ⟨_, hm, by omega⟩
    · rintro ⟨y, hy, h⟩
      have : y ≤ (x :: r).getLastD 0 := by
        rw [List.getLastD_eq_getLast?, List.getLast?_eq_some_getLast hne]
        show y ≤ (x :: r).getLast hne
        obtain ⟨k, hk, rfl⟩ := List.getElem_of_mem hy
        rw [List.getLast_eq_getElem]
        rcases Nat.lt_or_ge k ((x :: r).length - 1) with hlt | hge
        · exact Nat.le_of_lt (List.pairwise_iff_getElem.1 hl _ _ _ _ hlt)
        · have : k = (x :: r).length - 1 := by omega
          subst this; exact Nat.le_refl _
      omega
theorem differ_at {ws vs l r : List Nat} (h : Rp ws l) (k : Rp vs r) {j : Nat} (hpre : ∀ i, i < j → wd ws i = wd vs i) (hne : wd ws j ^^^ wd vs j ≠ 0) (hlt : wd ws j ^^^ wd vs j < 18446744073709551616) :
    Lib.ctz 64 (wd ws j ^^^ wd vs j) < 64 ∧ (∀ i, i < 64 * j + Lib.ctz 64 (wd ws j ^^^ wd vs j) → (i ∈ l ↔ i ∈ r)) ∧ (64 * j + Lib.ctz 64 (wd ws j ^^^ wd vs j) ∈ l ↔ ¬ 64 * j + Lib.ctz 64 (wd ws j ^^^ wd vs j) ∈ r) := by
  obtain ⟨c1, c2, c3⟩ := ctz_spec hne hlt
  generalize Lib.ctz 64 (wd ws j ^^^ wd vs j) = c at *
  refine ⟨c1, fun i hi => ?_, ?_⟩
  · rw [h.mem_iff, k.mem_iff]
    unfold mem
    by_cases hij : i / 64 < j
    · rw [hpre _ hij]
    · have e : i / 64 = j := by omega
      rw [e]
      have := c3 (i % 64) (by omega)
      rw [Nat.testBit_xor] at this
      have h2 : (wd ws j).testBit (i % 64) = (wd vs j).testBit (i % 64) := by
        revert this; cases (wd ws j).testBit (i % 64) <;> cases (wd vs j).testBit (i % 64) <;> simp
      rw [h2]
  · rw [h.mem_iff, k.mem_iff, mem_at ws j c c1, mem_at vs j c c1]
    rw [Nat.testBit_xor] at c2
    revert c2; cases (wd ws j).testBit c <;> cases (wd vs j).testBit c <;> simp
end Go.Proofs.YtadomogbakcokaaGreatDoor
end

section
/- Contract: Compare (the walk). -/
namespace Go.Proofs.YtadomogbakcokaaGreatDoor
open Go.RowKit Go.PlainAid
set_option linter.unusedVariables false
set_option linter.unusedSimpArgs false
set_option maxHeartbeats 4000000

theorem xor_lt {x y : Nat} (hx : x < 18446744073709551616) (hy : y < 18446744073709551616) : x ^^^ y < 18446744073709551616 := Nat.xor_lt_two_pow (n := 64) hx hy
theorem hasB_nat (l : List Nat) (i : Nat) : hasB l (i : Int) = decide (i ∈ l) := by unfold hasB; simp

set_option maxRecDepth 20000 in
theorem compare_any (a b : Option Addr) (n m cap dap : Nat) (l r : List Nat) (w : World) (h : Bs w a n cap l) (k : Bs w b m dap r) (hT : Tz w) :
    Calls Tryz.prog 63 #[.agg #[.slice a n cap], .agg #[.slice b m dap]] w fun e w' => e = .returned (.int .i64 (cmpL l r)) ∧ Below w.heap.size w w' := by
  have hH1 := Lib.hid (fun (i : Int) w' (hb : Below w.heap.size w w') => has_any a n cap l i w' (h.below hb))
  have hH2 := Lib.hid (fun (i : Int) w' (hb : Below w.heap.size w w') => has_any b m dap r i w' (k.below hb))
  have hY1 := Lib.hid (fun (i : Int) w' (hb : Below w.heap.size w w') => beyond_any a n cap l i w' (h.below hb))
  have hY2 := Lib.hid (fun (i : Int) w' (hb : Below w.heap.size w w') => beyond_any b m dap r i w' (k.below hb))
  obtain ⟨ws, hw, hr⟩ := h
  obtain ⟨vs, kw, kr⟩ := k
  have hn64 : n ≤ 64 := by have := hr.2.2.1; rw [hw.1] at this; exact this
  have hm64 : m ≤ 64 := by have := kr.2.2.1; rw [kw.1] at this; exact this
  have hncap : n ≤ cap := hw.2.1
  have hmcap : m ≤ dap := kw.2.1
  obtain ⟨q, hq⟩ : ∃ q : Nat, max (n : Int) (m : Int) = q := ⟨max n m, by omega⟩
  have hq64 : q ≤ 64 := by omega
  have hW1 := Lib.hid (fun (k : Nat) w' (hk : k ≤ 4096) (hb : Below w.heap.size w w') => word_any a n cap k ws w' (hw.below hb) hk)
  have hW2 := Lib.hid (fun (k : Nat) w' (hk : k ≤ 4096) (hb : Below w.heap.size w w') => word_any b m dap k vs w' (kw.below hb) hk)
  have hwl := Lib.hid (fun k => wd_lt hr.1 k)
  have hvl := Lib.hid (fun k => wd_lt kr.1 k)
  have HR := Lib.hid hr
  have KR := Lib.hid kr
  have HTz := Lib.hid hT
  have hlens := Lib.hid (show ws.length ≤ q ∧ vs.length ≤ q by rw [hw.1, kw.1]; omega)
  clear hw hr kw kr hT
  go_enter Tryz.func63, Tryz.ntmps63
  go_wp2_with fail
  go_loopw [15] (fun v wr => ∃ k : Nat, k ≤ q ∧ v = .int .i64 (k : Nat) ∧ Hid (∀ j, j < k → wd ws j = wd vs j) ∧ Below (w.heap.size + 2) ((w.alloc (.cells #[.slice a n cap] 32)).alloc (.cells #[.slice b m dap] 32)) wr) (fun v _ => q - (intOf v).toNat)
  case atStart => exact ⟨0, Nat.zero_le _, rfl, fun j hj => by omega, Below.refl _ _⟩
  case round =>
    obtain ⟨k, hk, rfl, hpre, hB⟩ := hrel
    obtain ⟨c0, c1, -, hz, hBw⟩ := box2 hB
    have HB := Lib.hid hB
    clear hB
    have hS := Lib.hid (fun w' (hb : Below wr.heap.size wr w') => (⟨(hb.cell (p := ⟨w.heap.size, 0, none⟩) (show w.heap.size < wr.heap.size by omega)).trans c0, (hb.cell (p := ⟨w.heap.size + 1, 0, none⟩) (show w.heap.size + 1 < wr.heap.size by omega)).trans c1⟩ :
      w'.cell? ⟨w.heap.size, 0, none⟩ = some (.slice a n cap) ∧ w'.cell? ⟨w.heap.size + 1, 0, none⟩ = some (.slice b m dap)))
    by_cases hlt : k < q
    · have hxor : bits .xor .u64 ((wd ws k : Nat) : Int) ((wd vs k : Nat) : Int) = ((wd ws k ^^^ wd vs k : Nat) : Int) := u64_xor_nat _ _ (hwl.out k) (hvl.out k)
      have hxl := xor_lt (hwl.out k) (hvl.out k)
      have hE : wd ws k ^^^ wd vs k = 0 → wd ws k = wd vs k := fun e => Nat.eq_of_testBit_eq fun i => by have := congrArg (·.testBit i) e; simpa [Nat.testBit_xor] using this
      have HE := Lib.hid hE
      have HDF := Lib.hid (fun hne => differ_at HR.out KR.out hpre.out hne hxl)
      clear hE
      generalize wd ws k ^^^ wd vs k = x at hxor hxl HE HDF
      go_wp2_with fail
      go_region_held3 (fun w' => w'.cell? ⟨w.heap.size, 0, none⟩ = some (.slice a n cap) ∧ w'.cell? ⟨w.heap.size + 1, 0, none⟩ = some (.slice b m dap))
        (first | exact hS.out _ (Below.refl _ _).drew | exact hS.out _ hb2 | exact hS.out _ hb3)
        (first | (go_at_call 91; (with_reducible refine (hW1.out k _ (by omega) hBw.drew).mono ?_); rintro e w2 ⟨rfl, hb2⟩; replace hb2 := (Below.refl wr.heap.size wr).drew.trans (hb2.mono (by simp))) | (go_at_call 91; (with_reducible refine (hW2.out k _ (by omega) (hBw.trans (hb2.mono hBw.size))).mono ?_); rintro e w3 ⟨rfl, hb3⟩; replace hb3 := hb2.trans (hb3.mono hb2.size)))
      all_goals
        by_cases hx : x = 0
        · have HQ := Lib.hid (HE.out hx)
          subst hx
          go_wp2_with fail
          go_roundw
          case rel => exact ⟨k + 1, by omega, by go_num, fun j hj => by
            by_cases hjk : j = k
            · rw [hjk]; exact HQ.out
            · exact hpre.out j (by omega), HB.out.trans (hb3.mono hz)⟩
          case measure => simp [intOf]; omega
        · have hx1 : ((x : Int) == 0) = false := beq_eq_false_iff_ne.2 (by omega)
          obtain ⟨hc64, hlow, hone⟩ := HDF.out hx
          have hbw3 := hBw.trans (hb3.mono hBw.size)
          have htz := Lib.hid (tz_any x hx hxl w3 (HTz.out.below hbw3))
          have hbx : Hid (∀ L : List Nat, hasB L (64 * (k : Int) + (Lib.ctz 64 x : Int)) = decide (64 * k + Lib.ctz 64 x ∈ L)) := by
            intro L
            have e : (64 * (k : Int) + (Lib.ctz 64 x : Int)) = ((64 * k + Lib.ctz 64 x : Nat) : Int) := by omega
            rw [e]; exact hasB_nat L _
          have hyx : Hid (∀ L : List Nat, L.Pairwise (· < ·) → (!L.isEmpty && decide (64 * (k : Int) + (Lib.ctz 64 x : Int) < (L.getLastD 0 : Nat))) = decide (∃ y ∈ L, 64 * k + Lib.ctz 64 x < y)) := by
            intro L hL
            have e : (64 * (k : Int) + (Lib.ctz 64 x : Int)) = ((64 * k + Lib.ctz 64 x : Nat) : Int) := by omega
            rw [e]; exact beyond_iff hL _
          have A1 := Lib.hid (fun w' hb => hH1.out (64 * (k : Int) + (Lib.ctz 64 x : Int)) w' hb)
          have A2 := Lib.hid (fun w' hb => hH2.out (64 * (k : Int) + (Lib.ctz 64 x : Int)) w' hb)
          have Y1 := Lib.hid (fun w' hb => hY1.out (64 * (k : Int) + (Lib.ctz 64 x : Int)) w' hb)
          have Y2 := Lib.hid (fun w' hb => hY2.out (64 * (k : Int) + (Lib.ctz 64 x : Int)) w' hb)
          simp only [hbx.out] at A1 A2
          simp only [hyx.out l HR.out.asc.1] at Y1
          simp only [hyx.out r KR.out.asc.1] at Y2
          have HF : Hid (cmpL l r = if decide (64 * k + Lib.ctz 64 x ∈ l) = true then (if decide (∃ y ∈ r, 64 * k + Lib.ctz 64 x < y) = true then -1 else 1) else (if decide (∃ y ∈ l, 64 * k + Lib.ctz 64 x < y) = true then 1 else -1)) := by
            show _ = _
            by_cases him : 64 * k + Lib.ctz 64 x ∈ l
            · rw [if_pos (decide_eq_true him), cmp_at HR.out.asc.1 KR.out.asc.1 hlow him (hone.1 him)]
              simp only [decide_eq_true_eq]
            · have hir : 64 * k + Lib.ctz 64 x ∈ r := by
                by_cases hh : 64 * k + Lib.ctz 64 x ∈ r
                · exact hh
                · exact absurd (hone.2 hh) him
              rw [if_neg (by simpa using him), cmpL_neg r l, cmp_at KR.out.asc.1 HR.out.asc.1 (fun j hj => (hlow j hj).symm) hir him]
              simp only [decide_eq_true_eq]
              split <;> rfl
          have HB2 : Hid (decide (64 * k + Lib.ctz 64 x ∈ r) = !decide (64 * k + Lib.ctz 64 x ∈ l)) := by
            show _ = _
            rw [Bool.eq_iff_iff]; simp only [decide_eq_true_eq, Bool.not_eq_true', decide_eq_false_iff_not]
            constructor
            · intro a b; exact hone.1 b a
            · intro a
              by_cases hh : 64 * k + Lib.ctz 64 x ∈ r
              · exact hh
              · exact absurd (hone.2 hh) a
          rw [HB2.out] at A2
          clear hH1 hH2 hY1 hY2 hW1 hW2 hwl hvl hlow hone HB2 hbx hyx HDF HE HR KR hxor hlens
          generalize decide (64 * k + Lib.ctz 64 x ∈ l) = b1 at A1 A2 HF
          generalize decide (∃ y ∈ l, 64 * k + Lib.ctz 64 x < y) = e1 at Y1 HF
          generalize decide (∃ y ∈ r, 64 * k + Lib.ctz 64 x < y) = e2 at Y2 HF
          generalize Lib.ctz 64 x = c at *
          cases b1
          · have HG : Hid (cmpL l r = if e1 = true then 1 else -1) := by show _ = _; rw [HF.out]; rfl
            clear HF Y2
            replace A2 : Hid (∀ w' (hb : Below w.heap.size w w'), Calls Tryz.prog 73 #[.agg #[.slice b m dap], .int .i64 (64 * (k : Int) + (c : Int))] w' fun e w'_1 => e = .returned (.bool true) ∧ Below w'.heap.size w' w'_1) := A2
            go_wp2_with (go_at_call 93; refine htz.out.mono ?_; rintro e w' ⟨rfl, rfl⟩)
            go_region_held3 (fun w' => w'.cell? ⟨w.heap.size, 0, none⟩ = some (.slice a n cap) ∧ w'.cell? ⟨w.heap.size + 1, 0, none⟩ = some (.slice b m dap))
              (first | exact hS.out _ hb3.drew | exact hS.out _ hb4 | exact hS.out _ hb5)
              (first | (go_at_call 73; (with_reducible refine (A1.out _ (hBw.trans ((hb3.drew).mono hBw.size))).mono ?_); rintro e w4 ⟨rfl, hb4⟩; replace hb4 := (hb3.drew).trans (hb4.mono (hb3.drew).size); have qa4 := (hS.out _ hb4).1; have qb4 := (hS.out _ hb4).2) | (go_at_call 73; (with_reducible refine (A2.out _ (hBw.trans (hb4.mono hBw.size))).mono ?_); rintro e w5 ⟨rfl, hb5⟩; replace hb5 := hb4.trans (hb5.mono hb4.size); have qa5 := (hS.out _ hb5).1; have qb5 := (hS.out _ hb5).2))
            all_goals
              have qa5 := (hS.out _ hb5).1
              have qb5 := (hS.out _ hb5).2
              cases e1
              all_goals
                go_wp2_with (first | (go_at_call 73; (with_reducible refine (A1.out _ (hBw.trans (hb5.mono hBw.size))).mono ?_); rintro e w6 ⟨rfl, hb6⟩; replace hb6 := hb5.trans (hb6.mono hb5.size); have qa6 := (hS.out _ hb6).1; have qb6 := (hS.out _ hb6).2) | (go_at_call 73; (with_reducible refine (A2.out _ (hBw.trans (hb6.mono hBw.size))).mono ?_); rintro e w7 ⟨rfl, hb7⟩; replace hb7 := hb6.trans (hb7.mono hb6.size); have qa7 := (hS.out _ hb7).1; have qb7 := (hS.out _ hb7).2) | (go_at_call 94; (with_reducible refine (Y1.out _ (hBw.trans (hb7.mono hBw.size))).mono ?_); rintro e w8 ⟨rfl, hb8⟩; replace hb8 := hb7.trans (hb8.mono hb7.size); have qa8 := (hS.out _ hb8).1; have qb8 := (hS.out _ hb8).2))
                go_returns
                exact ⟨by rw [HG.out]; rfl, hBw.trans (hb8.mono hBw.size)⟩
          · have HG : Hid (cmpL l r = if e2 = true then -1 else 1) := by show _ = _; rw [HF.out]; rfl
            clear HF Y1
            replace A2 : Hid (∀ w' (hb : Below w.heap.size w w'), Calls Tryz.prog 73 #[.agg #[.slice b m dap], .int .i64 (64 * (k : Int) + (c : Int))] w' fun e w'_1 => e = .returned (.bool false) ∧ Below w'.heap.size w' w'_1) := A2
            go_wp2_with (go_at_call 93; refine htz.out.mono ?_; rintro e w' ⟨rfl, rfl⟩)
            go_region_held3 (fun w' => w'.cell? ⟨w.heap.size, 0, none⟩ = some (.slice a n cap) ∧ w'.cell? ⟨w.heap.size + 1, 0, none⟩ = some (.slice b m dap))
              (first | exact hS.out _ hb3.drew | exact hS.out _ hb4 | exact hS.out _ hb5)
              (first | (go_at_call 73; (with_reducible refine (A1.out _ (hBw.trans ((hb3.drew).mono hBw.size))).mono ?_); rintro e w4 ⟨rfl, hb4⟩; replace hb4 := (hb3.drew).trans (hb4.mono (hb3.drew).size); have qa4 := (hS.out _ hb4).1; have qb4 := (hS.out _ hb4).2) | (go_at_call 73; (with_reducible refine (A2.out _ (hBw.trans (hb4.mono hBw.size))).mono ?_); rintro e w5 ⟨rfl, hb5⟩; replace hb5 := hb4.trans (hb5.mono hb4.size); have qa5 := (hS.out _ hb5).1; have qb5 := (hS.out _ hb5).2))
            all_goals
              have qa5 := (hS.out _ hb5).1
              have qb5 := (hS.out _ hb5).2
              cases e2
              · go_wp2_with (first | (go_at_call 73; (with_reducible refine (A1.out _ (hBw.trans (hb5.mono hBw.size))).mono ?_); rintro e w6 ⟨rfl, hb6⟩; replace hb6 := hb5.trans (hb6.mono hb5.size); have qa6 := (hS.out _ hb6).1; have qb6 := (hS.out _ hb6).2) | (go_at_call 94; (with_reducible refine (Y2.out _ (hBw.trans (hb6.mono hBw.size))).mono ?_); rintro e w7 ⟨rfl, hb7⟩; replace hb7 := hb6.trans (hb7.mono hb6.size); have qa7 := (hS.out _ hb7).1; have qb7 := (hS.out _ hb7).2) | (go_at_call 73; (with_reducible refine (A2.out _ (hBw.trans (hb7.mono hBw.size))).mono ?_); rintro e w8 ⟨rfl, hb8⟩; replace hb8 := hb7.trans (hb8.mono hb7.size); have qa8 := (hS.out _ hb8).1; have qb8 := (hS.out _ hb8).2))
                go_returns
                exact ⟨by rw [HG.out]; rfl, hBw.trans (hb8.mono hBw.size)⟩
              · go_wp2_with (first | (go_at_call 73; (with_reducible refine (A1.out _ (hBw.trans (hb5.mono hBw.size))).mono ?_); rintro e w6 ⟨rfl, hb6⟩; replace hb6 := hb5.trans (hb6.mono hb5.size); have qa6 := (hS.out _ hb6).1; have qb6 := (hS.out _ hb6).2) | (go_at_call 94; (with_reducible refine (Y2.out _ (hBw.trans (hb6.mono hBw.size))).mono ?_); rintro e w7 ⟨rfl, hb7⟩; replace hb7 := hb6.trans (hb7.mono hb6.size); have qa7 := (hS.out _ hb7).1; have qb7 := (hS.out _ hb7).2))
                go_returns
                exact ⟨by rw [HG.out]; rfl, hBw.trans (hb7.mono hBw.size)⟩
    · have hkq : k = q := by omega
      have HZ : Hid (cmpL l r = 0) := by
        have : l = r := asc_ext HR.out.asc KR.out.asc fun j => by
          rw [HR.out.mem_iff, KR.out.mem_iff]
          unfold mem
          by_cases hj : j / 64 < k
          · rw [hpre.out _ hj]
          · rw [wd_out (by have := hlens.out.1; omega), wd_out (by have := hlens.out.2; omega)]
        show _ = _
        rw [this, cmpL_self]
      go_wp2_with fail
      go_returns
      exact ⟨by rw [HZ.out]; rfl, hBw⟩
end Go.Proofs.YtadomogbakcokaaGreatDoor
end
