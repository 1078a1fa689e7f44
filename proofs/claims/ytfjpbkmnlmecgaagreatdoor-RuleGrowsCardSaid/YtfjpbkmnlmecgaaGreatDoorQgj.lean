/- Several of the texts below, joined: BtI BtJ BtK. -/
import Derived.RangeFuncNested
import Derived.RangeFuncBound
import Derived.RangeFuncCalls
import Derived.RangeFuncLeaves
import Derived.RangeFuncBox
import Derived.RangeFuncWrites
import Derived.Shelf.Abstract
import Derived.Shelf.RegionOpen
import Derived.WalkKit
import Derived.OwnWalkIn
import Derived.TacticsInMore
import Derived.LoopNIn
import Derived.LoopIn
import Derived.Maps.AppendAt
import Derived.Test.YtfjpbkmnlmecgaaGreatDoorQgi
import Derived.Lib.Builder
import Derived.Lib.AppendStr
import Derived.Lib.Slices
import Derived.Lib.Walk
import Derived.Laws.Externs
import Derived.Laws.IdiomCopy
section
/- Contract: the iterator over the members (All, All$1). -/
namespace Go.Proofs.YtfjpbkmnlmecgaaGreatDoor.Bz
open Go.RowKit Go.PlainAid Go.Shelf
attribute [local go_sem] Oper.semAt_some
set_option linter.unusedVariables false
set_option linter.unusedSimpArgs false
set_option maxHeartbeats 2000000

/-- x holds the bits of word k of what is still to come. -/
def Bits64 (k x : Nat) (rest : List Nat) : Prop := x < 18446744073709551616 ∧ (∀ j, j < 64 → (x.testBit j = true ↔ 64 * k + j ∈ rest)) ∧ (∀ y ∈ rest, 64 * k ≤ y) ∧ rest.Pairwise (· < ·)
theorem clear_low {x : Nat} (h0 : x ≠ 0) (hx : x < 18446744073709551616) : x &&& (x - 1) < x ∧ ∀ j, (x &&& (x - 1)).testBit j = (x.testBit j && !decide (j = Lib.ctz 64 x)) := by
  obtain ⟨h1, h2, h3⟩ := ctz_spec h0 hx
  generalize Lib.ctz 64 x = c at *
  obtain ⟨m, hm⟩ : ∃ m, x = 2 ^ c * (2 * m + 1) := by
    refine ⟨x / 2 ^ c / 2, ?_⟩
    have a : x % 2 ^ c = 0 := by
      apply Nat.eq_of_testBit_eq
      intro j
      rw [Nat.testBit_mod_two_pow, Nat.zero_testBit]
      by_cases hj : j < c
      · rw [h3 j hj]; simp
      · simp [hj]
    have b : x / 2 ^ c % 2 = 1 := by
      rw [Nat.testBit_eq_decide_div_mod_eq] at h2; simpa using h2
    have d := Nat.div_add_mod x (2 ^ c)
    have e := Nat.div_add_mod (x / 2 ^ c) 2
    rw [a, b] at *
    rw [e]; omega
  have hp : 1 ≤ 2 ^ c := Nat.one_le_two_pow
  have hx1 : x - 1 = 2 ^ c * (2 * m) + (2 ^ c - 1) := by
    rw [hm, Nat.mul_add, Nat.mul_one]; omega
  have hx0 : x = 2 ^ c * (2 * m + 1) + 0 := by rw [hm]; omega
  have key : ∀ j, (x &&& (x - 1)).testBit j = (x.testBit j && !decide (j = c)) := by
    intro j
    rw [Nat.testBit_and]
    have t1 : (x - 1).testBit j = if j < c then (2 ^ c - 1).testBit j else (2 * m).testBit (j - c) := by
      rw [hx1]; exact Nat.testBit_two_pow_mul_add _ (by omega) _
    have t0 : x.testBit j = if j < c then (0 : Nat).testBit j else (2 * m + 1).testBit (j - c) := by
      conv => lhs; rw [hx0]
      exact Nat.testBit_two_pow_mul_add _ (by omega) _
    by_cases hj : j < c
    · rw [h3 j hj]; rfl
    · by_cases hjc : j = c
      · subst hjc
        rw [t1, if_neg (Nat.lt_irrefl _)]; simp
      · rw [t1, if_neg hj, t0, if_neg hj, decide_eq_false hjc]
        obtain ⟨d, hd⟩ : ∃ d, j - c = d + 1 := ⟨j - c - 1, by omega⟩
        rw [hd, Nat.testBit_succ, Nat.testBit_succ, show 2 * m / 2 = m by omega, show (2 * m + 1) / 2 = m by omega]
        simp
  refine ⟨?_, key⟩
  have hle : x &&& (x - 1) ≤ x - 1 := Nat.and_le_right
  omega
theorem Bits64.next {k x : Nat} {rest : List Nat} (h : Bits64 k x rest) (h0 : x ≠ 0) : ∃ rest', rest = (64 * k + Lib.ctz 64 x) :: rest' ∧ Bits64 k (x &&& (x - 1)) rest' ∧ x &&& (x - 1) < x := by
  obtain ⟨hx, h1, h2, h3⟩ := h
  obtain ⟨c1, c2, c3⟩ := ctz_spec h0 hx
  obtain ⟨l1, l2⟩ := clear_low h0 hx
  generalize Lib.ctz 64 x = c at *
  have hm : 64 * k + c ∈ rest := (h1 c c1).1 c2
  match rest, h2, h3, hm, h1 with
  | [], _, _, hm, _ => simp at hm
  | y :: r, h2, h3, hm, h1 =>
    obtain ⟨p1, p2⟩ := List.pairwise_cons.1 h3
    have hy : y = 64 * k + c := by
      simp only [List.mem_cons] at hm
      rcases hm with hm | hm
      · exact hm.symm
      · have e1 := p1 _ hm
        have e2 := h2 y (by simp)
        have e3 := (h1 (y - 64 * k) (by omega)).2 (by rw [show 64 * k + (y - 64 * k) = y by omega]; simp)
        rw [c3 (y - 64 * k) (by omega)] at e3; cases e3
    refine ⟨r, by rw [hy], ⟨by omega, fun j hj => ?_, fun z hz => h2 z (by simp [hz]), p2⟩, l1⟩
    rw [l2 j, Bool.and_eq_true, h1 j hj, Bool.not_eq_true', decide_eq_false_iff_not, List.mem_cons]
    constructor
    · rintro ⟨a | a, b⟩
      · exact absurd (by omega) b
      · exact a
    · intro a
      have := p1 _ a
      exact ⟨.inr a, by omega⟩
theorem Bits64.done {k x : Nat} {rest : List Nat} (h : Bits64 k x rest) (h0 : x = 0) : ∀ y ∈ rest, 64 * (k + 1) ≤ y := by
  intro y hy
  have h1 := h.2.2.1 y hy
  by_cases hc : 64 * (k + 1) ≤ y
  · exact hc
  · have := (h.2.1 (y - 64 * k) (by omega)).2 (by rw [show 64 * k + (y - 64 * k) = y by omega]; exact hy)
    rw [h0, Nat.zero_testBit] at this; cases this
theorem Bits64.start {ws l pre rest : List Nat} {k : Nat} (h : Rp ws l) (hl : l = pre ++ rest) (hr : ∀ y ∈ rest, 64 * k ≤ y) (hp : ∀ y ∈ pre, y < 64 * k) : Bits64 k (wd ws k) rest := by
  have hpw := h.asc.1
  rw [hl, List.pairwise_append] at hpw
  refine ⟨wd_lt h.1 k, fun j hj => ?_, hr, hpw.2.1⟩
  rw [← mem_at ws k j hj, ← h.mem_iff, hl, List.mem_append]
  constructor
  · rintro (a | a)
    · have := hp _ a; omega
    · exact a
  · intro a; exact .inr a

def Tzn (n₀ : Nat) (w : World) : Prop := 1 < n₀ ∧ ∀ j, j < Lib.deBruijn64tab.length → w.cell? ⟨1, j, none⟩ = some (.int .u8 (Lib.deBruijn64tab.getD j 0))
theorem Tzn.below {n₀ : Nat} {w w' : World} (h : Tzn n₀ w) (hb : Below n₀ w w') : Tzn n₀ w' := ⟨h.1, fun j hj => (hb.cell (p := ⟨_, j, none⟩) h.1).trans (h.2 j hj)⟩
theorem tzn_any (x : Nat) (hx0 : x ≠ 0) (hx : x < 18446744073709551616) (n₀ : Nat) (w : World) (hT : Tzn n₀ w) :
    Calls Tryz.prog 180 #[.int .u64 x] w fun e w' => e = .returned (.int .i64 (Lib.ctz 64 x)) ∧ w' = w := by
  obtain ⟨hlow, hk⟩ := Lib.lowest_bit 64 x hx0 hx
  obtain ⟨hi, htab⟩ := Lib.deBruijn64_at _ hk
  have hcell := hT.2 _ hi
  rw [htab] at hcell
  exact tz_core x _ _ w (by simp; omega) (Go.Proofs.tz64_key x _ hx hx0 hlow) hi hk hcell

set_option maxRecDepth 100000 in
theorem all1_in (n : Nat) (hn : 1 ≤ n) (lk Bq n₀ b off len cap : Nat) (ws l : List Nat) (hr : Rp ws l) (hlen : ws.length = len) (hb : b < n₀) (J Jx : List Nat → World → Prop)
    (hY : ∀ pre x W, J pre W → pre.length < l.length → pre ++ [x] <+: l → YieldAt Fence.wide (n - 1) Tryz.prog lk #[.int .i64 ((x : Nat) : Int)] W fun e W' =>
      (e = .returned (.bool true) ∧ J (pre ++ [x]) W' ∧ Below n₀ W W') ∨ (e = .returned (.bool false) ∧ Jx (pre ++ [x]) W'))
    (W : World) (hT : Tzn n₀ W) (hBs : W.cell? ⟨Bq, 0, none⟩ = some (.slice (some ⟨b, off, none⟩) len cap)) (hc : ∀ j, j < len → W.cell? ⟨b, off + j, none⟩ = some (.int .u64 (wd ws j : Nat))) (h0 : J [] W) :
    CallsIn Fence.wide n Tryz.prog 179 #[.func (.yield lk) #[] #[], .pointer (some ⟨Bq, 0, none⟩)] W fun e W' => (∃ v, e = .returned v) ∧
      ((∃ ys, ys = l ∧ J ys W') ∨ (∃ pre, pre <+: l ∧ Jx pre W')) := by
  have hl64 := hr.2.2.1
  rw [hlen] at hl64
  refine callsIn_of_wp Tryz.func179 rfl trivial ?_ rfl
  simp only [Tryz.ntmps179, List.size_toArray, List.length_cons, List.length_nil, Nat.reduceAdd, Nat.reduceSub, Array.replicate_succ, Array.replicate_zero, List.push_toArray, List.append_toArray, List.nil_append, List.cons_append]
  have HY := Lib.hid hY
  have HC := Lib.hid hc
  have HR := Lib.hid hr
  have HT := Lib.hid hT
  have H0 := Lib.hid h0
  have HLEN := Lib.hid hlen
  clear hY hc hr hT h0 hlen
  gi_wp2
  gi_loopw [8] (fun i wr => ∃ (k : Nat) (pre rest : List Nat), k ≤ len ∧ i = .int .i64 k ∧ Hid (l = pre ++ rest) ∧ Hid (∀ y ∈ rest, 64 * k ≤ y) ∧ Hid (∀ y ∈ pre, y < 64 * k) ∧ Hid (J pre wr) ∧ Hid (Below n₀ W wr)) (fun i _ => len - (intOf i).toNat)
  case atStart => exact ⟨0, [], l, Nat.zero_le _, rfl, rfl, fun y _ => by omega, fun y hy => by simp at hy, H0.out, Below.refl _ _⟩
  case round =>
    obtain ⟨k, pre, rest, hk, rfl, hpr, hre, hpe, hJ, hB⟩ := hrel
    by_cases hlt : k < len
    · have c1 := (hB.out.cell (p := ⟨b, off + k, none⟩) hb).trans (HC.out k hlt)
      have hst := Lib.hid (Bits64.start HR.out hpr.out hre.out hpe.out)
      obtain ⟨x0, hx0⟩ : ∃ x0, x0 = wd ws k := ⟨_, rfl⟩
      rw [← hx0] at c1 hst
      clear hx0
      obtain ⟨wo, rfl⟩ : ∃ wo : World, wo = wr := ⟨_, rfl⟩
      gi_wp2
      gi_loopw [4] (fun v wr => ∃ (x : Nat) (pre rest : List Nat), v = .int .u64 x ∧ Hid (l = pre ++ rest) ∧ Hid (Bits64 k x rest) ∧ Hid (∀ y ∈ pre, y < 64 * (k + 1)) ∧ Hid (J pre wr) ∧ Hid (Below n₀ W wr)) (fun v _ => (intOf v).toNat)
      case atStart => exact ⟨x0, pre, rest, rfl, hpr.out, hst.out, fun y hy => by have := hpe.out y hy; omega, hJ.out, hB.out⟩
      case round =>
        clear hst hJ hB hpe hre hpr c1
        obtain ⟨x, pre, rest, rfl, hpr, hst, hpe, hJ, hB⟩ := hrel
        have hx64 := hst.out.1
        by_cases hx : x = 0
        · have HD := Lib.hid (hst.out.done hx)
          subst hx
          gi_wp2
          go_roundw
          case rel => exact ⟨k + 1, pre, rest, by omega, by go_num, hpr.out, HD.out, hpe.out, hJ.out, hB.out⟩
          case measure => simp [intOf]; omega
        · obtain ⟨rest2, hr2, hst2, hlt2⟩ := hst.out.next hx
          have hcz := (ctz_spec hx hx64).1
          have hlen : pre.length < l.length := by rw [hpr.out, hr2]; simp
          obtain ⟨fn, tmps, assign, body, hy, hRo⟩ := HY.out pre (64 * k + Lib.ctz 64 x) wr hJ.out hlen ⟨rest2, by rw [hpr.out, hr2]; simp⟩
          have htz := Lib.hid (fun w' hb => tzn_any x hx hx64 n₀ w' ((HT.out.below hB.out).below hb))
          have HX := Lib.hid hx
          have HR2 := Lib.hid hr2
          have HS2 := Lib.hid hst2
          have hx1 : ((x : Int) == 0) = false := beq_eq_false_iff_ne.2 (by omega)
          have hx2 : ((x : Int) != 0) = true := by rw [bne, hx1]; rfl
          have hand : bits .and .u64 (x : Int) (IntKind.u64.wrap ((x : Int) - 1)) = ((x &&& (x - 1) : Nat) : Int) := by
            have e : IntKind.u64.wrap ((x : Int) - 1) = ((x - 1 : Nat) : Int) := by rw [IntKind.wrap_u64]; omega
            rw [e]; exact u64_and_nat _ _ hx64 (by omega)
          have hand2 : bits .and .u64 (x : Int) ((x : Int) - 1) = ((x &&& (x - 1) : Nat) : Int) := by
            have e : (x : Int) - 1 = ((x - 1 : Nat) : Int) := by omega
            rw [e]; exact u64_and_nat _ _ hx64 (by omega)
          have hx3 : 1 ≤ x := by omega
          generalize Lib.ctz 64 x = c at *
          have he : ((64 * k + c : Nat) : Int) = 64 * (k : Int) + (c : Int) := by omega
          rw [he] at hy
          clear hx hr2 hst2 he
          gi_wp2
          refine ⟨trivial, (callsIn_wide.2 (htz.out _ (Below.refl _ _))).mono ?_⟩
          rintro e w' ⟨rfl, rfl⟩
          gi_wp2
          refine hRo.mono ?_
          rintro e W3 (⟨rfl, hJ3, hk3⟩ | ⟨rfl, hJx3⟩)
          · have HJ3 := Lib.hid hJ3
            have HK3 := Lib.hid hk3
            clear hJ3 hk3
            gi_wp2
            go_roundw
            case rel => exact ⟨x &&& (x - 1), pre ++ [64 * k + c], rest2, rfl, by first | (show True; trivial) | (rw [hpr.out, HR2.out]; simp; done) | (show _ = _; rw [hpr.out, HR2.out, List.append_assoc]; rfl), HS2.out, fun y hy => by
              rw [List.mem_append, List.mem_singleton] at hy
              rcases hy with hy | rfl
              · exact hpe.out y hy
              · omega, HJ3.out, hB.out.trans HK3.out⟩
            case measure => simp [intOf]; omega
          · have HJ3 := Lib.hid hJx3
            clear hJx3
            gi_wp2
            refine bodyPost_ret (results_none rfl _ _ _) rfl ?_
            exact ⟨⟨_, rfl⟩, .inr ⟨pre ++ [64 * k + c], ⟨rest2, by rw [hpr.out, HR2.out]; simp⟩, HJ3.out⟩⟩
    · have hkl : k = len := by omega
      have hnil : rest = [] := by
        cases rest with
        | nil => rfl
        | cons y r =>
          have h1 := hre.out y (by simp)
          have h2 := (HR.out.mem_iff y).1 (by rw [hpr.out]; simp)
          rw [mem_out (by rw [HLEN.out]; omega)] at h2; cases h2
      have hl : Hid (pre = l) := by show _ = _; rw [hpr.out, hnil, List.append_nil]
      clear hnil hkl
      gi_wp2
      go_end0
      exact ⟨⟨_, rfl⟩, .inl ⟨_, hl.out, hJ.out⟩⟩

set_option maxRecDepth 100000 in
theorem all1_nil_in (n : Nat) (lk Bq : Nat) (J : List Nat → World → Prop) (W : World) (hBs : W.cell? ⟨Bq, 0, none⟩ = some (.slice none 0 0)) (h0 : J [] W) :
    CallsIn Fence.wide n Tryz.prog 179 #[.func (.yield lk) #[] #[], .pointer (some ⟨Bq, 0, none⟩)] W fun e W' => (∃ v, e = .returned v) ∧ J [] W' := by
  refine callsIn_of_wp Tryz.func179 rfl trivial ?_ rfl
  simp only [Tryz.ntmps179, List.size_toArray, List.length_cons, List.length_nil, Nat.reduceAdd, Nat.reduceSub, Array.replicate_succ, Array.replicate_zero, List.push_toArray, List.append_toArray, List.nil_append, List.cons_append]
  have H0 := Lib.hid h0
  clear h0
  gi_wp2
  gi_loopw [8] (fun i wr => i = .int .i64 0 ∧ Hid (J [] wr)) (fun _ _ => 0)
  case atStart => exact ⟨rfl, H0.out⟩
  case round =>
    obtain ⟨rfl, hJs⟩ := hrel
    gi_wp2
    go_end0
    exact ⟨⟨_, rfl⟩, hJs.out⟩

theorem all_in (n : Nat) (a : Option Addr) (len cap : Nat) (w : World) :
    CallsIn Fence.wide n Tryz.prog 96 #[.agg #[.slice a len cap]] w fun e w' => e = .returned (.func (.func 179) #[] #[.pointer (some ⟨w.heap.size, 0, none⟩)]) ∧ w' = w.alloc (.cells #[.slice a len cap] 39) := by
  refine callsIn_of_wp Tryz.func96 rfl trivial ?_ rfl
  simp only [Tryz.ntmps96, List.size_toArray, List.length_cons, List.length_nil, Nat.reduceAdd, Nat.reduceSub, Array.replicate_succ, Array.replicate_zero, List.push_toArray, List.append_toArray, List.nil_append, List.cons_append]
  gi_wp2
  go_ret
  exact ⟨rfl, rfl⟩

/-- All hands back an iterator over the members. -/
theorem all_stops (n : Nat) (hn : 1 ≤ n) (Bq n₀ : Nat) (a : Option Addr) (len cap : Nat) (l : List Nat) (w : World) (hBs : Bq < w.heap.size) (hn₀ : n₀ ≤ w.heap.size) (hT : Tzn n₀ w)
    (hc : w.cell? ⟨Bq, 0, none⟩ = some (.slice a len cap)) (hI : Bs w a len cap l) (hblk : ∀ p, a = some p → p.block < n₀) :
    SeqStopsK Fence.wide n Tryz.prog 179 #[.pointer (some ⟨Bq, 0, none⟩)] (fun x : Nat => #[Value.int .i64 ((x : Nat) : Int)]) (Below n₀) (fun ys => ys = l) (fun pre => pre <+: l) l.length w := fun lk J Jx W hW _ _ hY h0 => by
  have hc' := (hW.cell (p := ⟨Bq, 0, none⟩) hBs).trans hc
  have hT' := hT.below (hW.mono hn₀)
  obtain ⟨ws, ⟨h1, h2, h3, ⟨rfl, rfl, rfl⟩ | ⟨b, o, rfl, ⟨hb, -⟩, hcs⟩⟩, hr⟩ := hI
  · have hl : l = [] := none_words hr (fun j hj => by omega)
    exact (all1_nil_in n lk Bq J W hc' h0).mono fun e W' ⟨he, hj⟩ => ⟨he, .inl ⟨[], hl.symm, hj⟩⟩
  · exact all1_in n hn lk Bq n₀ b o len cap ws l hr h1 (hblk _ rfl) J Jx (fun pre x W h1 h2 _ => hY pre x W h1 h2) W hT' hc' (fun j hj => (hW.cell (p := ⟨b, o + j, none⟩) hb).trans (hcs j hj)) h0

/-- All hands back an iterator over the members, each below 4096. -/
theorem all_stops4 (n : Nat) (hn : 1 ≤ n) (Bq n₀ : Nat) (a : Option Addr) (len cap : Nat) (l : List Nat) (w : World) (hBs : Bq < w.heap.size) (hn₀ : n₀ ≤ w.heap.size) (hT : Tzn n₀ w)
    (hc : w.cell? ⟨Bq, 0, none⟩ = some (.slice a len cap)) (hI : Bs w a len cap l) (hblk : ∀ p, a = some p → p.block < n₀) :
    SeqStopsK Fence.wide n Tryz.prog 179 #[.pointer (some ⟨Bq, 0, none⟩)] (fun x : {x : Nat // x < 4096} => #[Value.int .i64 ((x.1 : Nat) : Int)]) (Below n₀) (fun ys => ys.map (·.1) = l) (fun pre => pre.map (·.1) <+: l) l.length w := fun lk J Jx W hW _ _ hY h0 => by
  have hc' := (hW.cell (p := ⟨Bq, 0, none⟩) hBs).trans hc
  have hT' := hT.below (hW.mono hn₀)
  obtain ⟨ws, ⟨h1, h2, h3, ⟨rfl, rfl, rfl⟩ | ⟨b, o, rfl, ⟨hb, -⟩, hcs⟩⟩, hr⟩ := hI
  · have hl : l = [] := none_words hr (fun j hj => by omega)
    exact (all1_nil_in n lk Bq (fun _ W => J [] W) W hc' h0).mono fun e W' ⟨he, hj⟩ => ⟨he, .inl ⟨[], by rw [hl]; rfl, hj⟩⟩
  · refine (all1_in n hn lk Bq n₀ b o len cap ws l hr h1 (hblk _ rfl) (fun pre W => ∃ pre', pre'.map (·.1) = pre ∧ J pre' W) (fun pre W => ∃ pre', pre'.map (·.1) = pre ∧ Jx pre' W) ?_ W hT' hc' (fun j hj => (hW.cell (p := ⟨b, o + j, none⟩) hb).trans (hcs j hj)) ⟨[], rfl, h0⟩).mono ?_
    · rintro pre x W ⟨pre', rfl, hj⟩ hlen ⟨t, ht⟩
      have hx : x < 4096 := hr.asc.2 x (by rw [← ht]; simp)
      have hy := hY pre' ⟨x, hx⟩ W hj (by simpa using hlen)
      obtain ⟨fn, tmps, assign, body, hy1, hy2⟩ := hy
      refine ⟨fn, tmps, assign, body, hy1, hy2.mono ?_⟩
      rintro e W' (⟨he, hJ, hb⟩ | ⟨he, hJ⟩)
      · exact .inl ⟨he, ⟨_, by simp, hJ⟩, hb⟩
      · exact .inr ⟨he, _, by simp, hJ⟩
    · rintro e W' ⟨he, ⟨ys, rfl, pre', hp, hj⟩ | ⟨pre, hpre, pre', hp, hj⟩⟩
      · exact ⟨he, .inl ⟨_, hp, hj⟩⟩
      · exact ⟨he, .inr ⟨_, by simpa [hp] using hpre, hj⟩⟩
end Go.Proofs.YtfjpbkmnlmecgaaGreatDoor.Bz
end

section
/- Contract: List. -/
namespace Go.Proofs.YtfjpbkmnlmecgaaGreatDoor.Bz
open Go.RowKit Go.PlainAid Go.Shelf
attribute [local go_sem] Oper.semAt_some
set_option linter.unusedVariables false
set_option linter.unusedSimpArgs false
set_option maxHeartbeats 4000000

def i64v (x : Nat) : Value := .int .i64 ((x : Nat) : Int)
theorem info3i : (Tryz.prog.info? 3).map (fun i => (i.zero, i.size, i.bytes)) = some (some (.int .i64 0), 1, 8) := by kernel_rfl
theorem Tz.to {w : World} (h : Tz w) : Tzn w.heap.size w := h
theorem asc_length {l : List Nat} (h : Asc l) : l.length ≤ 4096 := by
  have : l = mlist (fun x => decide (x ∈ l)) := asc_ext h (asc_mlist _) fun x => by
    rw [mem_mlist, decide_eq_true_eq]; exact ⟨fun hx => ⟨h.2 x hx, hx⟩, fun hx => hx.2⟩
  rw [this]
  unfold mlist
  exact Nat.le_trans (List.length_filter_le _ _) (by simp)

end Go.Proofs.YtfjpbkmnlmecgaaGreatDoor.Bz
end

section
/- Contracts: strings.Builder's copyCheck, WriteByte, WriteString (the shelf's proofs, turned to this translation). -/
namespace Go.Proofs.YtfjpbkmnlmecgaaGreatDoor.Bz
open Go.RowKit Go.PlainAid
set_option linter.unusedVariables false
set_option linter.unusedSimpArgs false
set_option maxHeartbeats 2000000

theorem sizeBuilder : (Tryz.prog.info? 116).map (·.size) = some 2 := by kernel_rfl
theorem liesBuilder : liesAt Tryz.prog Tryz.prog.depth 116 (2 / Tryz.prog.cellsOf 116) 0 116 1 = true := by kernel_rfl
theorem infoByte : (Tryz.prog.info? 5).map (fun i => (i.zero, i.size, i.bytes)) = some (some (.int .u8 0), 1, 1) := by kernel_rfl
/-- The builder of the call's own (block b) holds the bytes l. -/
abbrev IsB (w : World) (B b : Nat) (l : List Value) : Prop := Lib.IsBuilder 116 5 B b l w

theorem row_cells {B k : Nat} {e : TypeId} {v : Value} {xs : List Value} {w : World} (h : w.ownsRow B e 1 v k xs) : ∀ (j : Nat) (o : Obj), v.ownBlock = some j → w.heap[j]? = some o → o.isCells = true := by
  intro j o hj ho
  rcases h.2 with ⟨rfl, _⟩ | ⟨g, cap, cur, rfl, _, hgb, _⟩
  · simp [Value.ownBlock] at hj
  · obtain rfl : g = j := by simpa [Value.ownBlock] using hj
    rw [hgb] at ho; cases ho; rfl

set_option maxRecDepth 100000 in
theorem copyCheck_used (b : Nat) (w : World) (h0 : w.cell? ⟨b, 0, none⟩ = some (.pointer (some ⟨b, 0, none⟩))) :
    Calls Tryz.prog 134 #[.pointer (some ⟨b, 0, none⟩)] w fun e w' => e = .returned (.tuple #[]) ∧ w' = w := by
  obtain ⟨j, hj, _⟩ := Option.map_eq_some_iff.1 sizeBuilder
  go_enter Tryz.func134, Tryz.ntmps134
  go_wp2
  rw [Lib.run_neq_ptr_same w _ Tryz.underlying114 hj]
  go_wp2
  go_end0
  exact ⟨rfl, rfl⟩
set_option maxRecDepth 100000 in
theorem copyCheck_fresh (b : Nat) (w : World) (h0 : w.cell? ⟨b, 0, none⟩ = some (.pointer none)) (hsh : w.shape? b = some (116, 2)) (hfz : w.frozen? ⟨b, 0, none⟩ = false) :
    Calls Tryz.prog 134 #[.pointer (some ⟨b, 0, none⟩)] w fun e w' => e = .returned (.tuple #[]) ∧ w' = w.setCell ⟨b, 0, none⟩ (.pointer (some ⟨b, 0, none⟩)) := by
  obtain ⟨j, hj, hjs⟩ := Option.map_eq_some_iff.1 sizeBuilder
  go_enter Tryz.func134, Tryz.ntmps134
  go_wp2
  rw [Lib.run_to_unsafe w ⟨b, 0, none⟩ Tryz.underlying114 Tryz.underlying269 hj (by rw [hjs]; decide) hsh (Nat.zero_lt_succ 1)]
  simp only [Result.andThen]
  rw [Oper.upon_value]
  go_wp2
  rw [run_callFunc_extern Tryz.func213 (by kernel_rfl) (by kernel_rfl) (by kernel_rfl) (e := Extern.AbiNoEscape.same) (by kernel_rfl)]
  rw [Lib.run_noEscape]
  simp only [Result.andThen]
  rw [Oper.upon_value]
  go_wp2
  rw [Lib.run_from_unsafe w ⟨b, 0, none⟩ Tryz.underlying269 Tryz.underlying114 hj hsh liesBuilder]
  simp only [Result.andThen]
  rw [Oper.upon_value]
  go_wp2
  go_end0
  exact ⟨rfl, rfl⟩
theorem copyCheck_any (B b : Nat) (bs : List Value) (w : World) (h : IsB w B b bs) :
    Calls Tryz.prog 134 #[.pointer (some ⟨b, 0, none⟩)] w fun e w' => e = .returned (.tuple #[]) ∧ (Lib.BuilderAt 116 5 B b (.pointer (some ⟨b, 0, none⟩)) bs w' ∧ Below B w w' ∧ KeepsOthers w w') := by
  rcases h with h | h
  · refine (copyCheck_fresh b w h.cell0 h.shape h.frozen0).mono ?_
    rintro e w' ⟨rfl, rfl⟩
    exact ⟨rfl, h.used _, (Below.refl B w).setCell (p := ⟨b, 0, none⟩) h.1 _, KeepsOthers.setCell _ _ _⟩
  · refine (copyCheck_used b w h.cell0).mono ?_
    rintro e w' ⟨rfl, rfl⟩
    exact ⟨rfl, h, Below.refl B _, KeepsOthers.refl _⟩

set_option maxRecDepth 100000 in
theorem writeString_any (B b : Nat) (bs : List Value) (s : ByteArray) (w : World) (h : IsB w B b bs) (hlen : bs.length + s.size ≤ 140737488355328) (hBw : B ≤ w.heap.size) :
    Calls Tryz.prog 56 #[.pointer (some ⟨b, 0, none⟩), .string s] w fun e w' => e = .returned (.tuple #[.int .i64 s.size, .nilIface]) ∧ (IsB w' B b (bs ++ Lib.strCells s) ∧ Below B w w' ∧ KeepsOthers w w') := by
  obtain ⟨i0, hi, hz0, hz1, hz2⟩ := info_parts infoByte
  go_enter Tryz.func56, Tryz.ntmps56
  go_wp2_with (go_at_call 134; refine (copyCheck_any B b bs _ h).mono ?_)
  rintro e w1 ⟨rfl, h1, hb1, hk1⟩
  obtain ⟨hB, v, hbk, hown, hne⟩ := h1
  have c0 : w1.cell? ⟨b, 0, none⟩ = some (.pointer (some ⟨b, 0, none⟩)) := by rw [Lib.cell_of_heap hbk]; rfl
  have c1 : w1.cell? ⟨b, 1, none⟩ = some v := by rw [Lib.cell_of_heap hbk]; rfl
  go_wp2_with (at_builtin; refine Lib.wpList_append_own_string _ rfl _ _ 23 9 rfl B 5 i0 Tryz.underlying23 Tryz.underlying9 hi hz0 hz1 hz2 _ _ _ rfl hown s rfl ?c3 ?c4 ?c5 ?_)
  case c3 => unfold maxLen; omega
  case c4 => omega
  case c5 => have := hb1.size; omega
  intro v' w2 hown' hgrow _
  have HK2 := Lib.hid (fun q : Value => (hk1.trans (KeepsOthers.of_grownBy hgrow (row_cells hown))).trans (KeepsOthers.setCell w2 ⟨b, 1, none⟩ q))
  have hlt : b < w1.heap.size := by
    rcases Nat.lt_or_ge b w1.heap.size with h' | h'
    · exact h'
    · simp [Array.getElem?_eq_none h'] at hbk
  have hb2 : w2.heap[b]? = some (.cells #[.pointer (some ⟨b, 0, none⟩), v] 116 (0, 0)) := by
    rw [hgrow.block b hlt (fun e => hne e.symm)]
    exact hbk
  have d0 : w2.cell? ⟨b, 0, none⟩ = some (.pointer (some ⟨b, 0, none⟩)) := by rw [Lib.cell_of_heap hb2]; rfl
  have d1 : w2.cell? ⟨b, 1, none⟩ = some v := by rw [Lib.cell_of_heap hb2]; rfl
  have f1 : w2.frozen? ⟨b, 1, none⟩ = false := Lib.frozen_of_heap hb2 1
  obtain ⟨ao, n', cap, rfl⟩ : ∃ ao n' cap, v' = .slice ao n' cap := by
    rcases hown'.2 with ⟨hv, _⟩ | ⟨g, cap, cur, hv, _⟩
    · exact ⟨_, _, _, hv⟩
    · exact ⟨_, _, _, hv⟩
  go_wp2
  go_ret2
  refine ⟨rfl, .inr ?_, ?_, HK2.out _⟩
  · exact Lib.BuilderAt.put (T := 116) (e := 5) hB hb2 (bs' := bs ++ Lib.strCells s) (by simpa [Lib.strCells_length] using hown') (by decide)
  · exact (hb1.grown hgrow (by have := hb1.size; omega) (fun k hk => (hown.lt k hk).1)).setCell (p := ⟨b, 1, none⟩) hB _
end Go.Proofs.YtfjpbkmnlmecgaaGreatDoor.Bz
end
