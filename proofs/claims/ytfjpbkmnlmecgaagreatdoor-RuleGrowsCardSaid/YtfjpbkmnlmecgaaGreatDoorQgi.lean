/- Several of the texts below, joined: BtB BtC BtD BtE BtF BtG BtH. -/
import Derived.Test.YtfjpbkmnlmecgaaGreatDoorQgh
import Derived.Test.YtfjpbkmnlmecgaaGreatDoorQgb
import Derived.Shelf.Spec.TrailingZeros
import Derived.Laws.OwnMore
import Derived.OwnWalk
import Derived.Laws.CopyOwn
import Derived.Laws.AppendOwnNone
import Derived.StillTailTactics
section
/- Contracts: TrailingZeros64, Equal, Within, Meets, Len, Least, Greatest, beyond. -/
namespace Go.Proofs.YtfjpbkmnlmecgaaGreatDoor.Bz
open Go.RowKit Go.PlainAid
set_option linter.unusedVariables false
set_option linter.unusedSimpArgs false
set_option maxHeartbeats 1000000

def Tz (w : World) : Prop := 1 < w.heap.size ∧ ∀ j, j < Lib.deBruijn64tab.length → w.cell? ⟨1, j, none⟩ = some (.int .u8 (Lib.deBruijn64tab.getD j 0))
theorem Tz.below {w w' : World} (h : Tz w) (hb : Below w.heap.size w w') : Tz w' :=
  ⟨Nat.lt_of_lt_of_le h.1 hb.size, fun j hj => (hb.cell (p := ⟨_, j, none⟩) h.1).trans (h.2 j hj)⟩

theorem tz_core (x k idx : Nat) (w : World) (hx0 : ((x : Int) == 0) = false)
    (key : IntKind.u64.wrap (bits BinOp.and IntKind.u64 (x : Int) (IntKind.u64.wrap (-(x : Int))) * 285870213051353865) / 288230376151711744 = (idx : Int))
    (hi : idx < 64) (hk : k < 64) (hcell : w.cell? ⟨1, idx, none⟩ = some (.int .u8 k)) :
    Calls Tryz.prog 180 #[.int .u64 x] w fun e w' => e = .returned (.int .i64 k) ∧ w' = w := by
  go_enter Tryz.func180, Tryz.ntmps180
  go_wp2_with (simp only [key])
  go_ret
  exact ⟨rfl, rfl⟩
theorem tz_any (x : Nat) (hx0 : x ≠ 0) (hx : x < 18446744073709551616) (w : World) (hT : Tz w) :
    Calls Tryz.prog 180 #[.int .u64 x] w fun e w' => e = .returned (.int .i64 (Lib.ctz 64 x)) ∧ w' = w := by
  obtain ⟨hlow, hk⟩ := Lib.lowest_bit 64 x hx0 hx
  obtain ⟨hi, htab⟩ := Lib.deBruijn64_at _ hk
  have hcell := hT.2 _ hi
  rw [htab] at hcell
  exact tz_core x _ _ w (by simp; omega) (Go.Proofs.tz64_key x _ hx hx0 hlow) hi hk hcell

theorem equal_any (a b : Option Addr) (n m cap dap : Nat) (l r : List Nat) (w : World) (h : Bs w a n cap l) (k : Bs w b m dap r) :
    Calls Tryz.prog 74 #[.agg #[.slice a n cap], .agg #[.slice b m dap]] w fun e w' => e = .returned (.bool (decide (l = r))) ∧ Below w.heap.size w w' := by
  obtain ⟨ws, ⟨h1, h2, h3, h4⟩, hr⟩ := h
  obtain ⟨vs, ⟨k1, k2, k3, k4⟩, kr⟩ := k
  have hiff := eq_words hr kr
  rw [h1, k1] at hiff
  clear h1 k1 hr kr
  by_cases hnm : n = m
  · subst hnm
    have HI := Lib.hid hiff
    clear hiff
    rcases h4 with ⟨rfl, rfl, rfl⟩ | ⟨b1, o1, rfl, ⟨hb1, -⟩, hc1⟩
    · have hres : decide (l = r) = true := decide_eq_true (HI.out.2 ⟨rfl, fun j hj => by omega⟩)
      rw [hres]
      clear k4
      go_enter Tryz.func74, Tryz.ntmps74
      go_wp2_with fail
      go_loop [17] (fun v => v = .int .i64 0) (fun _ => 0)
      case atStart => rfl
      case round =>
        obtain rfl := hrel
        go_wp2_with fail
        go_returns
        exact ⟨rfl, by go_grown⟩
    · rcases k4 with ⟨rfl, rfl, rfl⟩ | ⟨b2, o2, rfl, ⟨hb2, -⟩, hc2⟩
      · have hres : decide (l = r) = true := decide_eq_true (HI.out.2 ⟨rfl, fun j hj => by omega⟩)
        rw [hres]
        clear hc1
        go_enter Tryz.func74, Tryz.ntmps74
        go_wp2_with fail
        go_loop [17] (fun v => v = .int .i64 0) (fun _ => 0)
        case atStart => rfl
        case round =>
          obtain rfl := hrel
          go_wp2_with fail
          go_returns
          exact ⟨rfl, by go_grown⟩
      · have HC1 := Lib.hid hc1
        have HC2 := Lib.hid hc2
        clear hc1 hc2
        go_enter Tryz.func74, Tryz.ntmps74
        go_wp2_with fail
        go_loop [17] (fun v => ∃ k : Nat, k ≤ n ∧ v = .int .i64 k ∧ Hid (∀ j, j < k → wd ws j = wd vs j)) (fun v => n - (intOf v).toNat)
        case atStart => exact ⟨0, Nat.zero_le _, rfl, fun j hj => by omega⟩
        case round =>
          obtain ⟨k, hk, rfl, hpre⟩ := hrel
          by_cases hlt : k < n
          · have c1 := HC1.out k hlt
            have c2 := HC2.out k hlt
            by_cases hx : wd ws k = wd vs k
            · have HX := Lib.hid hx
              rw [← hx] at c2
              clear hx
              go_wp2_with fail
              go_round
              case rel => exact ⟨k + 1, by omega, by go_num, fun j hj => by
                by_cases hjk : j = k
                · rw [hjk]; exact HX.out
                · exact hpre.out j (by omega)⟩
              case measure => simp [intOf]; omega
            · have hd : decide (l = r) = false := decide_eq_false (fun e => hx ((HI.out.1 e).2 k hlt))
              have hx1 : (((wd ws k : Nat) : Int) == ((wd vs k : Nat) : Int)) = false := beq_eq_false_iff_ne.2 (by omega)
              have hx2 : (((wd ws k : Nat) : Int) != ((wd vs k : Nat) : Int)) = true := by rw [bne, hx1]; rfl
              have HD := Lib.hid hd
              clear hx hd
              go_wp2_with fail
              go_returns
              exact ⟨ret_bool HD.out.symm, by go_grown⟩
          · have hd : decide (l = r) = true := decide_eq_true (HI.out.2 ⟨by trivial, fun j hj => hpre.out j (by omega)⟩)
            have HD := Lib.hid hd
            clear hd
            go_wp2_with fail
            go_returns
            exact ⟨ret_bool HD.out.symm, by go_grown⟩
  · have hres : decide (l = r) = false := decide_eq_false (fun e => hnm (hiff.1 e).1)
    have e1 : ((n : Int) == (m : Int)) = false := beq_eq_false_iff_ne.2 (by omega)
    have e2 : ((n : Int) != (m : Int)) = true := by rw [bne, e1]; rfl
    rw [hres]
    clear hres hiff h4 k4 hnm
    go_enter Tryz.func74, Tryz.ntmps74
    go_wp2_with fail
    go_returns
    exact ⟨rfl, by go_grown⟩

theorem within_any (a b : Option Addr) (n m cap dap : Nat) (l r : List Nat) (w : World) (h : Bs w a n cap l) (k : Bs w b m dap r) :
    Calls Tryz.prog 61 #[.agg #[.slice a n cap], .agg #[.slice b m dap]] w fun e w' => e = .returned (.bool (decide (∀ x ∈ l, x ∈ r))) ∧ Below w.heap.size w w' := by
  obtain ⟨ws, ⟨h1, h2, h3, h4⟩, hr⟩ := h
  obtain ⟨vs, kw, kr⟩ := k
  have hiff := sub_words hr kr
  have hn64 := hr.2.2.1
  rw [h1] at hiff hn64
  have hwl := Lib.hid (fun k => wd_lt hr.1 k)
  have hvl := Lib.hid (fun k => wd_lt kr.1 k)
  have hW := Lib.hid (fun (k : Nat) w' (hk : k ≤ 4096) (hb : Below w.heap.size w w') => word_any b m dap k vs w' (kw.below hb) hk)
  clear h1 hr kr kw
  have HI := Lib.hid hiff
  clear hiff
  rcases h4 with ⟨rfl, rfl, rfl⟩ | ⟨b1, o1, rfl, ⟨hb1, -⟩, hc1⟩
  · have hres : decide (∀ x ∈ l, x ∈ r) = true := decide_eq_true (HI.out.2 (fun j hj => by omega))
    rw [hres]
    go_enter Tryz.func61, Tryz.ntmps61
    go_wp2_with fail
    go_loopw [10] (fun v wr => v = .int .i64 0 ∧ Below w.heap.size w wr) (fun _ _ => 0)
    case atStart => exact ⟨rfl, by go_grown⟩
    case round =>
      obtain ⟨rfl, hbr⟩ := hrel
      go_wp2_with fail
      go_returns
      exact ⟨rfl, hbr⟩
  · have HC1 := Lib.hid hc1
    clear hc1
    go_enter Tryz.func61, Tryz.ntmps61
    go_wp2_with fail
    go_loopw [10] (fun v wr => ∃ k : Nat, k ≤ n ∧ v = .int .i64 k ∧ Hid (∀ j, j < k → ldf (wd ws j) (wd vs j) = 0) ∧ Below w.heap.size w wr ∧ w.heap.size + 2 ≤ wr.heap.size ∧ wr.cell? ⟨w.heap.size + 1, 0, none⟩ = some (.slice b m dap)) (fun v _ => n - (intOf v).toNat)
    case atStart => exact ⟨0, Nat.zero_le _, rfl, fun j hj => by omega, by go_grown, by simp, by simp⟩
    case round =>
      obtain ⟨k, hk, rfl, hpre, hbr, hzr, hcb⟩ := hrel
      by_cases hlt : k < n
      · have c1 := (hbr.cell (p := ⟨b1, o1 + k, none⟩) hb1).trans (HC1.out k hlt)
        have hand : bits .andNot .u64 ((wd ws k : Nat) : Int) ((wd vs k : Nat) : Int) = ((ldf (wd ws k) (wd vs k) : Nat) : Int) := u64_andNot_nat _ _ (hwl.out k) (hvl.out k)
        by_cases hx : ldf (wd ws k) (wd vs k) = 0
        · have HX := Lib.hid hx
          rw [hx] at hand
          clear hx
          go_wp2_with (go_at_call 63; refine (hW.out k _ (by omega) hbr).mono ?_; rintro e w2 ⟨rfl, hb2⟩)
          go_roundw
          case rel => exact ⟨k + 1, by omega, by go_num, fun j hj => by
            by_cases hjk : j = k
            · rw [hjk]; exact HX.out
            · exact hpre.out j (by omega), hbr.trans (hb2.mono hbr.size), Nat.le_trans hzr hb2.size, (hb2.cell (p := ⟨w.heap.size + 1, 0, none⟩) (by exact hzr)).trans hcb⟩
          case measure => simp [intOf]; omega
        · have hd : decide (∀ x ∈ l, x ∈ r) = false := decide_eq_false (fun e => hx (HI.out.1 e k hlt))
          have hx1 : (((ldf (wd ws k) (wd vs k) : Nat) : Int) == 0) = false := beq_eq_false_iff_ne.2 (by omega)
          have hx2 : (((ldf (wd ws k) (wd vs k) : Nat) : Int) != 0) = true := by rw [bne, hx1]; rfl
          have HD := Lib.hid hd
          clear hx hd
          go_wp2_with (go_at_call 63; refine (hW.out k _ (by omega) hbr).mono ?_; rintro e w2 ⟨rfl, hb2⟩)
          go_returns
          exact ⟨ret_bool HD.out.symm, hbr.trans (hb2.mono hbr.size)⟩
      · have hd : decide (∀ x ∈ l, x ∈ r) = true := decide_eq_true (HI.out.2 (fun j hj => hpre.out j (by omega)))
        have HD := Lib.hid hd
        clear hd
        go_wp2_with fail
        go_returns
        exact ⟨ret_bool HD.out.symm, hbr⟩
end Go.Proofs.YtfjpbkmnlmecgaaGreatDoor.Bz
end

section
/- Contracts: Meets, Len, Least, Greatest, beyond. -/
namespace Go.Proofs.YtfjpbkmnlmecgaaGreatDoor.Bz
open Go.RowKit Go.PlainAid
set_option linter.unusedVariables false
set_option linter.unusedSimpArgs false
set_option maxHeartbeats 1000000

theorem meets_any (a b : Option Addr) (n m cap dap : Nat) (l r : List Nat) (w : World) (h : Bs w a n cap l) (k : Bs w b m dap r) :
    Calls Tryz.prog 62 #[.agg #[.slice a n cap], .agg #[.slice b m dap]] w fun e w' => e = .returned (.bool (decide (∃ x ∈ l, x ∈ r))) ∧ Below w.heap.size w w' := by
  obtain ⟨ws, ⟨h1, h2, h3, h4⟩, hr⟩ := h
  obtain ⟨vs, ⟨k1, k2, k3, k4⟩, kr⟩ := k
  have hiff := meet_words hr kr
  rw [h1, k1] at hiff
  have hwl := Lib.hid (fun k => wd_lt hr.1 k)
  have hvl := Lib.hid (fun k => wd_lt kr.1 k)
  clear h1 k1 hr kr
  have HI := Lib.hid hiff
  clear hiff
  obtain ⟨q, hq⟩ : ∃ q : Nat, min (n : Int) (m : Int) = q := ⟨min n m, by omega⟩
  have hqm : q = min n m := by omega
  by_cases hq0 : q = 0
  · have hres : decide (∃ x ∈ l, x ∈ r) = false := decide_eq_false (fun e => by obtain ⟨j, hj, _⟩ := HI.out.1 e; omega)
    rw [hres]
    subst hq0
    clear h4 k4 hqm hres
    go_enter Tryz.func62, Tryz.ntmps62
    go_wp2_with fail
    go_loopw [13] (fun v wr => v = .int .i64 0 ∧ Below w.heap.size w wr) (fun _ _ => 0)
    case atStart => exact ⟨rfl, by go_grown⟩
    case round =>
      obtain ⟨rfl, hbr⟩ := hrel
      go_wp2_with fail
      go_returns
      exact ⟨rfl, hbr⟩
  · rcases h4 with ⟨rfl, rfl, rfl⟩ | ⟨b1, o1, rfl, ⟨hb1, -⟩, hc1⟩
    · omega
    rcases k4 with ⟨rfl, rfl, rfl⟩ | ⟨b2, o2, rfl, ⟨hb2, -⟩, hc2⟩
    · omega
    have HC1 := Lib.hid hc1
    have HC2 := Lib.hid hc2
    have hqn : q ≤ n := by omega
    have hqk : q ≤ m := by omega
    have HQ := Lib.hid hqm
    clear hc1 hc2 hqm hq0
    go_enter Tryz.func62, Tryz.ntmps62
    go_wp2_with fail
    go_loopw [13] (fun v wr => ∃ k : Nat, k ≤ q ∧ v = .int .i64 k ∧ Hid (∀ j, j < k → wd ws j &&& wd vs j = 0) ∧ Below w.heap.size w wr ∧ w.heap.size + 2 ≤ wr.heap.size ∧ wr.cell? ⟨w.heap.size, 0, none⟩ = some (.slice (some ⟨b1, o1, none⟩) n cap) ∧ wr.cell? ⟨w.heap.size + 1, 0, none⟩ = some (.slice (some ⟨b2, o2, none⟩) m dap)) (fun v _ => q - (intOf v).toNat)
    case atStart => exact ⟨0, Nat.zero_le _, rfl, fun j hj => by omega, by go_grown, by simp, by simp, by simp⟩
    case round =>
      obtain ⟨k, hk, rfl, hpre, hbr, hzr, hca, hcb⟩ := hrel
      by_cases hlt : k < q
      · have c1 := (hbr.cell (p := ⟨b1, o1 + k, none⟩) hb1).trans (HC1.out k (by omega))
        have c2 := (hbr.cell (p := ⟨b2, o2 + k, none⟩) hb2).trans (HC2.out k (by omega))
        have hand : bits .and .u64 ((wd ws k : Nat) : Int) ((wd vs k : Nat) : Int) = ((wd ws k &&& wd vs k : Nat) : Int) := u64_and_nat _ _ (hwl.out k) (hvl.out k)
        have i1 : (k : Int) < (n : Int) := by omega
        have i2 : (k : Int) < (m : Int) := by omega
        have i0 : (0 : Int) ≤ (k : Int) := by omega
        obtain ⟨y, hy⟩ : ∃ y, y = wd ws k &&& wd vs k := ⟨_, rfl⟩
        rw [← hy] at hand
        have HY := Lib.hid hy
        clear hy
        by_cases hx : y = 0
        · have HX := Lib.hid hx
          rw [hx] at hand
          clear hx
          go_wp2_with fail
          go_quiet (fail)
          go_wp2_with fail
          go_roundw
          case rel => exact ⟨k + 1, by omega, by go_num, fun j hj => by
            by_cases hjk : j = k
            · rw [hjk, ← HY.out]; exact HX.out
            · exact hpre.out j (by omega), bdr hbr _, hzr, hca, hcb⟩
          case measure => simp [intOf]; omega
        · have hd : decide (∃ x ∈ l, x ∈ r) = true := decide_eq_true (HI.out.2 ⟨k, by rw [← HQ.out]; exact hlt, by rw [← HY.out]; exact hx⟩)
          have hx1 : ((y : Int) == 0) = false := beq_eq_false_iff_ne.2 (by omega)
          have hx2 : ((y : Int) != 0) = true := by rw [bne, hx1]; rfl
          have HD := Lib.hid hd
          clear hx hd
          go_wp2_with fail
          go_quiet (fail)
          go_wp2_with fail
          go_returns
          exact ⟨ret_bool HD.out.symm, bdr hbr _⟩
      · have hd : decide (∃ x ∈ l, x ∈ r) = false := decide_eq_false (fun e => by
          obtain ⟨j, hj, h⟩ := HI.out.1 e
          rw [← HQ.out] at hj
          exact h (hpre.out j (by omega)))
        have HD := Lib.hid hd
        clear hd
        go_wp2_with fail
        go_returns
        exact ⟨ret_bool HD.out.symm, hbr⟩

def firstP (l : List Nat) : Ending := .returned (.tuple #[.int .i64 (l.headD 0 : Nat), .bool (!l.isEmpty)])
def lastP (l : List Nat) : Ending := .returned (.tuple #[.int .i64 (l.getLastD 0 : Nat), .bool (!l.isEmpty)])
theorem bitLen_same (x : Nat) (hx : x < 18446744073709551616) : Lib.bitLen x = bitLen x := by
  induction x using Nat.strongRecOn with
  | _ x ih =>
    by_cases h0 : x = 0
    · subst h0; decide
    · rw [Lib.bitLen_half x h0 hx]
      by_cases h1 : x / 2 = 0
      · have : x = 1 := by omega
        subst this; decide
      · rw [ih (x / 2) (by omega) (by omega)]
        have := bitLen_shift x 1 (by simpa using h1)
        rw [this]
theorem greatest_any (a : Option Addr) (n cap : Nat) (l : List Nat) (w : World) (h : Bs w a n cap l) :
    Calls Tryz.prog 187 #[.agg #[.slice a n cap]] w fun e w' => e = lastP l ∧ Below w.heap.size w w' := by
  have hE := Lib.hid (fun w' (hb : Below w.heap.size w w') => empty_any a n cap l w' (h.below hb))
  obtain ⟨ws, ⟨h1, h2, h3, h4⟩, hr⟩ := h
  have hn64 := hr.2.2.1
  rw [h1] at hn64
  by_cases hn : n = 0
  · have hl : l = [] := none_words hr (fun j hj => by omega)
    subst hl
    have hd : decide (([] : List Nat) = []) = true := rfl
    rw [hd] at hE
    clear h4 hr h1 hd
    subst hn
    go_enter Tryz.func187, Tryz.ntmps187
    go_wp2_with (go_at_call 23; refine (hE.out _ (by go_grown)).mono ?_; rintro e w2 ⟨rfl, hb2⟩)
    go_ret2
    exact ⟨rfl, bel1 hb2⟩
  · rcases h4 with ⟨rfl, rfl, rfl⟩ | ⟨b1, o1, rfl, ⟨hb1, -⟩, hc1⟩
    · omega
    obtain ⟨g0, g1, g2, g4⟩ := greatest_words hr (by omega)
    rw [h1] at g0 g2 g4
    have g3 : l.isEmpty = false := by cases l with | nil => exact absurd rfl g1 | cons => rfl
    have HF : Hid (lastP l = .returned (.tuple #[.int .i64 (64 * ((n : Int) - 1) + (bitLen (wd ws (n - 1)) : Nat) - 1), .bool true])) := by
      show _ = _
      unfold lastP
      rw [g2, g3, show ((64 * (n - 1) + bitLen (wd ws (n - 1)) - 1 : Nat) : Int) = 64 * ((n : Int) - 1) + (bitLen (wd ws (n - 1)) : Nat) - 1 by omega]; rfl
    have hd : decide (l = []) = false := decide_eq_false g1
    rw [hd] at hE
    have c1 := hc1 (n - 1) (by omega)
    have hx := wd_lt hr.1 (n - 1)
    have hL := Lib.hid (fun w => Tryz.bits_Len64 ((wd ws (n - 1) : Nat) : Int) w (by omega) (by omega))
    have e0 : Lib.bitLen ((wd ws (n - 1) : Nat) : Int).toNat = bitLen (wd ws (n - 1)) := by rw [Int.toNat_natCast]; exact bitLen_same _ hx
    rw [e0] at hL
    generalize wd ws (n - 1) = x at *
    generalize bitLen x = y at *
    have hn1 : 0 < n := by omega
    clear hc1 h1 hr g1 g2 g3 hd hx e0 hn
    go_enter Tryz.func187, Tryz.ntmps187
    go_wp2_with (first | (go_at_call 23; refine (hE.out _ (by go_grown)).mono ?_; rintro e w2 ⟨rfl, hb2⟩; have hb3 := bel1 hb2; have q0 : w2.cell? ⟨w.heap.size, 0, none⟩ = some (.slice (some ⟨b1, o1, none⟩) n cap) := (hb2.cell (p := ⟨w.heap.size, 0, none⟩) (by simp)).trans (by simp); have q1 := (hb3.cell (p := ⟨b1, o1 + (n - 1), none⟩) hb1).trans c1) | (go_at_call 239; refine (hL.out _).mono ?_; rintro e w3 ⟨rfl, rfl⟩))
    go_ret2
    exact ⟨HF.out.symm, hb3⟩

end Go.Proofs.YtfjpbkmnlmecgaaGreatDoor.Bz
end

section
/- Contracts: Or, And, Minus. -/
namespace Go.Proofs.YtfjpbkmnlmecgaaGreatDoor.Bz
open Go.RowKit Go.PlainAid
set_option linter.unusedVariables false
set_option linter.unusedSimpArgs false
set_option maxHeartbeats 2000000

def u64v (x : Nat) : Value := .int .u64 (x : Nat)
theorem info64 : (Tryz.prog.info? 29).map (fun i => (i.zero, i.size, i.bytes)) = some (some (.int .u64 0), 1, 8) := by kernel_rfl
/-- The call's own row (block g) of q words. -/
def Row (w : World) (B g q : Nat) (us : List Nat) : Prop := w.ownsRow B 29 1 (.slice (some ⟨g, 0, none⟩) q q) q (us.map u64v)
theorem Row.len {w : World} {B g q : Nat} {us : List Nat} (h : Row w B g q us) : us.length = q := by
  have := h.1; rw [List.length_map] at this; omega
theorem Row.lt {w : World} {B g q : Nat} {us : List Nat} (h : Row w B g q us) : B ≤ g ∧ g < w.heap.size := World.ownsRow.lt h g rfl
theorem Row.cell {w : World} {B g q : Nat} {us : List Nat} (h : Row w B g q us) {j : Nat} (hj : j < q) : w.cell? ⟨g, j, none⟩ = some (.int .u64 (wd us j : Nat)) := by
  rw [World.ownsRow.cellAt h j (by omega), List.getElem?_map]
  rw [wd_get (by rw [h.len]; exact hj), List.getElem?_eq_getElem (by rw [h.len]; exact hj)]; rfl
theorem Row.free {w : World} {B g q : Nat} {us : List Nat} (h : Row w B g q us) (j : Nat) : w.frozen? ⟨g, j, none⟩ = false := World.ownsRow.frozenAt h j
theorem Row.set {w : World} {B g q : Nat} {us : List Nat} (h : Row w B g q us) (k x : Nat) : Row (w.setCell ⟨g, k, none⟩ (.int .u64 (x : Nat))) B g q (us.set k x) := by
  have := (World.ownsRow.stored h k (.int .u64 (x : Nat))).1
  unfold Row
  rw [List.map_set]
  exact this
theorem Row.other {w : World} {B g q : Nat} {us : List Nat} (h : Row w B g q us) {a : Addr} (hne : g ≠ a.block) (u : Value) : Row (w.setCell a u) B g q us :=
  owns_set h (fun b hb => by cases hb; exact hne) u
theorem Row.below {w w' : World} {B g q : Nat} {us : List Nat} (h : Row w B g q us) (hb : Below w.heap.size w w') : Row w' B g q us := owns_below h (Nat.le_refl _) hb
theorem own_typ {w : World} {B g n cap : Nat} {xs : List Value} (h : w.ownsRow B 29 1 (.slice (some ⟨g, 0, none⟩) n cap) n xs) : ∃ cs fz, w.heap[g]? = some (.cells cs 29 fz) := by
  rcases h.2 with ⟨h1, _⟩ | ⟨g', cap', cur, h1, _, h2, _⟩
  · cases h1
  · injection h1 with e1 e2 e3
    injection e1 with e1
    injection e1 with e1
    subst e1
    exact ⟨_, _, h2⟩
theorem Row.typ {w : World} {B g q : Nat} {us : List Nat} (h : Row w B g q us) : ∃ cs fz, w.heap[g]? = some (.cells cs 29 fz) := own_typ h
theorem Row.wd {w : World} {B g q : Nat} {us : List Nat} (h : Row w B g q us) (hq : q ≤ 9223372036854775807) : Wd w (some ⟨g, 0, none⟩) q q us :=
  ⟨h.len, Nat.le_refl _, hq, .inr ⟨g, 0, rfl, ⟨h.lt.2, h.typ⟩, fun j hj => by rw [Nat.zero_add]; exact h.cell hj⟩⟩
theorem made_zero (q : Nat) : (madeCells #[Value.int .u64 0] q).toList = (List.replicate q 0).map u64v := by
  rw [List.map_replicate]
  apply List.ext_getElem
  · simp [madeCells]
  · intro i h1 h2
    simp [madeCells, u64v]
    have : i % 1 = 0 := Nat.mod_one i
    simp [this]
theorem Row.new {w : World} {B g q : Nat} (h : w.ownsRow B 29 1 (.slice (some ⟨g, 0, none⟩) q q) q (madeCells #[Value.int .u64 0] q).toList) : Row w B g q (List.replicate q 0) := by
  rw [made_zero] at h
  exact h
/-- After k of q rounds: the words below k are f, the others 0. -/
def Upto (us : List Nat) (k : Nat) (f : Nat → Nat) : Prop := ∀ j, wd us j = if j < k then f j else 0
theorem Upto.zero (q : Nat) (f : Nat → Nat) : Upto (List.replicate q 0) 0 f := fun j => by
  rw [if_neg (by omega)]
  unfold wd
  rw [List.getD_eq_getElem?_getD]
  by_cases h : j < q
  · rw [List.getElem?_replicate, if_pos h]; rfl
  · rw [List.getElem?_replicate, if_neg h]; rfl
theorem Upto.next {us : List Nat} {k q : Nat} {f : Nat → Nat} (h : Upto us k f) (hq : us.length = q) (hk : k < q) : Upto (us.set k (f k)) (k + 1) f := fun j => by
  rw [wd_set (by omega)]
  by_cases hj : j = k
  · rw [if_pos hj, if_pos (by omega), hj]
  · rw [if_neg hj, h j]
    by_cases h2 : j < k
    · rw [if_pos h2, if_pos (by omega)]
    · rw [if_neg h2, if_neg (by omega)]
theorem Upto.u64 {us : List Nat} {k : Nat} {f : Nat → Nat} (h : Upto us k f) (hf : ∀ j, f j < 18446744073709551616) : U64 us := by
  intro x hx
  obtain ⟨j, hj, rfl⟩ := List.getElem_of_mem hx
  rw [← wd_get hj, h j]
  split
  · exact hf j
  · omega
def orL (l r : List Nat) : List Nat := (List.range 4096).filter (fun x => decide (x ∈ l) || decide (x ∈ r))
def andL (l r : List Nat) : List Nat := l.filter (fun x => decide (x ∈ r))
def minL (l r : List Nat) : List Nat := l.filter (fun x => !decide (x ∈ r))
theorem asc_filter {l : List Nat} (h : Asc l) (p : Nat → Bool) : Asc (l.filter p) := ⟨h.1.filter p, fun x hx => h.2 x (List.mem_filter.1 hx).1⟩
theorem or_rp {ws vs us l r : List Nat} {q : Nat} (h : Rp ws l) (k : Rp vs r) (hq : us.length = max ws.length vs.length) (hu : Upto us us.length (fun j => wd ws j ||| wd vs j)) : Rp us (orL l r) := by
  have hw : ∀ j, wd us j = wd ws j ||| wd vs j := by
    intro j
    rw [hu j]
    by_cases hj : j < us.length
    · rw [if_pos hj]
    · rw [if_neg hj, wd_out (by omega), wd_out (by omega)]; rfl
  refine Rp.of (hu.u64 fun j => lor_lt (wd_lt h.1 j) (wd_lt k.1 j)) ?_ (by have := h.2.2.1; have := k.2.2.1; omega) ⟨(pw_range 4096).filter _, fun x hx => by simp [orL] at hx; exact hx.1⟩ ?_
  · intro j hj
    rw [hw]
    by_cases hc : j + 1 = ws.length
    · have := h.2.1 j hc
      intro e
      exact this (Nat.or_eq_zero_iff.1 e).1
    · have := k.2.1 j (by omega)
      intro e
      exact this (Nat.or_eq_zero_iff.1 e).2
  · intro i hi
    unfold mem
    rw [hw, Nat.testBit_or]
    have e1 := h.mem_dec i
    have e2 := k.mem_dec i
    unfold mem at e1 e2
    rw [e1, e2]
    simp [orL, hi]

theorem new1 (w : World) (x : Value) (T : TypeId) : (w.alloc (.cells #[x] T)).cell? ⟨w.heap.size, 0, none⟩ = some x ∧ (w.alloc (.cells #[x] T)).frozen? ⟨w.heap.size, 0, none⟩ = false := by
  constructor <;> simp
theorem box3 {w wr : World} {x y z : Value} {T1 T2 T3 : TypeId} (h : Below (w.heap.size + 3) (((w.alloc (.cells #[x] T1)).alloc (.cells #[y] T2)).alloc (.cells #[z] T3)) wr) :
    wr.cell? ⟨w.heap.size, 0, none⟩ = some x ∧ wr.cell? ⟨w.heap.size + 1, 0, none⟩ = some y ∧ wr.cell? ⟨w.heap.size + 1 + 1, 0, none⟩ = some z ∧ wr.frozen? ⟨w.heap.size + 1 + 1, 0, none⟩ = false ∧ w.heap.size + 3 ≤ wr.heap.size ∧ Below w.heap.size w wr := by
  have hs := h.size
  have z1 : (w.alloc (.cells #[x] T1)).heap.size = w.heap.size + 1 := by simp
  have z2 : ((w.alloc (.cells #[x] T1)).alloc (.cells #[y] T2)).heap.size = w.heap.size + 2 := by simp
  have z3 : (((w.alloc (.cells #[x] T1)).alloc (.cells #[y] T2)).alloc (.cells #[z] T3)).heap.size = w.heap.size + 3 := by simp
  obtain ⟨a1, a2⟩ := new1 w x T1
  obtain ⟨b1, b2⟩ := new1 (w.alloc (.cells #[x] T1)) y T2
  obtain ⟨d1, d2⟩ := new1 ((w.alloc (.cells #[x] T1)).alloc (.cells #[y] T2)) z T3
  rw [z1] at b1 b2
  rw [z2] at d1 d2
  have B3 : Below (w.heap.size + 2) ((w.alloc (.cells #[x] T1)).alloc (.cells #[y] T2)) wr := ((Below.refl _ _).alloc (by rw [z2]; exact Nat.le_refl _) _).trans (h.mono (by omega))
  have B2 : Below (w.heap.size + 1) (w.alloc (.cells #[x] T1)) wr := ((Below.refl _ _).alloc (by rw [z1]; exact Nat.le_refl _) _).trans (B3.mono (by omega))
  have B1 : Below w.heap.size w wr := ((Below.refl _ _).alloc (Nat.le_refl _) _).trans (B2.mono (by omega))
  refine ⟨(B2.cell (p := ⟨w.heap.size, 0, none⟩) (show w.heap.size < w.heap.size + 1 by omega)).trans a1, (B3.cell (p := ⟨w.heap.size + 1, 0, none⟩) (show w.heap.size + 1 < w.heap.size + 2 by omega)).trans b1, (h.cell (p := ⟨w.heap.size + 2, 0, none⟩) (show w.heap.size + 2 < w.heap.size + 3 by omega)).trans d1, (h.frozen (p := ⟨w.heap.size + 2, 0, none⟩) (show w.heap.size + 2 < w.heap.size + 3 by omega)).trans d2, by omega, B1⟩
theorem box2 {w wr : World} {x y : Value} {T1 T2 : TypeId} (h : Below (w.heap.size + 2) ((w.alloc (.cells #[x] T1)).alloc (.cells #[y] T2)) wr) :
    wr.cell? ⟨w.heap.size, 0, none⟩ = some x ∧ wr.cell? ⟨w.heap.size + 1, 0, none⟩ = some y ∧ wr.frozen? ⟨w.heap.size + 1, 0, none⟩ = false ∧ w.heap.size + 2 ≤ wr.heap.size ∧ Below w.heap.size w wr := by
  have hs := h.size
  have z1 : (w.alloc (.cells #[x] T1)).heap.size = w.heap.size + 1 := by simp
  have z2 : ((w.alloc (.cells #[x] T1)).alloc (.cells #[y] T2)).heap.size = w.heap.size + 2 := by simp
  obtain ⟨a1, a2⟩ := new1 w x T1
  obtain ⟨b1, b2⟩ := new1 (w.alloc (.cells #[x] T1)) y T2
  rw [z1] at b1 b2
  have B2 : Below (w.heap.size + 1) (w.alloc (.cells #[x] T1)) wr := ((Below.refl _ _).alloc (by rw [z1]; exact Nat.le_refl _) _).trans (h.mono (by omega))
  have B1 : Below w.heap.size w wr := ((Below.refl _ _).alloc (Nat.le_refl _) _).trans (B2.mono (by omega))
  exact ⟨(B2.cell (p := ⟨w.heap.size, 0, none⟩) (show w.heap.size < w.heap.size + 1 by omega)).trans a1, (h.cell (p := ⟨w.heap.size + 1, 0, none⟩) (show w.heap.size + 1 < w.heap.size + 2 by omega)).trans b1, (h.frozen (p := ⟨w.heap.size + 1, 0, none⟩) (show w.heap.size + 1 < w.heap.size + 2 by omega)).trans b2, by omega, B1⟩
def CRel (w W : World) (B g q : Nat) (f : Nat → Nat) (v : Value) (wr : World) : Prop :=
  ∃ k us, k ≤ q ∧ v = .int .i64 (k : Nat) ∧ Row wr g g q us ∧ Upto us k f ∧ Below B W wr
theorem or_any (a b : Option Addr) (n m cap dap : Nat) (l r : List Nat) (w : World) (h : Bs w a n cap l) (k : Bs w b m dap r) :
    Calls Tryz.prog 24 #[.agg #[.slice a n cap], .agg #[.slice b m dap]] w (SetPost w (orL l r)) := by
  obtain ⟨i0, hi, hz0, hz1, hz2⟩ := info_parts info64
  obtain ⟨ws, hw, hr⟩ := h
  obtain ⟨vs, kw, kr⟩ := k
  have hn64 : n ≤ 64 := by have := hr.2.2.1; rw [hw.1] at this; exact this
  have hm64 : m ≤ 64 := by have := kr.2.2.1; rw [kw.1] at this; exact this
  have hncap : n ≤ cap := hw.2.1
  have hmcap : m ≤ dap := kw.2.1
  obtain ⟨q, hq⟩ : ∃ q : Nat, max (n : Int) (m : Int) = q := ⟨max n m, by omega⟩
  have hq64 : q ≤ 64 := by omega
  have hwl := Lib.hid (fun k => wd_lt hr.1 k)
  have hvl := Lib.hid (fun k => wd_lt kr.1 k)
  have hW1 := Lib.hid (fun (k : Nat) w' (hk : k ≤ 4096) (hb : Below w.heap.size w w') => word_any a n cap k ws w' (hw.below hb) hk)
  have hW2 := Lib.hid (fun (k : Nat) w' (hk : k ≤ 4096) (hb : Below w.heap.size w w') => word_any b m dap k vs w' (kw.below hb) hk)
  have hfin := Lib.hid (fun (us : List Nat) (hl : us.length = q) (hu : Upto us us.length (fun j => wd ws j ||| wd vs j)) => or_rp (q := q) hr kr (by rw [hw.1, kw.1]; omega) hu)
  have hbytes : i0.bytes * q ≤ 281474976710656 := by rw [hz2]; omega
  have hqm : q ≤ maxLen := by unfold maxLen; omega
  clear hw hr kw kr
  go_enter Tryz.func24, Tryz.ntmps24
  obtain ⟨W, hWW⟩ : ∃ W, W = ((w.alloc (.cells #[.slice a n cap] 39)).alloc (.cells #[.slice b m dap] 39)).alloc (.cells #[.slice none 0 0] 39) := ⟨_, rfl⟩
  have HWW := Lib.hid hWW
  clear hWW
  go_wp2_with (refine wpList_make_full _ rfl (.tmp 13) (.tmp 13) 37 rfl (w.heap.size + 3) 29 i0 (.int .u64 0) 1 Tryz.underlying37 hi hz0 hz1 .i64 .i64 q q q rfl rfl rfl rfl hbytes hqm ?c1 ?_)
  case c1 => simp
  intro w1 hown hgr
  have hrow := Lib.hid (Row.new hown)
  have hbel := Lib.hid ((Below.refl (w.heap.size + 3) _).grown hgr (by simp) (fun b hb => by cases hb))
  clear hown hgr
  generalize hgE : w.heap.size + 1 + 1 + 1 = g at hrow ⊢
  replace hgE := Lib.hid hgE
  clear hi hz0 hz1 hz2 hbytes hqm
  go_wp2_with fail
  go_loopw [17] (fun v wr => CRel w (((w.alloc (.cells #[.slice a n cap] 39)).alloc (.cells #[.slice b m dap] 39)).alloc (.cells #[.slice none 0 0] 39)) (w.heap.size + 3) g q (fun j => wd ws j ||| wd vs j) v wr) (fun v _ => q - (intOf v).toNat)
  case atStart => exact ⟨0, List.replicate q 0, Nat.zero_le _, rfl, hrow.out, Upto.zero _ _, hbel.out⟩
  case round =>
    obtain ⟨k, us, hk, rfl, hR, hU, hB⟩ := hrel
    obtain ⟨c0, c1, c2, f2, hz, hBw⟩ := box3 hB
    have HR := Lib.hid hR
    have HU := Lib.hid hU
    have HB := Lib.hid hB
    clear hR hU hB
    by_cases hlt : k < q
    · have hr0 := HR.out.cell hlt
      have hf0 := HR.out.free k
      have hgl := HR.out.lt.2
      have hg1 : ¬ g = w.heap.size := by have := hgE.out; omega
      have hg2 : ¬ g = w.heap.size + 1 := by have := hgE.out; omega
      have hS := Lib.hid (fun w' (hb : Below wr.heap.size wr w') => (⟨(hb.cell (p := ⟨w.heap.size, 0, none⟩) (show w.heap.size < wr.heap.size by omega)).trans c0, (hb.cell (p := ⟨w.heap.size + 1, 0, none⟩) (show w.heap.size + 1 < wr.heap.size by omega)).trans c1⟩ :
        w'.cell? ⟨w.heap.size, 0, none⟩ = some (.slice a n cap) ∧ w'.cell? ⟨w.heap.size + 1, 0, none⟩ = some (.slice b m dap)))
      have hS2 := Lib.hid (fun w' u (hb : Below wr.heap.size wr w') => (⟨(World.cell?_setCell_other w' ⟨g, k, none⟩ ⟨w.heap.size, 0, none⟩ u (fun e => hg1 (by injection e))).trans (hS.out w' hb).1, (World.cell?_setCell_other w' ⟨g, k, none⟩ ⟨w.heap.size + 1, 0, none⟩ u (fun e => hg2 (by injection e))).trans (hS.out w' hb).2⟩ :
        (w'.setCell ⟨g, k, none⟩ u).cell? ⟨w.heap.size, 0, none⟩ = some (.slice a n cap) ∧ (w'.setCell ⟨g, k, none⟩ u).cell? ⟨w.heap.size + 1, 0, none⟩ = some (.slice b m dap)))
      clear hg1 hg2
      have hor : bits .or .u64 ((wd ws k : Nat) : Int) ((wd vs k : Nat) : Int) = ((wd ws k ||| wd vs k : Nat) : Int) := u64_or_nat _ _ (hwl.out k) (hvl.out k)
      have i0 : (0 : Int) ≤ (k : Int) := by omega
      have i1 : (k : Int) < (q : Int) := by omega
      go_wp2_with fail
      go_region_held3 (fun w' => w'.cell? ⟨w.heap.size, 0, none⟩ = some (.slice a n cap) ∧ w'.cell? ⟨w.heap.size + 1, 0, none⟩ = some (.slice b m dap))
        (first | exact hS.out _ (Below.refl _ _).drew | exact hS.out _ hb2 | exact hS.out _ hb3 | exact hS2.out _ _ hb3)
        (first | (go_at_call 63; (with_reducible refine (hW1.out k _ (by omega) hBw.drew).mono ?_); rintro e w2 ⟨rfl, hb2⟩; replace hb2 := (Below.refl wr.heap.size wr).drew.trans (hb2.mono (by simp))) | (go_at_call 63; (with_reducible refine (hW2.out k _ (by omega) (hBw.trans (hb2.mono hBw.size))).mono ?_); rintro e w3 ⟨rfl, hb3⟩; replace hb3 := hb2.trans (hb3.mono hb2.size); have hq3 := (hb3.cell (p := ⟨g, k, none⟩) hgl).trans hr0; have hf3 := (hb3.frozen (p := ⟨g, k, none⟩) hgl).trans hf0))
      go_wp2_with fail
      go_roundw
      case rel => exact ⟨k + 1, us.set k (wd ws k ||| wd vs k), by omega, by go_num, (HR.out.below hb3).set k _, HU.out.next HR.out.len hlt, (HB.out.trans (hb3.mono hz)).setCell (show w.heap.size + 3 ≤ g by have := hgE.out; omega) _⟩
      case measure => simp [intOf]; omega
    · have hkq : k = q := by omega
      subst hkq
      go_wp2_with fail
      have cs := World.cell?_setCell_same wr ⟨w.heap.size + 1 + 1, 0, none⟩ (.slice (some ⟨g, 0, none⟩) k k) c2
      refine bodyPost_ret (v := .agg #[.slice (some ⟨g, 0, none⟩) k k]) (by simp [results, Tryz.results24, go_sem, cs]) rfl ?_
      refine ⟨some ⟨g, 0, none⟩, k, k, rfl, ⟨us, (HR.out.other (show g ≠ w.heap.size + 1 + 1 by have := hgE.out; omega) _).wd (by omega), hfin.out us HR.out.len (by rw [HR.out.len]; exact HU.out)⟩, ?_⟩
      exact hBw.setCell (show w.heap.size ≤ w.heap.size + 1 + 1 by omega) _
end Go.Proofs.YtfjpbkmnlmecgaaGreatDoor.Bz
end

section
/- Contracts: And, Minus. -/
namespace Go.Proofs.YtfjpbkmnlmecgaaGreatDoor.Bz
open Go.RowKit Go.PlainAid
set_option linter.unusedVariables false
set_option linter.unusedSimpArgs false
set_option maxHeartbeats 2000000

theorem and_mem {ws vs us l r : List Nat} (h : Rp ws l) (k : Rp vs r) (hq : us.length = min ws.length vs.length) (hu : Upto us us.length (fun j => wd ws j &&& wd vs j)) :
    U64 us ∧ us.length ≤ 64 ∧ Asc (andL l r) ∧ ∀ i, i < 4096 → (i ∈ andL l r ↔ mem us i = true) := by
  have hw : ∀ j, wd us j = wd ws j &&& wd vs j := by
    intro j
    rw [hu j]
    by_cases hj : j < us.length
    · rw [if_pos hj]
    · rw [if_neg hj]
      by_cases h1 : j < ws.length
      · rw [wd_out (ws := vs) (by omega)]; simp
      · rw [wd_out (ws := ws) (by omega)]; simp
  refine ⟨hu.u64 fun j => land_lt (wd_lt h.1 j), by have := h.2.2.1; omega, asc_filter h.asc _, fun i hi => ?_⟩
  unfold mem
  rw [hw, Nat.testBit_and]
  have e1 := h.mem_dec i
  have e2 := k.mem_dec i
  unfold mem at e1 e2
  rw [e1, e2]
  simp [andL]
theorem minus_mem {ws vs us l r : List Nat} (h : Rp ws l) (k : Rp vs r) (hq : us.length = ws.length) (hu : Upto us us.length (fun j => ldf (wd ws j) (wd vs j))) :
    U64 us ∧ us.length ≤ 64 ∧ Asc (minL l r) ∧ ∀ i, i < 4096 → (i ∈ minL l r ↔ mem us i = true) := by
  have hw : ∀ j, wd us j = ldf (wd ws j) (wd vs j) := by
    intro j
    rw [hu j]
    by_cases hj : j < us.length
    · rw [if_pos hj]
    · rw [if_neg hj, wd_out (ws := ws) (by omega)]; unfold ldf; simp
  refine ⟨hu.u64 fun j => ldf_lt (wd_lt h.1 j), by have := h.2.2.1; omega, asc_filter h.asc _, fun i hi => ?_⟩
  unfold mem
  rw [hw, tb_ldf (wd_lt k.1 _) (by omega)]
  have e1 := h.mem_dec i
  have e2 := k.mem_dec i
  unfold mem at e1 e2
  rw [e1, e2]
  simp [minL]
theorem row_trim {w : World} {B g q : Nat} {us l : List Nat} (h : Row w B g q us) (hm : U64 us ∧ us.length ≤ 64 ∧ Asc l ∧ ∀ i, i < 4096 → (i ∈ l ↔ mem us i = true)) :
    Calls Tryz.prog 85 #[.slice (some ⟨g, 0, none⟩) q q] w (SetPost w l) :=
  trim_any _ q q us l w (h.wd (by rw [← h.len]; omega)) hm.1 hm.2.1 hm.2.2.1 hm.2.2.2

theorem Bs.set {w : World} {a : Option Addr} {n cap : Nat} {l : List Nat} {p : Addr} {v u : Value} (h : Bs w a n cap l) (hp : w.cell? p = some v) (hv : ∀ x : Int, v ≠ .int .u64 x) : Bs (w.setCell p u) a n cap l := by
  obtain ⟨ws, ⟨h1, h2, h3, h4⟩, hr⟩ := h
  refine ⟨ws, ⟨h1, h2, h3, ?_⟩, hr⟩
  rcases h4 with h4 | ⟨b, o, h4, hb, hc⟩
  · exact .inl h4
  · refine .inr ⟨b, o, h4, hb.set _ _, fun j hj => ?_⟩
    rw [World.cell?_setCell_other]
    · exact hc j hj
    · intro e
      rw [e, hc j hj] at hp
      exact hv _ (Option.some.inj hp).symm
end Go.Proofs.YtfjpbkmnlmecgaaGreatDoor.Bz
end

section
/- Contracts: With, Without. -/
namespace Go.Proofs.YtfjpbkmnlmecgaaGreatDoor.Bz
open Go.RowKit Go.PlainAid
set_option linter.unusedVariables false
set_option linter.unusedSimpArgs false
set_option maxHeartbeats 2000000

/-- A set with a further number. -/
def withL (l : List Nat) (i : Int) : List Nat := if 0 ≤ i ∧ i ≤ 4095 then (List.range 4096).filter (fun x => decide (x ∈ l) || decide (x = i.toNat)) else l
def withoutL (l : List Nat) (i : Int) : List Nat := l.filter (fun x => !decide ((x : Int) = i))
theorem with_has {ws l : List Nat} (h : Rp ws l) {i : Int} (hb : hasB l i = true) : withL l i = l := by
  unfold hasB at hb
  simp only [Bool.and_eq_true, decide_eq_true_eq] at hb
  unfold withL
  have := h.asc.2 _ hb.2
  rw [if_pos ⟨hb.1, by omega⟩]
  apply asc_ext ⟨(pw_range 4096).filter _, fun x hx => by simp at hx; exact hx.1⟩ h.asc
  intro x
  simp only [List.mem_filter, List.mem_range, Bool.or_eq_true, decide_eq_true_eq]
  constructor
  · rintro ⟨_, hx | rfl⟩
    · exact hx
    · exact hb.2
  · intro hx; exact ⟨h.asc.2 x hx, .inl hx⟩
theorem with_rp {ws us l : List Nat} {k q : Nat} (h : Rp ws l) (hk : k ≤ 4095) (hq : us.length = max ws.length (k / 64 + 1)) (hu : ∀ j, wd us j = if j = k / 64 then wd ws (k / 64) ||| 2 ^ (k % 64) else wd ws j) : Rp us (withL l k) := by
  have hl := h.2.2.1
  have hne : wd ws (k / 64) ||| 2 ^ (k % 64) ≠ 0 := fun e => by
    have := (Nat.or_eq_zero_iff.1 e).2
    have := Nat.two_pow_pos (k % 64)
    omega
  unfold withL
  rw [if_pos ⟨by omega, by omega⟩]
  refine Rp.of ?_ ?_ (by omega) ⟨(pw_range 4096).filter _, fun x hx => by simp at hx; exact hx.1⟩ ?_
  · intro x hx
    obtain ⟨j, hj, rfl⟩ := List.getElem_of_mem hx
    rw [← wd_get hj, hu j]
    split
    · exact lor_lt (wd_lt h.1 _) (bit_lt (by omega))
    · exact wd_lt h.1 _
  · intro j hj
    rw [hu j]
    split
    · exact hne
    · rename_i hjk
      exact h.2.1 j (by omega)
  · intro i hi
    simp only [List.mem_filter, List.mem_range, Bool.or_eq_true, decide_eq_true_eq, Int.toNat_natCast]
    unfold mem
    rw [hu]
    have e1 := h.mem_iff i
    unfold mem at e1
    by_cases hik : i / 64 = k / 64
    · rw [if_pos hik, Nat.testBit_or, Nat.testBit_two_pow, Bool.or_eq_true, decide_eq_true_eq, ← hik, ← e1]
      constructor
      · rintro ⟨_, h1 | h1⟩
        · exact .inl h1
        · exact .inr (by rw [h1])
      · rintro (h1 | h1)
        · exact ⟨hi, .inl h1⟩
        · exact ⟨hi, .inr (by omega)⟩
    · rw [if_neg hik, ← e1]
      constructor
      · rintro ⟨_, h1 | h1⟩
        · exact h1
        · exact absurd (by rw [h1]) hik
      · intro h1; exact ⟨hi, .inl h1⟩

theorem Row.heap {w : World} {B g q : Nat} {us : List Nat} (h : Row w B g q us) : w.heap[g]? = some (.cells (us.map u64v).toArray 29 (0, 0)) := by
  rcases h.2 with ⟨h', _⟩ | ⟨g', cap', cur, h', hb, hg, hnc, hcm, hcs, htake⟩
  · simp at h'
  · simp only [Value.slice.injEq, Option.some.injEq, Addr.mk.injEq, and_true, true_and] at h'
    obtain ⟨rfl, rfl⟩ := h'
    rw [hg]
    congr 1
    have : cur.toList = us.map u64v := by
      rw [← htake, List.take_of_length_le]
      rw [Array.length_toList]; omega
    rw [← this]
theorem Row.of_heap {w : World} {B g q : Nat} {us : List Nat} (h : w.heap[g]? = some (.cells (us.map u64v).toArray 29 (0, 0))) (hB : B ≤ g) (hq : us.length = q) (hm : q ≤ maxLen) : Row w B g q us := by
  refine ⟨by rw [List.length_map]; omega, .inr ⟨g, q, (us.map u64v).toArray, rfl, hB, h, Nat.le_refl _, hm, by simp; omega, by rw [List.take_of_length_le (by simp; omega)]⟩⟩
theorem or_bit {x k : Nat} {j : Int} (hx : x < 18446744073709551616) (hj : j = (k % 64 : Nat)) (hk : k % 64 < 64) : bits .or .u64 (x : Int) (IntKind.u64.wrap (2 ^ j.toNat)) = ((x ||| 2 ^ (k % 64) : Nat) : Int) := by
  subst hj
  have hb := bit_lt hk
  have h1 : IntKind.u64.wrap (2 ^ ((k % 64 : Nat) : Int).toNat) = ((2 ^ (k % 64) : Nat) : Int) := by
    rw [Int.toNat_natCast, IntKind.wrap_u64]
    have : ((2 : Int) ^ (k % 64)) = ((2 ^ (k % 64) : Nat) : Int) := by simp
    rw [this]
    generalize 2 ^ (k % 64) = y at *
    omega
  rw [h1]
  exact u64_or_nat _ _ hx hb
theorem andnot_bit {x k : Nat} {j : Int} (hx : x < 18446744073709551616) (hj : j = (k % 64 : Nat)) (hk : k % 64 < 64) : bits .andNot .u64 (x : Int) (IntKind.u64.wrap (2 ^ j.toNat)) = ((ldf x (2 ^ (k % 64)) : Nat) : Int) := by
  subst hj
  have hb := bit_lt hk
  have h1 : IntKind.u64.wrap (2 ^ ((k % 64 : Nat) : Int).toNat) = ((2 ^ (k % 64) : Nat) : Int) := by
    rw [Int.toNat_natCast, IntKind.wrap_u64]
    have : ((2 : Int) ^ (k % 64)) = ((2 ^ (k % 64) : Nat) : Int) := by simp
    rw [this]
    generalize 2 ^ (k % 64) = y at *
    omega
  rw [h1]
  exact u64_andNot_nat _ _ hx hb
theorem ownsRow.wd {w : World} {B g n cap : Nat} {us : List Nat} (h : w.ownsRow B 29 1 (.slice (some ⟨g, 0, none⟩) n cap) n (us.map u64v)) (hc : n ≤ cap) (hm : cap ≤ 9223372036854775807) : Wd w (some ⟨g, 0, none⟩) n cap us := by
  have hl : us.length = n := by have := h.1; rw [List.length_map] at this; omega
  refine ⟨hl, hc, hm, .inr ⟨g, 0, rfl, ⟨(World.ownsRow.lt h g rfl).2, own_typ h⟩, fun j hj => ?_⟩⟩
  rw [Nat.zero_add, World.ownsRow.cellAt h j (by omega), List.getElem?_map, wd_get (by omega), List.getElem?_eq_getElem (by omega)]; rfl
theorem empty_row (w : World) : (w.alloc (.cells #[] 29)).ownsRow w.heap.size 29 1 (.slice (some ⟨w.heap.size, 0, none⟩) 0 0) 0 [] := by
  refine ⟨rfl, .inr ⟨w.heap.size, 0, #[], rfl, Nat.le_refl _, ?_, Nat.le_refl _, Nat.zero_le _, rfl, rfl⟩⟩
  show (w.heap.push _)[_]? = _
  simp
theorem copy_words {us ws : List Nat} {q : Nat} (hq : us.length = q) (hn : ws.length ≤ q) : splice (us.map u64v) 0 (ws.map u64v) = (ws ++ us.drop ws.length).map u64v := by
  unfold splice
  simp
theorem wd_copy {ws : List Nat} {q : Nat} (hn : ws.length ≤ q) (j : Nat) : wd (ws ++ (List.replicate q 0).drop ws.length) j = wd ws j := by
  unfold wd
  rw [List.getD_eq_getElem?_getD, List.getD_eq_getElem?_getD]
  by_cases hj : j < ws.length
  · rw [List.getElem?_append_left hj]
  · rw [List.getElem?_append_right (by omega), List.getElem?_eq_none (l := ws) (by omega)]
    simp only [List.drop_replicate, List.getElem?_replicate]
    split <;> rfl

/-- A set, in the place it was or in a new one. -/
def SetPostN (w : World) (a : Option Addr) (l : List Nat) (e : Ending) (w' : World) : Prop := ∃ a' n cap, e = .returned (.agg #[.slice a' n cap]) ∧ Bs w' a' n cap l ∧ Below w.heap.size w w' ∧ (a' = a ∨ ∃ b, a' = some ⟨b, 0, none⟩ ∧ w.heap.size ≤ b)
set_option maxRecDepth 20000 in
theorem withN_any (a : Option Addr) (n cap : Nat) (l : List Nat) (i : Int) (w : World) (h : Bs w a n cap l) :
    Calls Tryz.prog 59 #[.agg #[.slice a n cap], .int .i64 i] w (SetPostN w a (withL l i)) := by
  obtain ⟨i0, hi, hz0, hz1, hz2⟩ := info_parts info64
  have hH := Lib.hid (fun w' (hb : Below w.heap.size w w') => has_any a n cap l i w' (h.below hb))
  have hle := h.le
  have HB0 := Lib.hid h
  obtain ⟨ws, hw, hr⟩ := h
  have hncap : n ≤ cap := hw.2.1
  have old : Hid (∀ w', withL l i = l → Below w.heap.size w w' → SetPostN w a (withL l i) (.returned (.agg #[.slice a n cap])) w') := by
    intro w' hl hb
    rw [hl]
    exact ⟨a, n, cap, rfl, HB0.out.below hb, hb, .inl rfl⟩
  by_cases hneg : i < 0
  · have hl : withL l i = l := by unfold withL; rw [if_neg (by omega)]
    have HL := Lib.hid hl
    clear hw hr hl
    go_enter Tryz.func59, Tryz.ntmps59
    go_wp2_with fail
    go_returns
    exact old.out _ HL.out (by go_grown)
  by_cases hbig : 4095 < i
  · have hl : withL l i = l := by unfold withL; rw [if_neg (by omega)]
    have HL := Lib.hid hl
    have h0 : decide (i < 0) = false := decide_eq_false hneg
    clear hw hr hl
    go_enter Tryz.func59, Tryz.ntmps59
    go_wp2_with fail
    go_returns
    exact old.out _ HL.out (by go_grown)
  have h0 : decide (i < 0) = false := decide_eq_false hneg
  have h1 : decide (4095 < i) = false := decide_eq_false hbig
  cases hb : hasB l i
  · obtain ⟨k, hik⟩ : ∃ k : Nat, i = k := ⟨i.toNat, by omega⟩
    have hk : k ≤ 4095 := by omega
    rw [hb] at hH
    obtain ⟨q, hq⟩ : ∃ q : Nat, max (n : Int) (i / 64 + 1) = q := ⟨max n (k / 64 + 1), by omega⟩
    have hqe := Lib.hid (show q = max n (k / 64 + 1) by omega)
    have hq64 : q ≤ 64 := by omega
    have hqn : n ≤ q := by omega
    have hqk : k / 64 < q := by omega
    have i0' : 0 ≤ i := by omega
    have i1' : i ≤ 4095 := by omega
    have hbytes : i0.bytes * q ≤ 281474976710656 := by rw [hz2]; omega
    have hqm : q ≤ maxLen := by unfold maxLen; omega
    have hQM := Lib.hid hqm
    have HW := Lib.hid hw
    have HR0 := Lib.hid hr
    have HIK := Lib.hid hik
    have hwl := Lib.hid (fun k => wd_lt hr.1 k)
    clear hw hr hneg hbig hb old hik
    go_enter Tryz.func59, Tryz.ntmps59
    go_wp2_with (first | (go_at_call 77; refine (hH.out _ (by go_grown)).mono ?_; rintro e w2 ⟨rfl, hb2⟩; obtain ⟨c0, c1, f1, hz2', hbw2⟩ := box2 (hb2.mono (by simp))) | (refine wpList_make_full _ rfl (.tmp 24) (.tmp 24) 37 rfl w2.heap.size 29 i0 (.int .u64 0) 1 Tryz.underlying37 hi hz0 hz1 .i64 .i64 q q q rfl rfl rfl rfl hbytes hqm (Nat.le_refl _) ?_))
    intro w3 hown hgr
    have hrow := Lib.hid (Row.new hown)
    have hb3 := (Below.refl w2.heap.size w2).grown hgr (Nat.le_refl _) (fun b hb => by cases hb)
    have hz3 := hb3.size
    have d0 := (hb3.cell (p := ⟨w.heap.size, 0, none⟩) (show w.heap.size < w2.heap.size by omega)).trans c0
    have d1 := (hb3.cell (p := ⟨w.heap.size + 1, 0, none⟩) (show w.heap.size + 1 < w2.heap.size by omega)).trans c1
    have g1 := (hb3.frozen (p := ⟨w.heap.size + 1, 0, none⟩) (show w.heap.size + 1 < w2.heap.size by omega)).trans f1
    generalize hgE : w2.heap.size = g at hrow ⊢
    have HGE := Lib.hid hgE
    have HW3 := Lib.hid (HW.out.below (hbw2.trans (hb3.mono hbw2.size)))
    have hb03 := Lib.hid (hbw2.trans (hb3.mono hbw2.size))
    clear hown hgr hi hz0 hz1 hz2 hbytes hqm c0 c1 f1 hb2 hb3 hgE HW
    have hHeap := Lib.hid (hrow.out.heap)
    have hlen0 : ws.length = n := HW3.out.1
    have hcs := Lib.hid hlen0
    clear hlen0
    obtain ⟨cs, hcse⟩ : ∃ cs, cs = ws.map u64v := ⟨_, rfl⟩
    obtain ⟨cur, hcure⟩ : ∃ cur, cur = (List.replicate q 0).map u64v := ⟨_, rfl⟩
    have hcl : cs.length = n := by rw [hcse, List.length_map]; exact hcs.out
    have hcul : cur.length = q := by rw [hcure]; simp
    rw [← hcure] at hHeap
    have hCS := Lib.hid hcse
    have hCU := Lib.hid hcure
    have hsrc : 0 < cs.length → (some (⟨g, 0, none⟩ : Addr) = some ⟨g, 0, none⟩) ∧ ∃ ad, a = some ad ∧ ∀ j v, cs[j]? = some v → w3.cell? (ad.add j) = some v := by
      intro h0
      refine ⟨rfl, ?_⟩
      obtain ⟨x1, x2, x3, ⟨_, h5, _⟩ | ⟨b, o, rfl, ⟨hbl, -⟩, hc⟩⟩ := HW3.out
      · omega
      · refine ⟨_, rfl, fun j v hj => ?_⟩
        have hjn : j < n := by
          have := (List.getElem?_eq_some_iff.1 hj).1; omega
        have : (⟨b, o, none⟩ : Addr).add j = ⟨b, o + j, none⟩ := by unfold Addr.add; split <;> simp_all
        rw [this, hc j hjn, ← hj, hcse, List.getElem?_map, wd_get (by omega), List.getElem?_eq_getElem (by omega)]; rfl
    have hone : ∀ v ∈ cs, v.oneCell' = true := by
      intro v hv
      rw [hcse] at hv
      obtain ⟨x, _, rfl⟩ := List.mem_map.1 hv
      rfl
    have hmin : cs.length = Nat.min n q := by rw [hcl]; exact (Nat.min_eq_left hqn).symm
    have hfit : 0 + cs.length ≤ cur.length := by omega
    have hSRC := Lib.hid hsrc
    have hONE := Lib.hid hone
    have hMIN := Lib.hid hmin
    clear hsrc hone hmin hcse hcure hcl hcul
    have hgg : g ≤ w3.heap.size := by have := HGE.out; omega
    go_wp2_with (with_reducible refine wpList_copy_splice rfl (.tmp 26) (.tmp 28) 37 37 rfl 29 Tryz.underlying37 (by kernel_rfl) (some ⟨g, 0, none⟩) a q q n cap rfl rfl g 0 cur 29 hHeap.out cs hMIN.out hSRC.out hfit hONE.out g w3 (Below.refl _ _) (Nat.le_refl _) ?_)
    intro w4 hheap hb4
    have hz4 := hb4.size
    have HR4 : Hid (Row w4 g g q (ws ++ (List.replicate q 0).drop ws.length)) := by
      show Row _ _ _ _ _
      refine Row.of_heap ?_ (Nat.le_refl _) ?_ hQM.out
      · rw [hheap.out, hCU.out, hCS.out, copy_words (q := q) (by simp) (by rw [hcs.out]; exact hqn)]
      · have := hcs.out
        simp; omega
    have k0 := (hb4.cell (p := ⟨w.heap.size, 0, none⟩) (show w.heap.size < g by have := HGE.out; omega)).trans d0
    have k1 := (hb4.cell (p := ⟨w.heap.size + 1, 0, none⟩) (show w.heap.size + 1 < g by have := HGE.out; omega)).trans d1
    have q1 := (hb4.frozen (p := ⟨w.heap.size + 1, 0, none⟩) (show w.heap.size + 1 < g by have := HGE.out; omega)).trans g1
    have x1 := HR4.out.cell hqk
    rw [wd_copy (by rw [hcs.out]; exact hqn)] at x1
    have x2 := HR4.out.free (k / 64)
    have e3 : (i / 64).toNat = k / 64 := by have := HIK.out; omega
    have j0 : 0 ≤ i / 64 := by omega
    have j1 : i / 64 < (q : Int) := by have := HIK.out; omega
    have j2 : 0 ≤ i % 64 := by omega
    have j3 : i % 64 < 64 := by omega
    have hb04 := Lib.hid (hb03.out.trans (hb4.mono (by have := HGE.out; omega)))
    clear hHeap hSRC hONE hMIN hfit d0 d1 g1 hheap
    have hor : bits .or .u64 ((wd ws (k / 64) : Nat) : Int) (IntKind.u64.wrap (2 ^ (i % 64).toNat)) = ((wd ws (k / 64) ||| 2 ^ (k % 64) : Nat) : Int) := or_bit (hwl.out _) (by have := HIK.out; omega) (by omega)
    have l1 : (g = w.heap.size + 1) = False := eq_false (by have := HGE.out; omega)
    have l2 : (w.heap.size + 1 = g) = False := eq_false (by have := HGE.out; omega)
    go_wp2_with fail
    go_region
    go_wp2_with fail
    have cs1 := World.cell?_setCell_same (w4.setCell ⟨g, k / 64, none⟩ (.int .u64 (wd ws (k / 64) ||| 2 ^ (k % 64) : Nat))) ⟨w.heap.size + 1, 0, none⟩ (.slice (some ⟨g, 0, none⟩) q q) (u := .slice none 0 0) (by rw [World.cell?_setCell_other _ _ _ _ (by intro e; injection e with e; rw [l1] at e; exact e)]; exact k1)
    have hR5 := Row.wd (Row.other (HR4.out.set (k / 64) (wd ws (k / 64) ||| 2 ^ (k % 64))) (a := ⟨w.heap.size + 1, 0, none⟩) (show g ≠ w.heap.size + 1 by rw [ne_eq, l1]; exact id) (.slice (some ⟨g, 0, none⟩) q q)) (by omega)
    refine bodyPost_ret (v := .agg #[.slice (some ⟨g, 0, none⟩) q q]) (by simp [results, Tryz.results59, go_sem, cs1]) rfl ?_
    refine ⟨some ⟨g, 0, none⟩, q, q, rfl, ⟨(ws ++ (List.replicate q 0).drop ws.length).set (k / 64) (wd ws (k / 64) ||| 2 ^ (k % 64)), hR5.below (Below.refl _ _).drew, ?_⟩, ?_, .inr ⟨g, rfl, by have := HGE.out; omega⟩⟩
    · rw [HIK.out]
      refine with_rp (q := q) HR0.out hk ?_ fun j => ?_
      · have := hcs.out
        rw [List.length_set, HR4.out.len, hqe.out, this]
      · rw [wd_set (by rw [HR4.out.len]; exact hqk), wd_copy (by rw [hcs.out]; exact hqn)]
    · exact Below.drew ((hb04.out.setCell (show w.heap.size ≤ g by have := HGE.out; omega) _).setCell (show w.heap.size ≤ w.heap.size + 1 by omega) _)
  · have HL := Lib.hid (with_has hr hb)
    rw [hb] at hH
    clear hw hr hneg hbig hb
    go_enter Tryz.func59, Tryz.ntmps59
    go_wp2_with (go_at_call 77; refine (hH.out _ (by go_grown)).mono ?_; rintro e w2 ⟨rfl, hb2⟩; obtain ⟨c0, c1, f1, hz2', hbw2⟩ := box2 (hb2.mono (by simp)))
    have cs := World.cell?_setCell_same w2 ⟨w.heap.size + 1, 0, none⟩ (.slice a n cap) c1
    refine bodyPost_ret (v := .agg #[.slice a n cap]) (by simp [results, Tryz.results59, go_sem, cs]) rfl ?_
    exact old.out _ HL.out (hbw2.setCell (show w.heap.size ≤ w.heap.size + 1 by omega) _)

theorem without_mem {ws us l : List Nat} {k : Nat} (h : Rp ws l) (hk : k ∈ l) (hu : us = ws.set (k / 64) (ldf (wd ws (k / 64)) (2 ^ (k % 64)))) :
    U64 us ∧ us.length ≤ 64 ∧ Asc (withoutL l k) ∧ ∀ i, i < 4096 → (i ∈ withoutL l k ↔ mem us i = true) := by
  have hkl : k / 64 < ws.length := by
    by_cases hc : k / 64 < ws.length
    · exact hc
    · have := (h.mem_iff k).1 hk
      rw [mem_out (by omega)] at this; cases this
  subst hu
  refine ⟨h.1.set (ldf_lt (wd_lt h.1 _)), by rw [List.length_set]; exact h.2.2.1, asc_filter h.asc _, fun i hi => ?_⟩
  rw [mem_clrbit hkl, h.mem_dec]
  unfold withoutL
  simp only [List.mem_filter, Bool.not_eq_true', decide_eq_false_iff_not, Bool.and_eq_true, decide_eq_true_eq]
  constructor
  · rintro ⟨a, b⟩; exact ⟨a, by omega⟩
  · rintro ⟨a, b⟩; exact ⟨a, by omega⟩
theorem without_has {l : List Nat} {i : Int} (hb : hasB l i = false) : withoutL l i = l := by
  unfold withoutL
  rw [List.filter_eq_self]
  intro x hx
  simp only [Bool.not_eq_true', decide_eq_false_iff_not]
  intro e
  unfold hasB at hb
  rw [Bool.and_eq_false_iff] at hb
  rcases hb with hb | hb
  · rw [decide_eq_false_iff_not] at hb; omega
  · rw [decide_eq_false_iff_not] at hb
    apply hb
    have : i.toNat = x := by omega
    rw [this]; exact hx

set_option maxRecDepth 20000 in
theorem without_any (a : Option Addr) (n cap : Nat) (l : List Nat) (i : Int) (w : World) (h : Bs w a n cap l) :
    Calls Tryz.prog 83 #[.agg #[.slice a n cap], .int .i64 i] w (SetPost w (withoutL l i)) := by
  obtain ⟨i0, hi, hz0, hz1, hz2⟩ := info_parts info64
  have hH := Lib.hid (fun w' (hb : Below w.heap.size w w') => has_any a n cap l i w' (h.below hb))
  have hle := h.le
  have HB0 := Lib.hid h
  obtain ⟨ws, hw, hr⟩ := h
  have hncap : n ≤ cap := hw.2.1
  cases hb : hasB l i
  · have HL := Lib.hid (without_has hb)
    rw [hb] at hH
    clear hw hr hb
    go_enter Tryz.func83, Tryz.ntmps83
    go_wp2_with (go_at_call 77; refine (hH.out _ (by go_grown)).mono ?_; rintro e w2 ⟨rfl, hb2⟩; obtain ⟨c0, c1, f1, hz2', hbw2⟩ := box2 (hb2.mono (by simp)))
    have cs := World.cell?_setCell_same w2 ⟨w.heap.size + 1, 0, none⟩ (.slice a n cap) c1
    refine bodyPost_ret (v := .agg #[.slice a n cap]) (by simp [results, Tryz.results83, go_sem, cs]) rfl ?_
    rw [HL.out]
    exact ⟨a, n, cap, rfl, HB0.out.below (hbw2.setCell (show w.heap.size ≤ w.heap.size + 1 by omega) _), hbw2.setCell (show w.heap.size ≤ w.heap.size + 1 by omega) _⟩
  · have hb' := hb
    unfold hasB at hb'
    simp only [Bool.and_eq_true, decide_eq_true_eq] at hb'
    obtain ⟨k, hik⟩ : ∃ k : Nat, i = k := ⟨i.toNat, by omega⟩
    have hkm : k ∈ l := by have := hb'.2; rw [hik] at this; exact this
    have hk := hr.asc.2 k hkm
    have hkn : k / 64 < n := by
      by_cases hc : k / 64 < n
      · exact hc
      · have := (hr.mem_iff k).1 hkm
        rw [mem_out (by rw [hw.1]; omega)] at this; cases this
    have HM := Lib.hid (fun us hu => without_mem (us := us) hr hkm hu)
    rw [hb] at hH
    have i0' : 0 ≤ i := by omega
    have HIK := Lib.hid hik
    have hwl := Lib.hid (fun k => wd_lt hr.1 k)
    obtain ⟨hwn, -, hw3, ⟨_, h5, _⟩ | ⟨b, o, rfl, ⟨hbl, -⟩, hc⟩⟩ := hw
    · omega
    have HWN := Lib.hid hwn
    have HC := Lib.hid hc
    clear hr hb hik hb' hkm hwn hc
    go_enter Tryz.func83, Tryz.ntmps83
    have hby : (0 + n) * 8 ≤ 140737488355328 := by omega
    have hmx : 0 + n ≤ maxLen := by unfold maxLen; omega
    have hone : ∀ u ∈ ws.map u64v, u.oneCell' = true := by
      intro u hu
      obtain ⟨x, _, rfl⟩ := List.mem_map.1 hu
      rfl
    have hnl : (ws.map u64v).length = n * 1 := by rw [List.length_map, HWN.out]; omega
    have hONE := Lib.hid hone
    have hNL := Lib.hid hnl
    have hsrc : Hid (∀ w', Below w.heap.size w w' → ∀ j u, (ws.map u64v)[j]? = some u → w'.cell? ((⟨b, o, none⟩ : Addr).add j) = some u) := by
      intro w' hb j u hj
      have hjn : j < n := by
        have := (List.getElem?_eq_some_iff.1 hj).1; rw [List.length_map, HWN.out] at this; exact this
      have : (⟨b, o, none⟩ : Addr).add j = ⟨b, o + j, none⟩ := by unfold Addr.add; split <;> simp_all
      rw [this, hb.cell (p := ⟨b, o + j, none⟩) hbl, HC.out j hjn, ← hj, List.getElem?_map, wd_get (by rw [HWN.out]; exact hjn), List.getElem?_eq_getElem (by rw [HWN.out]; exact hjn)]; rfl
    obtain ⟨news, hnews⟩ : ∃ news, news = ws.map u64v := ⟨_, rfl⟩
    rw [← hnews] at hsrc hONE hNL
    have HNW := Lib.hid hnews
    clear hone hnl hnews
    go_wp2_with (first | (go_at_call 77; refine (hH.out _ (by go_grown)).mono ?_; rintro e w2 ⟨rfl, hb2⟩; obtain ⟨c0, c1, f1, hz2', hbw2⟩ := box2 (hb2.mono (by simp)); have l0 : w.heap.size < w2.heap.size := by omega) | (at_builtin; refine wpList_append_own _ rfl (.tmp 11) (.tmp 13) 37 rfl w2.heap.size 29 i0 (.int .u64 0) 1 8 Tryz.underlying37 hi hz0 hz1 hz2 rfl (by decide) _ 0 [] rfl (empty_row w2) ⟨b, o, none⟩ n cap news rfl hNL.out (hsrc.out _ (hbw2.alloc hbw2.size _)) hONE.out hmx hby (by simp) ?_))
    intro v' w3 hown hgr _
    try simp only [Nat.zero_add, List.nil_append] at hown
    rcases hown.2 with ⟨_, h0⟩ | ⟨g, cap', cur, rfl, hg, hh, hcc, hcm, _, _⟩
    · omega
    have hb3 : Below w2.heap.size w2 w3 := ((Below.refl w2.heap.size w2).alloc (Nat.le_refl _) _).grown hgr (by simp) (fun b hb => by cases hb; exact Nat.le_refl _)
    rw [HNW.out] at hown
    have HOWN := Lib.hid hown
    have hz3 := hb3.size
    have k0 := (hb3.cell (p := ⟨w.heap.size, 0, none⟩) (show w.heap.size < w2.heap.size by omega)).trans c0
    have k1 := (hb3.cell (p := ⟨w.heap.size + 1, 0, none⟩) (show w.heap.size + 1 < w2.heap.size by omega)).trans c1
    have q1 := (hb3.frozen (p := ⟨w.heap.size + 1, 0, none⟩) (show w.heap.size + 1 < w2.heap.size by omega)).trans f1
    have x1 : w3.cell? ⟨g, k / 64, none⟩ = some (.int .u64 (wd ws (k / 64) : Nat)) := by
      rw [World.ownsRow.cellAt hown (k / 64) (by omega), List.getElem?_map, wd_get (by rw [HWN.out]; exact hkn), List.getElem?_eq_getElem (by rw [HWN.out]; exact hkn)]; rfl
    have x2 := World.ownsRow.frozenAt hown (k / 64)
    have e3 : (i / 64).toNat = k / 64 := by have := HIK.out; omega
    have j0 : 0 ≤ i / 64 := by omega
    have j1 : i / 64 < (n : Int) := by have := HIK.out; omega
    have j2 : 0 ≤ i % 64 := by omega
    have j3 : i % 64 < 64 := by omega
    have hb03 := Lib.hid (hbw2.trans (hb3.mono hbw2.size))
    have hor : bits .andNot .u64 ((wd ws (k / 64) : Nat) : Int) (IntKind.u64.wrap (2 ^ (i % 64).toNat)) = ((ldf (wd ws (k / 64)) (2 ^ (k % 64)) : Nat) : Int) := andnot_bit (hwl.out _) (by have := HIK.out; omega) (by omega)
    have l1 : (g = w.heap.size + 1) = False := eq_false (by omega)
    have l2 : (w.heap.size + 1 = g) = False := eq_false (by omega)
    have hgw : w.heap.size ≤ g := by omega
    have HCM := Lib.hid hcm
    have hgl := (World.ownsRow.lt hown g rfl).2
    clear hown hgr hh hcm c0 c1 f1 hb2 hb3 hi hz0 hz1 hz2 hONE hNL hsrc hby hmx
    go_wp2_with fail
    go_region
    obtain ⟨w5, hw5⟩ : ∃ w5, w5 = (w3.setCell ⟨g, k / 64, none⟩ (.int .u64 (ldf (wd ws (k / 64)) (2 ^ (k % 64)) : Nat))).drew := ⟨_, rfl⟩
    have HB5 : Hid (Below w.heap.size w w5) := by show Below _ _ _; rw [hw5]; exact (hb03.out.setCell (show w.heap.size ≤ g by omega) _).drew
    have hz5 : w5.heap.size = w3.heap.size := by rw [hw5]; simp
    have HT : Hid (Wd w5 (some ⟨g, 0, none⟩) n cap' (ws.set (k / 64) (ldf (wd ws (k / 64)) (2 ^ (k % 64))))) := by
      show Wd _ _ _ _ _
      have h1 := (World.ownsRow.stored HOWN.out (k / 64) (u64v (ldf (wd ws (k / 64)) (2 ^ (k % 64))))).1
      have h2 := (ownsRow.wd (us := ws.set (k / 64) (ldf (wd ws (k / 64)) (2 ^ (k % 64)))) (by rw [List.map_set]; exact h1) hcc (by have := HCM.out; unfold maxLen at this; omega)).below (Below.refl _ _).drew
      rw [hw5]
      exact h2
    have r1 : w5.cell? ⟨w.heap.size + 1, 0, none⟩ = some (.slice none 0 0) := by
      rw [hw5]
      show (w3.setCell _ _).cell? _ = _
      rw [World.cell?_setCell_other _ _ _ _ (by intro e; injection e with e; rw [l1] at e; exact e)]; exact k1
    have r2 : w5.frozen? ⟨w.heap.size + 1, 0, none⟩ = false := by
      rw [hw5]
      show (w3.setCell _ _).frozen? _ = _
      rw [World.frozen?_setCell]; exact q1
    have HW5 := Lib.hid hw5
    clear hw5 hor x1 x2 k0 k1 q1
    go_wp2_with fail
    rw [← HW5.out]
    obtain ⟨m1, m2, m3, m4⟩ := HM.out _ rfl
    refine (trim_any (some ⟨g, 0, none⟩) n cap' _ (withoutL l k) _ HT.out m1 m2 m3 m4).mono ?_
    rintro e w6 ⟨a2, n2, d2, rfl, hs2, hb6⟩
    have HS2 := Lib.hid hs2
    have r3 := (hb6.cell (p := ⟨w.heap.size + 1, 0, none⟩) (show w.heap.size + 1 < w5.heap.size by omega)).trans r1
    have r4 := (hb6.frozen (p := ⟨w.heap.size + 1, 0, none⟩) (show w.heap.size + 1 < w5.heap.size by omega)).trans r2
    clear hs2 m1 m2 m3 m4
    go_wp2_with fail
    have cs := World.cell?_setCell_same w6 ⟨w.heap.size + 1, 0, none⟩ (.slice a2 n2 d2) r3
    refine bodyPost_ret (v := .agg #[.slice a2 n2 d2]) (by simp [results, Tryz.results83, go_sem, cs]) rfl ?_
    rw [HIK.out]
    exact ⟨a2, n2, d2, rfl, HS2.out.set r3 (by intro x e; cases e), (HB5.out.trans (hb6.mono HB5.out.size)).setCell (show w.heap.size ≤ w.heap.size + 1 by omega) _⟩
end Go.Proofs.YtfjpbkmnlmecgaaGreatDoor.Bz
end

section
/- Contract: Of. -/
namespace Go.Proofs.YtfjpbkmnlmecgaaGreatDoor.Bz
open Go.RowKit Go.PlainAid
set_option linter.unusedVariables false
set_option linter.unusedSimpArgs false
set_option maxHeartbeats 2000000

def zg (zs : List Int) (k : Nat) : Int := zs.getD k 0
/-- The slice (a, n, cap) holds the numbers zs. -/
def Iw (w : World) (a : Option Addr) (n cap : Nat) (zs : List Int) : Prop :=
  zs.length = n ∧ n ≤ cap ∧ cap ≤ 9223372036854775807 ∧ (a = none ∧ n = 0 ∧ cap = 0 ∨ ∃ b o, a = some ⟨b, o, none⟩ ∧ b < w.heap.size ∧ ∀ j, j < n → w.cell? ⟨b, o + j, none⟩ = some (.int .i64 (zg zs j)))
theorem Iw.below {w w' : World} {a : Option Addr} {n cap : Nat} {zs : List Int} (h : Iw w a n cap zs) (hb : Below w.heap.size w w') : Iw w' a n cap zs := by
  obtain ⟨h1, h2, h3, h4⟩ := h
  refine ⟨h1, h2, h3, ?_⟩
  rcases h4 with h4 | ⟨b, o, h4, h5, h6⟩
  · exact .inl h4
  · exact .inr ⟨b, o, h4, Nat.lt_of_lt_of_le h5 hb.size, fun j hj => (hb.cell (p := ⟨b, o + j, none⟩) h5).trans (h6 j hj)⟩
def ofL (zs : List Int) : List Nat := (List.range 4096).filter (fun x => decide ((x : Int) ∈ zs))
theorem mem_ofL {zs : List Int} {x : Nat} : x ∈ ofL zs ↔ x < 4096 ∧ (x : Int) ∈ zs := by unfold ofL; simp
theorem asc_ofL (zs : List Int) : Asc (ofL zs) := ⟨(pw_range 4096).filter _, fun x hx => (mem_ofL.1 hx).1⟩
/-- t is the greatest number below 4096 among the first k, or -1. -/
def TopAt (zs : List Int) (k : Nat) (t : Int) : Prop := -1 ≤ t ∧ t ≤ 4095 ∧ ∀ j, j < k → zg zs j ≤ 4095 → zg zs j ≤ t
theorem TopAt.next {zs : List Int} {k : Nat} {t : Int} (h : TopAt zs k t) (hx : zg zs k ≤ 4095) : TopAt zs (k + 1) (max t (zg zs k)) := by
  obtain ⟨h1, h2, h3⟩ := h
  refine ⟨by omega, by omega, fun j hj hz => ?_⟩
  by_cases hjk : j = k
  · subst hjk; omega
  · have := h3 j (by omega) hz; omega
theorem TopAt.skip {zs : List Int} {k : Nat} {t : Int} (h : TopAt zs k t) (hx : ¬ zg zs k ≤ 4095) : TopAt zs (k + 1) t := by
  obtain ⟨h1, h2, h3⟩ := h
  refine ⟨h1, h2, fun j hj hz => ?_⟩
  by_cases hjk : j = k
  · subst hjk; omega
  · exact h3 j (by omega) hz
/-- The words us hold the first k numbers that are between 0 and t. -/
def OfAt (zs : List Int) (t : Int) (k : Nat) (us : List Nat) : Prop := U64 us ∧ ∀ x : Nat, mem us x = true ↔ ∃ j, j < k ∧ zg zs j = (x : Int) ∧ (x : Int) ≤ t
theorem OfAt.zero (zs : List Int) (t : Int) (q : Nat) : OfAt zs t 0 (List.replicate q 0) := by
  refine ⟨fun x hx => by rw [List.eq_of_mem_replicate hx]; omega, fun x => ⟨fun h => ?_, fun ⟨j, hj, _⟩ => by omega⟩⟩
  have : wd (List.replicate q 0) (x / 64) = 0 := by
    unfold wd
    rw [List.getD_eq_getElem?_getD, List.getElem?_replicate]
    split <;> rfl
  unfold mem at h
  rw [this, Nat.zero_testBit] at h; cases h
theorem OfAt.next {zs : List Int} {t : Int} {k m : Nat} {us : List Nat} (h : OfAt zs t k us) (hm : zg zs k = (m : Int)) (ht : (m : Int) ≤ t) (hl : m / 64 < us.length) : OfAt zs t (k + 1) (us.set (m / 64) (wd us (m / 64) ||| 2 ^ (m % 64))) := by
  refine ⟨h.1.set (lor_lt (wd_lt h.1 _) (bit_lt (by omega))), fun x => ?_⟩
  rw [mem_setbit hl, Bool.or_eq_true, h.2 x, decide_eq_true_eq]
  constructor
  · rintro (⟨j, hj, a, b⟩ | rfl)
    · exact ⟨j, by omega, a, b⟩
    · exact ⟨k, by omega, hm, ht⟩
  · rintro ⟨j, hj, a, b⟩
    by_cases hjk : j = k
    · subst hjk
      right; omega
    · exact .inl ⟨j, by omega, a, b⟩
theorem OfAt.skip {zs : List Int} {t : Int} {k : Nat} {us : List Nat} (h : OfAt zs t k us) (hm : zg zs k < 0 ∨ t < zg zs k) : OfAt zs t (k + 1) us := by
  refine ⟨h.1, fun x => ?_⟩
  rw [h.2 x]
  constructor
  · rintro ⟨j, hj, a, b⟩; exact ⟨j, by omega, a, b⟩
  · rintro ⟨j, hj, a, b⟩
    refine ⟨j, ?_, a, b⟩
    by_cases hjk : j = k
    · subst hjk; omega
    · omega
theorem zg_mem {zs : List Int} {x : Int} : x ∈ zs ↔ ∃ j, j < zs.length ∧ zg zs j = x := by
  unfold zg
  constructor
  · intro h
    obtain ⟨j, hj, e⟩ := List.getElem_of_mem h
    exact ⟨j, hj, by rw [List.getD_eq_getElem?_getD, List.getElem?_eq_getElem hj]; exact e⟩
  · rintro ⟨j, hj, e⟩
    rw [List.getD_eq_getElem?_getD, List.getElem?_eq_getElem hj] at e
    rw [← e]; exact List.getElem_mem _
theorem of_none {zs : List Int} {t : Int} (h : TopAt zs zs.length t) (ht : t < 0) : ofL zs = [] := by
  rw [List.eq_nil_iff_forall_not_mem]
  intro x hx
  obtain ⟨h1, h2⟩ := mem_ofL.1 hx
  obtain ⟨j, hj, e⟩ := zg_mem.1 h2
  have := h.2.2 j hj (by omega)
  omega
theorem of_mem {zs : List Int} {t : Int} {us : List Nat} (h : TopAt zs zs.length t) (hu : OfAt zs t zs.length us) (hl : us.length ≤ 64) : U64 us ∧ us.length ≤ 64 ∧ Asc (ofL zs) ∧ ∀ i, i < 4096 → (i ∈ ofL zs ↔ mem us i = true) := by
  refine ⟨hu.1, hl, asc_ofL zs, fun i hi => ?_⟩
  rw [hu.2 i, mem_ofL, zg_mem]
  constructor
  · rintro ⟨_, j, hj, e⟩
    exact ⟨j, hj, e, by rw [← e]; exact h.2.2 j hj (by omega)⟩
  · rintro ⟨j, hj, e, _⟩
    exact ⟨hi, j, hj, e⟩

set_option maxRecDepth 20000 in
theorem of_any (a : Option Addr) (n cap : Nat) (zs : List Int) (w : World) (h : Iw w a n cap zs) (hn : n ≤ 1000000) :
    Calls Tryz.prog 36 #[.slice a n cap] w (SetPost w (ofL zs)) := by
  obtain ⟨i0, hi, hz0, hz1, hz2⟩ := info_parts info64
  obtain ⟨h1, h2, h3, h4⟩ := h
  rcases h4 with ⟨rfl, rfl, rfl⟩ | ⟨b, o, rfl, hb, hc⟩
  · have hnil : zs = [] := List.eq_nil_of_length_eq_zero h1
    subst hnil
    have ho : ofL [] = [] := by decide
    rw [ho]
    clear hi hz0 hz1 hz2 ho h1
    go_enter Tryz.func36, Tryz.ntmps36
    go_wp2_with fail
    go_loop [3, 11] (fun u v => u = .int .i64 (-1) ∧ v = .int .i64 0) (fun _ _ => 0)
    case atStart => exact ⟨rfl, rfl⟩
    case round =>
      obtain ⟨rfl, rfl⟩ := hrel
      go_wp2_with fail
      go_returns
      exact ⟨none, 0, 0, rfl, Bs.nil _, by go_grown⟩
  · have HC := Lib.hid hc
    have HL := Lib.hid h1
    clear hc h1
    go_enter Tryz.func36, Tryz.ntmps36
    go_wp2_with fail
    go_loop [3, 11] (fun u v => ∃ (k : Nat) (t : Int), k ≤ n ∧ v = .int .i64 k ∧ u = .int .i64 t ∧ Hid (TopAt zs k t)) (fun _ v => n - (intOf v).toNat)
    case atStart => exact ⟨0, -1, Nat.zero_le _, rfl, rfl, by omega, by omega, fun j hj => by omega⟩
    case round =>
      obtain ⟨k, t, hk, rfl, rfl, hT⟩ := hrel
      have hT1 : -1 ≤ t := hT.out.1
      have hT2 : t ≤ 4095 := hT.out.2.1
      by_cases hlt : k < n
      · have c1 := HC.out k hlt
        obtain ⟨x, hx⟩ : ∃ x, x = zg zs k := ⟨_, rfl⟩
        rw [← hx] at c1
        have HX := Lib.hid hx
        clear hx
        by_cases hle : x ≤ 4095
        · have HT := Lib.hid (hT.out.next (by rw [← HX.out]; exact hle))
          go_wp2_with fail
          go_round
          case rel => exact ⟨k + 1, max t x, by omega, by go_num, rfl, by have := HT.out; rw [← HX.out] at this; exact this⟩
          case measure => simp [intOf]; omega
        · have HT := Lib.hid (hT.out.skip (by rw [← HX.out]; exact hle))
          go_wp2_with fail
          go_round
          case rel => exact ⟨k + 1, t, by omega, by go_num, rfl, HT.out⟩
          case measure => simp [intOf]; omega
      · have hTn : Hid (TopAt zs zs.length t) := by show TopAt _ _ _; rw [HL.out, show n = k by omega]; exact hT.out
        by_cases ht0 : t < 0
        · have HO := Lib.hid (of_none hTn.out ht0)
          go_wp2_with fail
          go_returns
          rw [HO.out]
          exact ⟨none, 0, 0, rfl, Bs.nil _, by go_grown⟩
        · obtain ⟨q, hq⟩ : ∃ q : Nat, t / 64 + 1 = q := ⟨(t / 64 + 1).toNat, by omega⟩
          have hq64 : q ≤ 64 := by omega
          have hq1 : 1 ≤ q := by omega
          have htq := Lib.hid (show t < 64 * (q : Int) by omega)
          have hbytes : i0.bytes * q ≤ 281474976710656 := by rw [hz2]; omega
          have hqm : q ≤ maxLen := by unfold maxLen; omega
          clear hT
          go_wp2_with (refine wpList_make_full _ rfl (.tmp 26) (.tmp 26) 37 rfl (w.heap.size + 1) 29 i0 (.int .u64 0) 1 Tryz.underlying37 hi hz0 hz1 .i64 .i64 q q q rfl rfl rfl rfl hbytes hqm (by simp) ?_)
          intro w1 hown hgr
          have hrow := Lib.hid (Row.new hown)
          have hbel := Lib.hid ((Below.refl (w.heap.size + 1) _).grown hgr (by simp) (fun b hb => by cases hb))
          clear hown hgr hi hz0 hz1 hz2 hbytes hqm
          generalize hgE : w.heap.size + 1 = g at hrow ⊢
          have HGE := Lib.hid hgE
          clear hgE
          go_wp2_with fail
          go_loopw [30] (fun v wr => ∃ (k : Nat) (us : List Nat), k ≤ n ∧ v = .int .i64 k ∧ Hid (Row wr g g q us) ∧ Hid (OfAt zs t k us) ∧ Hid (Below (w.heap.size + 1) (w.alloc (.cells #[.slice none 0 0] 39)) wr)) (fun v _ => n - (intOf v).toNat)
          case atStart => exact ⟨0, List.replicate q 0, Nat.zero_le _, rfl, hrow.out, OfAt.zero _ _ _, hbel.out⟩
          case round =>
            clear hlt
            obtain ⟨k, us, hk, rfl, HR, HU, HB⟩ := hrel
            have hzr : w.heap.size + 1 ≤ wr.heap.size := by have := HB.out.size; simp at this; omega
            have hBw := Lib.hid (((Below.refl w.heap.size w).alloc (Nat.le_refl _) _).trans (HB.out.mono (by omega)))
            have c0 := (HB.out.cell (p := ⟨w.heap.size, 0, none⟩) (show w.heap.size < w.heap.size + 1 by omega)).trans (new1 w _ _).1
            have f0 := (HB.out.frozen (p := ⟨w.heap.size, 0, none⟩) (show w.heap.size < w.heap.size + 1 by omega)).trans (new1 w _ _).2
            by_cases hlt : k < n
            · have c1 := (hBw.out.cell (p := ⟨b, o + k, none⟩) hb).trans (HC.out k hlt)
              obtain ⟨x, hx⟩ : ∃ x, x = zg zs k := ⟨_, rfl⟩
              rw [← hx] at c1
              have HX := Lib.hid hx
              clear hx
              by_cases hx0 : 0 ≤ x
              · by_cases hxt : x ≤ t
                · obtain ⟨m, hm⟩ : ∃ m : Nat, x = m := ⟨x.toNat, by omega⟩
                  have hmq : m / 64 < q := by have := htq.out; omega
                  have x1 := HR.out.cell hmq
                  have x2 := HR.out.free (m / 64)
                  have e3 : (x / 64).toNat = m / 64 := by omega
                  have j0 : 0 ≤ x / 64 := by omega
                  have j1 : x / 64 < (q : Int) := by omega
                  have j2 : 0 ≤ x % 64 := by omega
                  have j3 : x % 64 < 64 := by omega
                  have hor : bits .or .u64 ((wd us (m / 64) : Nat) : Int) (IntKind.u64.wrap (2 ^ (x % 64).toNat)) = ((wd us (m / 64) ||| 2 ^ (m % 64) : Nat) : Int) := or_bit (wd_lt HU.out.1 _) (by omega) (by omega)
                  have HN := Lib.hid (HU.out.next (by rw [← HX.out]; exact hm) (by omega) (by rw [HR.out.len]; exact hmq))
                  have HM := Lib.hid hm
                  clear hm
                  go_wp2_with fail
                  go_region
                  go_wp2_with fail
                  go_roundw
                  case rel => exact ⟨k + 1, us.set (m / 64) (wd us (m / 64) ||| 2 ^ (m % 64)), by omega, by go_num, (HR.out.set _ _).below (Below.refl _ _).drew, HN.out, (HB.out.setCell (show w.heap.size + 1 ≤ g by rw [HGE.out]; exact Nat.le_refl _) _).drew⟩
                  case measure => simp [intOf]; omega
                · have hd : decide (x ≤ t) = false := decide_eq_false hxt
                  have HN := Lib.hid (HU.out.skip (by rw [← HX.out]; omega))
                  go_wp2_with fail
                  go_roundw
                  case rel => exact ⟨k + 1, us, by omega, by go_num, HR.out, HN.out, HB.out⟩
                  case measure => simp [intOf]; omega
              · have hd : decide (0 ≤ x) = false := decide_eq_false hx0
                have HN := Lib.hid (HU.out.skip (by rw [← HX.out]; omega))
                go_wp2_with fail
                go_roundw
                case rel => exact ⟨k + 1, us, by omega, by go_num, HR.out, HN.out, HB.out⟩
                case measure => simp [intOf]; omega
            · obtain ⟨m1, m2, m3, m4⟩ := of_mem hTn.out (by rw [HL.out, show n = k by omega]; exact HU.out) (by rw [HR.out.len]; exact hq64)
              have hg1 : w.heap.size < wr.heap.size := by omega
              go_wp2_with fail
              refine (row_trim HR.out ⟨m1, m2, m3, m4⟩).mono ?_
              rintro e w2 ⟨a2, n2, d2, rfl, hs2, hb2⟩
              have HS2 := Lib.hid hs2
              have c22 := (hb2.cell (p := ⟨w.heap.size, 0, none⟩) (show w.heap.size < wr.heap.size by omega)).trans c0
              have f22 := (hb2.frozen (p := ⟨w.heap.size, 0, none⟩) (show w.heap.size < wr.heap.size by omega)).trans f0
              clear hs2 m1 m2 m3 m4
              go_wp2_with fail
              have cs := World.cell?_setCell_same w2 ⟨w.heap.size, 0, none⟩ (.slice a2 n2 d2) c22
              refine bodyPost_ret (v := .agg #[.slice a2 n2 d2]) (by simp [results, Tryz.results36, go_sem, cs]) rfl ?_
              exact ⟨a2, n2, d2, rfl, HS2.out.set c22 (by intro x e; cases e), (hBw.out.trans (hb2.mono hBw.out.size)).setCell (show w.heap.size ≤ w.heap.size by omega) _⟩
end Go.Proofs.YtfjpbkmnlmecgaaGreatDoor.Bz
end

section
/- Contract: Below. -/
namespace Go.Proofs.YtfjpbkmnlmecgaaGreatDoor.Bz
open Go.RowKit Go.PlainAid
set_option linter.unusedVariables false
set_option linter.unusedSimpArgs false
set_option maxHeartbeats 2000000

def belowL (n : Int) : List Nat := List.range (min (max n 0) 4096).toNat
def ones : Nat := 18446744073709551615
theorem ones_tb (j : Nat) : ones.testBit j = decide (j < 64) := by
  have : ones = 2 ^ 64 - 1 := by decide
  rw [this, Nat.testBit_two_pow_sub_one]
theorem below_rp {us : List Nat} {m q : Nat} (hm : m ≤ 4096) (hq : q = (m + 63) / 64) (hl : us.length = q) (hw : ∀ j, wd us j = if j < q then (if j + 1 = q ∧ 0 < m % 64 then 2 ^ (m % 64) - 1 else ones) else 0) : Rp us (List.range m) := by
  have hp : 0 < m % 64 → 1 < 2 ^ (m % 64) := fun h => Nat.one_lt_two_pow (by omega)
  refine Rp.of ?_ ?_ (by omega) ⟨pw_range m, fun x hx => by have := List.mem_range.1 hx; omega⟩ fun i hi => ?_
  · intro x hx
    obtain ⟨j, hj, rfl⟩ := List.getElem_of_mem hx
    rw [← wd_get hj, hw j]
    split
    · split
      · have := bit_lt (k := m % 64) (by omega); omega
      · unfold ones; omega
    · omega
  · intro j hj
    rw [hw, if_pos (by omega)]
    split
    · rename_i h; have := hp h.2; omega
    · unfold ones; omega
  · rw [List.mem_range]
    unfold mem
    rw [hw]
    by_cases h1 : i / 64 < q
    · rw [if_pos h1]
      by_cases h2 : i / 64 + 1 = q ∧ 0 < m % 64
      · rw [if_pos h2, Nat.testBit_two_pow_sub_one, decide_eq_true_eq]
        omega
      · rw [if_neg h2, ones_tb, decide_eq_true_eq]
        constructor
        · intro _; omega
        · intro _
          by_cases h3 : 0 < m % 64
          · have : i / 64 + 1 ≠ q := fun e => h2 ⟨e, h3⟩
            omega
          · omega
    · rw [if_neg h1, Nat.zero_testBit]
      constructor
      · intro h; omega
      · intro h; cases h

theorem sub_bit {k : Nat} {j : Int} (hj : j = (k % 64 : Nat)) (hk : 0 < k % 64) (hk2 : k % 64 < 64) : IntKind.u64.wrap (IntKind.u64.wrap (2 ^ j.toNat) - 1) = ((2 ^ (k % 64) - 1 : Nat) : Int) := by
  subst hj
  have hb := bit_lt hk2
  have hp : 1 ≤ 2 ^ (k % 64) := Nat.one_le_two_pow
  rw [Int.toNat_natCast, IntKind.wrap_u64, IntKind.wrap_u64]
  have : ((2 : Int) ^ (k % 64)) = ((2 ^ (k % 64) : Nat) : Int) := by simp
  rw [this]
  generalize 2 ^ (k % 64) = y at *
  omega

set_option maxRecDepth 20000 in
theorem below_any (n : Int) (w : World) :
    Calls Tryz.prog 82 #[.int .i64 n] w (SetPost w (belowL n)) := by
  obtain ⟨i0, hi, hz0, hz1, hz2⟩ := info_parts info64
  obtain ⟨m, hm⟩ : ∃ m : Nat, min (max n 0) 4096 = m := ⟨(min (max n 0) 4096).toNat, by omega⟩
  have hB : Hid (belowL n = List.range m) := by show _ = _; unfold belowL; rw [hm]; simp
  have hm4 : m ≤ 4096 := by omega
  obtain ⟨q, hq⟩ : ∃ q : Nat, ((m : Int) + 63) / 64 = q := ⟨(m + 63) / 64, by omega⟩
  have hqe := Lib.hid (show q = (m + 63) / 64 by omega)
  have hq64 : q ≤ 64 := by omega
  have hbytes : i0.bytes * q ≤ 281474976710656 := by rw [hz2]; omega
  have hqm : q ≤ maxLen := by unfold maxLen; omega
  have fin : Hid (∀ us w', Row w' (w.heap.size + 1) (w.heap.size + 1) q us → (∀ j, wd us j = if j < q then (if j + 1 = q ∧ 0 < m % 64 then 2 ^ (m % 64) - 1 else ones) else 0) → Bs w' (some ⟨w.heap.size + 1, 0, none⟩) q q (belowL n)) := by
    intro us w' hr hu
    rw [hB.out]
    exact ⟨us, hr.wd (by omega), below_rp hm4 hqe.out hr.len hu⟩
  go_enter Tryz.func82, Tryz.ntmps82
  go_wp2_with (refine wpList_make_full _ rfl (.tmp 10) (.tmp 10) 37 rfl (w.heap.size + 1) 29 i0 (.int .u64 0) 1 Tryz.underlying37 hi hz0 hz1 .i64 .i64 (((m : Int) + 63) / 64) (((m : Int) + 63) / 64) q rfl rfl hq hq hbytes hqm (by simp) ?_)
  intro w1 hown hgr
  have hrow := Lib.hid (Row.new hown)
  have hbel := Lib.hid ((Below.refl (w.heap.size + 1) _).grown hgr (by simp) (fun b hb => by cases hb))
  clear hown hgr hi hz0 hz1 hz2 hbytes hqm
  generalize hgE : w.heap.size + 1 = g at hrow fin ⊢
  have HGE := Lib.hid hgE
  clear hgE
  go_wp2_with fail
  go_loopw [14] (fun v wr => ∃ (k : Nat) (us : List Nat), k ≤ q ∧ v = .int .i64 k ∧ Hid (Row wr g g q us) ∧ Hid (Upto us k (fun _ => ones)) ∧ Hid (Below (w.heap.size + 1) (w.alloc (.cells #[.slice none 0 0] 39)) wr)) (fun v _ => q - (intOf v).toNat)
  case atStart => exact ⟨0, List.replicate q 0, Nat.zero_le _, rfl, hrow.out, Upto.zero _ _, hbel.out⟩
  case round =>
    obtain ⟨k, us, hk, rfl, HR, HU, HB⟩ := hrel
    have hzr : w.heap.size + 1 ≤ wr.heap.size := by have := HB.out.size; simp at this; omega
    have hBw := Lib.hid (((Below.refl w.heap.size w).alloc (Nat.le_refl _) _).trans (HB.out.mono (by omega)))
    have c0 := (HB.out.cell (p := ⟨w.heap.size, 0, none⟩) (show w.heap.size < w.heap.size + 1 by omega)).trans (new1 w _ _).1
    have f0 := (HB.out.frozen (p := ⟨w.heap.size, 0, none⟩) (show w.heap.size < w.heap.size + 1 by omega)).trans (new1 w _ _).2
    by_cases hlt : k < q
    · have x1 := HR.out.cell hlt
      have x2 := HR.out.free k
      have HN := Lib.hid (HU.out.next HR.out.len hlt)
      go_wp2_with fail
      go_roundw
      case rel => exact ⟨k + 1, us.set k ones, by omega, by go_num, HR.out.set k ones, HN.out, HB.out.setCell (show w.heap.size + 1 ≤ g by rw [HGE.out]; exact Nat.le_refl _) _⟩
      case measure => simp [intOf]; omega
    · have hkq : k = q := by omega
      by_cases hr : 0 < m % 64
      · have hr1 : (0 : Int) < (m : Int) % 64 := by omega
        have hq1 : q - 1 < q := by have := hqe.out; omega
        have hq2 : 1 ≤ q := by omega
        have x1 := HR.out.cell hq1
        have x2 := HR.out.free (q - 1)
        have hsh : IntKind.u64.wrap (IntKind.u64.wrap ((2 : Int) ^ (m % 64)) - 1) = ((2 ^ (m % 64) - 1 : Nat) : Int) := by
          have := sub_bit (k := m) (j := ((m % 64 : Nat) : Int)) rfl hr (by omega)
          rw [Int.toNat_natCast] at this; exact this
        have l1 : (g = w.heap.size) = False := eq_false (by have := HGE.out; omega)
        have l2 : (w.heap.size = g) = False := eq_false (by have := HGE.out; omega)
        have HK := Lib.hid hkq
        have HRM := Lib.hid hr
        clear hkq hr
        go_wp2_with fail
        have cs1 := World.cell?_setCell_same (wr.setCell ⟨g, q - 1, none⟩ (.int .u64 (2 ^ (m % 64) - 1 : Nat))) ⟨w.heap.size, 0, none⟩ (.slice (some ⟨g, 0, none⟩) q q) (u := .slice none 0 0) (by rw [World.cell?_setCell_other _ _ _ _ (by intro e; injection e with e; rw [l1] at e; exact e)]; exact c0)
        refine bodyPost_ret (v := .agg #[.slice (some ⟨g, 0, none⟩) q q]) (by simp [results, Tryz.results82, go_sem, cs1]) rfl ?_
        have hR5 := (HR.out.set (q - 1) (2 ^ (m % 64) - 1)).other (a := ⟨w.heap.size, 0, none⟩) (show g ≠ w.heap.size by rw [ne_eq, l1]; exact id) (.slice (some ⟨g, 0, none⟩) q q)
        refine ⟨_, _, _, rfl, fin.out _ _ hR5 (fun j => ?_), (hBw.out.setCell (show w.heap.size ≤ g by have := HGE.out; omega) _).setCell (Nat.le_refl _) _⟩
        rw [wd_set (by rw [HR.out.len]; exact hq1)]
        by_cases hj : j = q - 1
        · rw [if_pos hj, if_pos (by omega), if_pos ⟨by omega, HRM.out⟩]
        · rw [if_neg hj, HU.out j, HK.out]
          by_cases h2 : j < q
          · rw [if_pos h2, if_pos h2, if_neg (by omega)]
          · rw [if_neg h2, if_neg h2]
      · have hr1 : ¬ (0 : Int) < (m : Int) % 64 := by omega
        have HK := Lib.hid hkq
        have HRM := Lib.hid hr
        clear hkq hr
        go_wp2_with fail
        have cs1 := World.cell?_setCell_same wr ⟨w.heap.size, 0, none⟩ (.slice (some ⟨g, 0, none⟩) q q) c0
        refine bodyPost_ret (v := .agg #[.slice (some ⟨g, 0, none⟩) q q]) (by simp [results, Tryz.results82, go_sem, cs1]) rfl ?_
        have hR5 := HR.out.other (a := ⟨w.heap.size, 0, none⟩) (show g ≠ w.heap.size by have := HGE.out; omega) (.slice (some ⟨g, 0, none⟩) q q)
        refine ⟨_, _, _, rfl, fin.out _ _ hR5 (fun j => ?_), hBw.out.setCell (Nat.le_refl _) _⟩
        rw [HU.out j, HK.out]
        by_cases h2 : j < q
        · rw [if_pos h2, if_pos h2, if_neg (fun e => HRM.out e.2)]
        · rw [if_neg h2, if_neg h2]
end Go.Proofs.YtfjpbkmnlmecgaaGreatDoor.Bz
end
