/- Contracts: Meets, Len, Least, Greatest, beyond. -/
import Derived.Test.YtgbonpmakahibaaDoorBtB
namespace Go.Proofs.YtgbonpmakahibaaDoor
open Go.RowKit Go.PlainAid
set_option linter.unusedVariables false
set_option linter.unusedSimpArgs false
set_option maxHeartbeats 1000000

theorem meets_any (a b : Option Addr) (n m cap dap : Nat) (l r : List Nat) (w : World) (h : Bs w a n cap l) (k : Bs w b m dap r) :
    Calls Tryd.prog 43 #[.agg #[.slice a n cap], .agg #[.slice b m dap]] w fun e w' => e = .returned (.bool (decide (∃ x ∈ l, x ∈ r))) ∧ Below w.heap.size w w' := by
  obtain ⟨ws, ⟨h1, h2, h3, h4⟩, hr⟩ := h
  obtain ⟨vs, ⟨k1, k2, k3, k4⟩, kr⟩ := k
  have hiff := meet_words hr kr
  rw [h1, k1] at hiff
  have hwl := Lib.hid (fun k => wd_lt hr.1 k)
  have hvl := Lib.hid (fun k => wd_lt kr.1 k)
  clear h1 k1 hr kr
  have HI := Lib.hid hiff
  clear hiff
  obtain ⟨q, hq⟩ : ∃ q : Nat, min (n : Int) (m : Int) = q := ⟨min n m, by omega⟩
  have hqm : q = min n m := by omega
  by_cases hq0 : q = 0
  · have hres : decide (∃ x ∈ l, x ∈ r) = false := decide_eq_false (fun e => by obtain ⟨j, hj, _⟩ := HI.out.1 e; omega)
    rw [hres]
    subst hq0
    clear h4 k4 hqm hres
    go_enter Tryd.func43, Tryd.ntmps43
    go_wp2_with fail
    go_loopw [13] (fun v wr => v = .int .i64 0 ∧ Below w.heap.size w wr) (fun _ _ => 0)
    case atStart => exact ⟨rfl, by go_grown⟩
    case round =>
      obtain ⟨rfl, hbr⟩ := hrel
      go_wp2_with fail
      go_returns
      exact ⟨rfl, hbr⟩
  · rcases h4 with ⟨rfl, rfl, rfl⟩ | ⟨b1, o1, rfl, hb1, hc1⟩
    · omega
    rcases k4 with ⟨rfl, rfl, rfl⟩ | ⟨b2, o2, rfl, hb2, hc2⟩
    · omega
    have HC1 := Lib.hid hc1
    have HC2 := Lib.hid hc2
    have hqn : q ≤ n := by omega
    have hqk : q ≤ m := by omega
    have HQ := Lib.hid hqm
    clear hc1 hc2 hqm hq0
    go_enter Tryd.func43, Tryd.ntmps43
    go_wp2_with fail
    go_loopw [13] (fun v wr => ∃ k : Nat, k ≤ q ∧ v = .int .i64 k ∧ Hid (∀ j, j < k → wd ws j &&& wd vs j = 0) ∧ Below w.heap.size w wr ∧ w.heap.size + 2 ≤ wr.heap.size ∧ wr.cell? ⟨w.heap.size, 0, none⟩ = some (.slice (some ⟨b1, o1, none⟩) n cap) ∧ wr.cell? ⟨w.heap.size + 1, 0, none⟩ = some (.slice (some ⟨b2, o2, none⟩) m dap)) (fun v _ => q - (intOf v).toNat)
    case atStart => exact ⟨0, Nat.zero_le _, rfl, fun j hj => by omega, by go_grown, by simp, by simp, by simp⟩
    case round =>
      obtain ⟨k, hk, rfl, hpre, hbr, hzr, hca, hcb⟩ := hrel
      by_cases hlt : k < q
      · have c1 := (hbr.cell (p := ⟨b1, o1 + k, none⟩) hb1).trans (HC1.out k (by omega))
        have c2 := (hbr.cell (p := ⟨b2, o2 + k, none⟩) hb2).trans (HC2.out k (by omega))
        have hand : bits .and .u64 ((wd ws k : Nat) : Int) ((wd vs k : Nat) : Int) = ((wd ws k &&& wd vs k : Nat) : Int) := u64_and_nat _ _ (hwl.out k) (hvl.out k)
        have i1 : (k : Int) < (n : Int) := by omega
        have i2 : (k : Int) < (m : Int) := by omega
        have i0 : (0 : Int) ≤ (k : Int) := by omega
        obtain ⟨y, hy⟩ : ∃ y, y = wd ws k &&& wd vs k := ⟨_, rfl⟩
        rw [← hy] at hand
        have HY := Lib.hid hy
        clear hy
        by_cases hx : y = 0
        · have HX := Lib.hid hx
          rw [hx] at hand
          clear hx
          go_wp2_with fail
          go_quiet (fail)
          go_wp2_with fail
          go_roundw
          case rel => exact ⟨k + 1, by omega, by go_num, fun j hj => by
            by_cases hjk : j = k
            · rw [hjk, ← HY.out]; exact HX.out
            · exact hpre.out j (by omega), bdr hbr _, hzr, hca, hcb⟩
          case measure => simp [intOf]; omega
        · have hd : decide (∃ x ∈ l, x ∈ r) = true := decide_eq_true (HI.out.2 ⟨k, by rw [← HQ.out]; exact hlt, by rw [← HY.out]; exact hx⟩)
          have hx1 : ((y : Int) == 0) = false := beq_eq_false_iff_ne.2 (by omega)
          have hx2 : ((y : Int) != 0) = true := by rw [bne, hx1]; rfl
          have HD := Lib.hid hd
          clear hx hd
          go_wp2_with fail
          go_quiet (fail)
          go_wp2_with fail
          go_returns
          exact ⟨ret_bool HD.out.symm, bdr hbr _⟩
      · have hd : decide (∃ x ∈ l, x ∈ r) = false := decide_eq_false (fun e => by
          obtain ⟨j, hj, h⟩ := HI.out.1 e
          rw [← HQ.out] at hj
          exact h (hpre.out j (by omega)))
        have HD := Lib.hid hd
        clear hd
        go_wp2_with fail
        go_returns
        exact ⟨ret_bool HD.out.symm, hbr⟩

def firstP (l : List Nat) : Ending := .returned (.tuple #[.int .i64 (l.headD 0 : Nat), .bool (!l.isEmpty)])
def lastP (l : List Nat) : Ending := .returned (.tuple #[.int .i64 (l.getLastD 0 : Nat), .bool (!l.isEmpty)])
theorem least_any (a : Option Addr) (n cap : Nat) (l : List Nat) (w : World) (hT : Tz w) (h : Bs w a n cap l) :
    Calls Tryd.prog 36 #[.agg #[.slice a n cap]] w fun e w' => e = firstP l ∧ Below w.heap.size w w' := by
  obtain ⟨ws, ⟨h1, h2, h3, h4⟩, hr⟩ := h
  have hn64 := hr.2.2.1
  have hlw := Lib.hid (fun (k : Nat) (hz : ∀ j, j < k → wd ws j = 0) (hk : wd ws k ≠ 0) => least_words hr hz hk)
  have hno := Lib.hid (fun hz => none_words hr hz)
  have hcz := Lib.hid (fun (k : Nat) (hk : wd ws k ≠ 0) => (ctz_spec hk (wd_lt hr.1 k)).1)
  have htz := Lib.hid (fun (k : Nat) (hk : wd ws k ≠ 0) w' (hb : Below w.heap.size w w') => tz_any (wd ws k) hk (wd_lt hr.1 k) w' (hT.below hb))
  rw [h1] at hn64 hno
  clear h1 hr hT
  rcases h4 with ⟨rfl, rfl, rfl⟩ | ⟨b1, o1, rfl, hb1, hc1⟩
  · have hl : l = [] := hno.out (fun j hj => by omega)
    subst hl
    go_enter Tryd.func36, Tryd.ntmps36
    go_wp2_with fail
    go_loopw [9] (fun v wr => v = .int .i64 0 ∧ Below w.heap.size w wr) (fun _ _ => 0)
    case atStart => exact ⟨rfl, by go_grown⟩
    case round =>
      obtain ⟨rfl, hbr⟩ := hrel
      go_wp2_with fail
      go_ret2
      exact ⟨rfl, hbr⟩
  · have HC1 := Lib.hid hc1
    clear hc1
    go_enter Tryd.func36, Tryd.ntmps36
    go_wp2_with fail
    go_loopw [9] (fun v wr => ∃ k : Nat, k ≤ n ∧ v = .int .i64 k ∧ Hid (∀ j, j < k → wd ws j = 0) ∧ Below w.heap.size w wr) (fun v _ => n - (intOf v).toNat)
    case atStart => exact ⟨0, Nat.zero_le _, rfl, fun j hj => by omega, by go_grown⟩
    case round =>
      obtain ⟨k, hk, rfl, hpre, hbr⟩ := hrel
      by_cases hlt : k < n
      · have c1 := (hbr.cell (p := ⟨b1, o1 + k, none⟩) hb1).trans (HC1.out k hlt)
        by_cases hx : wd ws k = 0
        · have HX := Lib.hid hx
          rw [hx] at c1
          clear hx
          go_wp2_with fail
          go_roundw
          case rel => exact ⟨k + 1, by omega, by go_num, fun j hj => by
            by_cases hjk : j = k
            · rw [hjk]; exact HX.out
            · exact hpre.out j (by omega), hbr⟩
          case measure => simp [intOf]; omega
        · obtain ⟨g1, g2⟩ := hlw.out k hpre.out hx
          have g3 : l.isEmpty = false := by cases l with | nil => exact absurd rfl g1 | cons => rfl
          have HF : Hid (firstP l = .returned (.tuple #[.int .i64 (64 * (k : Int) + (Lib.ctz 64 (wd ws k) : Nat)), .bool true])) := by
            show _ = _
            unfold firstP
            rw [g2, g3, show ((64 * k + Lib.ctz 64 (wd ws k) : Nat) : Int) = 64 * (k : Int) + (Lib.ctz 64 (wd ws k) : Nat) by omega]; rfl
          have g4 := hcz.out k hx
          have HX := Lib.hid hx
          have hx1 : (((wd ws k : Nat) : Int) == 0) = false := beq_eq_false_iff_ne.2 (by omega)
          have hx2 : (((wd ws k : Nat) : Int) != 0) = true := by rw [bne, hx1]; rfl
          clear hx g1 g2 g3
          go_wp2_with (go_at_call 52; refine (htz.out k HX.out _ hbr).mono ?_; rintro e w2 ⟨rfl, rfl⟩)
          go_ret2
          exact ⟨HF.out.symm, hbr⟩
      · have hl : l = [] := hno.out (fun j hj => hpre.out j (by omega))
        subst hl
        go_wp2_with fail
        go_ret2
        exact ⟨rfl, hbr⟩

theorem len_any (a : Option Addr) (n cap : Nat) (l : List Nat) (w : World) (h : Bs w a n cap l) :
    Calls Tryd.prog 37 #[.agg #[.slice a n cap]] w fun e w' => e = .returned (.int .i64 (l.length : Nat)) ∧ Below w.heap.size w w' := by
  obtain ⟨ws, ⟨h1, h2, h3, h4⟩, hr⟩ := h
  have hn64 := hr.2.2.1
  have hlen := len_words hr
  rw [h1] at hn64 hlen
  have hle := Lib.hid (sumPop_le ws)
  have hO := Lib.hid (fun (k : Nat) w => ones_any (wd ws k) w (wd_lt hr.1 k))
  have hp := Lib.hid (fun (k : Nat) => popF_le 64 (wd ws k))
  have HL := Lib.hid hlen
  clear h1 hr hlen
  rcases h4 with ⟨rfl, rfl, rfl⟩ | ⟨b1, o1, rfl, hb1, hc1⟩
  · go_enter Tryd.func37, Tryd.ntmps37
    go_wp2_with fail
    go_loopw [3, 9] (fun u v wr => u = .int .i64 0 ∧ v = .int .i64 0 ∧ Below w.heap.size w wr) (fun _ _ _ => 0)
    case atStart => exact ⟨rfl, rfl, by go_grown⟩
    case round =>
      obtain ⟨rfl, rfl, hbr⟩ := hrel
      go_wp2_with fail
      go_returns
      exact ⟨ret_int (by rw [HL.out]; rfl), hbr⟩
  · have HC1 := Lib.hid hc1
    clear hc1
    go_enter Tryd.func37, Tryd.ntmps37
    go_wp2_with fail
    go_loopw [3, 9] (fun u v wr => ∃ k : Nat, k ≤ n ∧ v = .int .i64 k ∧ u = .int .i64 (sumPop ws k : Nat) ∧ Below w.heap.size w wr) (fun _ v _ => n - (intOf v).toNat)
    case atStart => exact ⟨0, Nat.zero_le _, rfl, rfl, by go_grown⟩
    case round =>
      obtain ⟨k, hk, rfl, rfl, hbr⟩ := hrel
      by_cases hlt : k < n
      · have c1 := (hbr.cell (p := ⟨b1, o1 + k, none⟩) hb1).trans (HC1.out k hlt)
        have hk1 := hle.out k
        have hk2 := hp.out k
        go_wp2_with (go_at_call 53; refine (hO.out k _).mono ?_; rintro e w2 ⟨rfl, rfl⟩)
        go_roundw
        case rel => exact ⟨k + 1, by omega, by go_num, by rw [sumPop_succ]; go_num, hbr⟩
        case measure => simp [intOf]; omega
      · go_wp2_with fail
        go_returns
        exact ⟨ret_int (by rw [HL.out, show k = n by omega]), hbr⟩
end Go.Proofs.YtgbonpmakahibaaDoor
