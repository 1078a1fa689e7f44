/- Contracts: TrailingZeros64, Equal, Within, Meets, Len, Least, Greatest, beyond. -/
import Derived.Test.YtkmchnggcjmchaaDoorBtM
import Derived.Test.YtkmchnggcjmchaaDoorShelf
import Derived.Shelf.Spec.TrailingZeros
namespace Go.Proofs.YtkmchnggcjmchaaDoor.Bz
open Go.RowKit Go.PlainAid
set_option linter.unusedVariables false
set_option linter.unusedSimpArgs false
set_option maxHeartbeats 1000000

def Tz (w : World) : Prop := 1 < w.heap.size ∧ ∀ j, j < Lib.deBruijn64tab.length → w.cell? ⟨1, j, none⟩ = some (.int .u8 (Lib.deBruijn64tab.getD j 0))
theorem Tz.below {w w' : World} (h : Tz w) (hb : Below w.heap.size w w') : Tz w' :=
  ⟨Nat.lt_of_lt_of_le h.1 hb.size, fun j hj => (hb.cell (p := ⟨_, j, none⟩) h.1).trans (h.2 j hj)⟩

theorem tz_core (x k idx : Nat) (w : World) (hx0 : ((x : Int) == 0) = false)
    (key : IntKind.u64.wrap (bits BinOp.and IntKind.u64 (x : Int) (IntKind.u64.wrap (-(x : Int))) * 285870213051353865) / 288230376151711744 = (idx : Int))
    (hi : idx < 64) (hk : k < 64) (hcell : w.cell? ⟨1, idx, none⟩ = some (.int .u8 k)) :
    Calls Tryd.prog 66 #[.int .u64 x] w fun e w' => e = .returned (.int .i64 k) ∧ w' = w := by
  go_enter Tryd.func66, Tryd.ntmps66
  go_wp2_with (simp only [key])
  go_ret
  exact ⟨rfl, rfl⟩
theorem tz_any (x : Nat) (hx0 : x ≠ 0) (hx : x < 18446744073709551616) (w : World) (hT : Tz w) :
    Calls Tryd.prog 66 #[.int .u64 x] w fun e w' => e = .returned (.int .i64 (Lib.ctz 64 x)) ∧ w' = w := by
  obtain ⟨hlow, hk⟩ := Lib.lowest_bit 64 x hx0 hx
  obtain ⟨hi, htab⟩ := Lib.deBruijn64_at _ hk
  have hcell := hT.2 _ hi
  rw [htab] at hcell
  exact tz_core x _ _ w (by simp; omega) (Go.Proofs.tz64_key x _ hx hx0 hlow) hi hk hcell

theorem equal_any (a b : Option Addr) (n m cap dap : Nat) (l r : List Nat) (w : World) (h : Bs w a n cap l) (k : Bs w b m dap r) :
    Calls Tryd.prog 20 #[.agg #[.slice a n cap], .agg #[.slice b m dap]] w fun e w' => e = .returned (.bool (decide (l = r))) ∧ Below w.heap.size w w' := by
  obtain ⟨ws, ⟨h1, h2, h3, h4⟩, hr⟩ := h
  obtain ⟨vs, ⟨k1, k2, k3, k4⟩, kr⟩ := k
  have hiff := eq_words hr kr
  rw [h1, k1] at hiff
  clear h1 k1 hr kr
  by_cases hnm : n = m
  · subst hnm
    have HI := Lib.hid hiff
    clear hiff
    rcases h4 with ⟨rfl, rfl, rfl⟩ | ⟨b1, o1, rfl, ⟨hb1, -⟩, hc1⟩
    · have hres : decide (l = r) = true := decide_eq_true (HI.out.2 ⟨rfl, fun j hj => by omega⟩)
      rw [hres]
      clear k4
      go_enter Tryd.func20, Tryd.ntmps20
      go_wp2_with fail
      go_loop [17] (fun v => v = .int .i64 0) (fun _ => 0)
      case atStart => rfl
      case round =>
        obtain rfl := hrel
        go_wp2_with fail
        go_returns
        exact ⟨rfl, by go_grown⟩
    · rcases k4 with ⟨rfl, rfl, rfl⟩ | ⟨b2, o2, rfl, ⟨hb2, -⟩, hc2⟩
      · have hres : decide (l = r) = true := decide_eq_true (HI.out.2 ⟨rfl, fun j hj => by omega⟩)
        rw [hres]
        clear hc1
        go_enter Tryd.func20, Tryd.ntmps20
        go_wp2_with fail
        go_loop [17] (fun v => v = .int .i64 0) (fun _ => 0)
        case atStart => rfl
        case round =>
          obtain rfl := hrel
          go_wp2_with fail
          go_returns
          exact ⟨rfl, by go_grown⟩
      · have HC1 := Lib.hid hc1
        have HC2 := Lib.hid hc2
        clear hc1 hc2
        go_enter Tryd.func20, Tryd.ntmps20
        go_wp2_with fail
        go_loop [17] (fun v => ∃ k : Nat, k ≤ n ∧ v = .int .i64 k ∧ Hid (∀ j, j < k → wd ws j = wd vs j)) (fun v => n - (intOf v).toNat)
        case atStart => exact ⟨0, Nat.zero_le _, rfl, fun j hj => by omega⟩
        case round =>
          obtain ⟨k, hk, rfl, hpre⟩ := hrel
          by_cases hlt : k < n
          · have c1 := HC1.out k hlt
            have c2 := HC2.out k hlt
            by_cases hx : wd ws k = wd vs k
            · have HX := Lib.hid hx
              rw [← hx] at c2
              clear hx
              go_wp2_with fail
              go_round
              case rel => exact ⟨k + 1, by omega, by go_num, fun j hj => by
                by_cases hjk : j = k
                · rw [hjk]; exact HX.out
                · exact hpre.out j (by omega)⟩
              case measure => simp [intOf]; omega
            · have hd : decide (l = r) = false := decide_eq_false (fun e => hx ((HI.out.1 e).2 k hlt))
              have hx1 : (((wd ws k : Nat) : Int) == ((wd vs k : Nat) : Int)) = false := beq_eq_false_iff_ne.2 (by omega)
              have hx2 : (((wd ws k : Nat) : Int) != ((wd vs k : Nat) : Int)) = true := by rw [bne, hx1]; rfl
              have HD := Lib.hid hd
              clear hx hd
              go_wp2_with fail
              go_returns
              exact ⟨ret_bool HD.out.symm, by go_grown⟩
          · have hd : decide (l = r) = true := decide_eq_true (HI.out.2 ⟨by trivial, fun j hj => hpre.out j (by omega)⟩)
            have HD := Lib.hid hd
            clear hd
            go_wp2_with fail
            go_returns
            exact ⟨ret_bool HD.out.symm, by go_grown⟩
  · have hres : decide (l = r) = false := decide_eq_false (fun e => hnm (hiff.1 e).1)
    have e1 : ((n : Int) == (m : Int)) = false := beq_eq_false_iff_ne.2 (by omega)
    have e2 : ((n : Int) != (m : Int)) = true := by rw [bne, e1]; rfl
    rw [hres]
    clear hres hiff h4 k4 hnm
    go_enter Tryd.func20, Tryd.ntmps20
    go_wp2_with fail
    go_returns
    exact ⟨rfl, by go_grown⟩

end Go.Proofs.YtkmchnggcjmchaaDoor.Bz
