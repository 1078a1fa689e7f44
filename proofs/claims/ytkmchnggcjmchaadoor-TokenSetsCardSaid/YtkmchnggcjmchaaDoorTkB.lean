/- Contracts: token.skip. -/
import Derived.Test.YtkmchnggcjmchaaDoorTkA
import Derived.BigGuardPart
namespace Go.Proofs.YtkmchnggcjmchaaDoor
open Go.RowKit Go.PlainAid
set_option linter.unusedVariables false
set_option maxHeartbeats 400000

theorem skip_any (s : ByteArray) (at0 : Nat) (w : World) (hs : s.size ≤ 4611686018427387904) (ha : at0 ≤ s.size) :
    Calls Tryd.prog 22 #[.string s, .int .i64 at0] w fun e w' => e = .returned (.int .i64 ↑(at0 + skipL false (rest s at0))) ∧ w = w' := by
  have hb := get_bt s
  go_enter Tryd.func22, Tryd.ntmps22
  go_wp2_with fail
  go_loop [1] (fun i => ∃ k : Nat, k ≤ s.size ∧ i = .int .i64 k ∧ Hid (at0 + skipL false (rest s at0) = k + skipL false (rest s k))) (fun i => s.size - (intOf i).toNat)
  case atStart => exact ⟨at0, ha, rfl, rfl⟩
  case round =>
    obtain ⟨k, hk, rfl, hr⟩ := hrel
    have hle := runL_rest_le nlB s k
    go_wp2_with (go_at_call 24; refine (while_notnl s k _ hs hk).mono ?_; rintro e w' ⟨rfl, rfl⟩)
    · have hlt : k < s.size := by assumption
      have hx : bt s k = 32 := by assumption
      have := skipL_blank s k hlt (by rw [hx]; rfl)
      go_round
      case rel => exact ⟨k + 1, by omega, by go_num, by have := hr.out; show _ = _; omega⟩
      case measure => simp [intOf]; omega
    · have hlt : k < s.size := by assumption
      have hx : bt s k = 9 := by assumption
      have := skipL_blank s k hlt (by rw [hx]; rfl)
      go_round
      case rel => exact ⟨k + 1, by omega, by go_num, by have := hr.out; show _ = _; omega⟩
      case measure => simp [intOf]; omega
    · have hlt : k < s.size := by assumption
      have hx : bt s k = 10 := by assumption
      have := skipL_blank s k hlt (by rw [hx]; rfl)
      go_round
      case rel => exact ⟨k + 1, by omega, by go_num, by have := hr.out; show _ = _; omega⟩
      case measure => simp [intOf]; omega
    · have hlt : k < s.size := by assumption
      have hx : (bt s k == 13) = true := by assumption
      have hx' : bt s k = 13 := by simpa using hx
      have := skipL_blank s k hlt (by rw [hx']; rfl)
      go_round
      case rel => exact ⟨k + 1, by omega, by go_num, by have := hr.out; show _ = _; omega⟩
      case measure => simp [intOf]; omega
    · have hlt : k < s.size := by assumption
      have hx : (bt s k == 35) = true := by assumption
      have hx' : bt s k = 35 := by simpa using hx
      have h1 := skipL_hash s k hlt hx'
      have h2 := runnl_pos s k hlt hx'
      go_round
      case rel => exact ⟨k + runL nlB (rest s k), by omega, by go_num, by have := hr.out; show _ = _; omega⟩
      case measure => simp [intOf]; omega
    · have hlt : k < s.size := by assumption
      have hx : (bt s k == 35) = false := by assumption
      have hx' : (bt s k == 13) = false := by assumption
      have h1 : ¬ bt s k = 32 := by assumption
      have h2 : ¬ bt s k = 9 := by assumption
      have h3 : ¬ bt s k = 10 := by assumption
      have h4 := skipL_miss s k hlt (by simp at hx'; simp [blkB, h1, h2, h3, hx']) (by simpa using hx)
      go_ret
      exact ⟨ret_int (by have := hr.out; omega), rfl⟩
    · go_ret
      exact ⟨ret_int (by have := skipL_end s k (by omega); have := hr.out; omega), rfl⟩

end Go.Proofs.YtkmchnggcjmchaaDoor
