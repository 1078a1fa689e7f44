/- Contracts of small functions of package token: classes of bytes, 'while', 'skip'. -/
import Derived.Test.YtkmchnggcjmchaaDoorProg
import Derived.Test.YtkmchnggcjmchaaDoorTkSpec
namespace Go.Proofs.YtkmchnggcjmchaaDoor
open Go.RowKit Go.PlainAid
set_option linter.unusedVariables false
set_option maxHeartbeats 400000

theorem letter_any (c : Int) (w : World) (h0 : 0 ≤ c) (h1 : c ≤ 255) :
    Calls Tryd.prog 23 #[.int .u8 c] w fun e w' => e = .returned (.bool (letB c)) ∧ w = w' := by
  unfold letB
  go_enter Tryd.func23, Tryd.ntmps23
  go_wp2
  all_goals
    go_ret
    exact ⟨ret_bool (by simp; omega), rfl⟩

theorem digit_any (c : Int) (w : World) (h0 : 0 ≤ c) (h1 : c ≤ 255) :
    Calls Tryd.prog 26 #[.int .u8 c] w fun e w' => e = .returned (.bool (digB c)) ∧ w = w' := by
  unfold digB
  go_enter Tryd.func26, Tryd.ntmps26
  go_wp2
  all_goals
    go_ret
    exact ⟨ret_bool (by simp; omega), rfl⟩

theorem inner_any (c : Int) (w : World) (h0 : 0 ≤ c) (h1 : c ≤ 255) :
    Calls Tryd.prog 25 #[.int .u8 c] w fun e w' => e = .returned (.bool (innB c)) ∧ w = w' := by
  go_enter Tryd.func25, Tryd.ntmps25
  go_wp2_with (first
    | (go_at_call 23; refine (letter_any c _ h0 h1).mono ?_; rintro e w' ⟨rfl, rfl⟩)
    | (go_at_call 26; refine (digit_any c _ h0 h1).mono ?_; rintro e w' ⟨rfl, rfl⟩))
  all_goals
    go_ret
    refine ⟨ret_bool ?_, rfl⟩
    unfold innB
    simp_all <;> (rw [Bool.eq_iff_iff]; simp)

theorem notnl_any (c : Int) (w : World) (h0 : 0 ≤ c) (h1 : c ≤ 255) :
    Calls Tryd.prog 53 #[.int .u8 c] w fun e w' => e = .returned (.bool (nlB c)) ∧ w = w' := by
  go_enter Tryd.func53, Tryd.ntmps53
  go_wp2
  all_goals
    go_ret
    refine ⟨ret_bool ?_, rfl⟩
    unfold nlB
    rw [Bool.eq_iff_iff]; simp

theorem while_inner (s : ByteArray) (at0 : Nat) (w : World) (hs : s.size ≤ 4611686018427387904) (ha : at0 ≤ s.size) :
    Calls Tryd.prog 24 #[.string s, .int .i64 at0, .func (.func 25) #[] #[]] w fun e w' => e = .returned (.int .i64 ↑(at0 + runL innB (rest s at0))) ∧ w = w' := by
  have hb := get_bt s
  go_enter Tryd.func24, Tryd.ntmps24
  go_wp2_with fail
  go_loop [1] (fun i => ∃ k : Nat, k ≤ s.size ∧ i = .int .i64 k ∧ Hid (at0 + runL innB (rest s at0) = k + runL innB (rest s k))) (fun i => s.size - (intOf i).toNat)
  case atStart => exact ⟨at0, ha, rfl, rfl⟩
  case round =>
    obtain ⟨k, hk, rfl, hr⟩ := hrel
    go_wp2_with (go_at_call 25; refine (inner_any (bt s k) _ (bt_nonneg s k) (bt_le s k)).mono ?_; rintro e w' ⟨rfl, rfl⟩)
    · have hlt : k < s.size := by assumption
      have hp : innB (bt s k) = true := by assumption
      go_round
      case rel => exact ⟨k + 1, by omega, by go_num, by have := runL_hit innB s k hlt hp; have := hr.out; show _ = _; omega⟩
      case measure => simp [intOf]; omega
    · have hlt : k < s.size := by assumption
      have hp : innB (bt s k) = false := by assumption
      go_ret
      exact ⟨ret_int (by have := runL_miss innB s k hlt hp; have := hr.out; omega), rfl⟩
    · go_ret
      exact ⟨ret_int (by have := runL_end innB s k (by omega); have := hr.out; omega), rfl⟩

theorem while_digit (s : ByteArray) (at0 : Nat) (w : World) (hs : s.size ≤ 4611686018427387904) (ha : at0 ≤ s.size) :
    Calls Tryd.prog 24 #[.string s, .int .i64 at0, .func (.func 26) #[] #[]] w fun e w' => e = .returned (.int .i64 ↑(at0 + runL digB (rest s at0))) ∧ w = w' := by
  have hb := get_bt s
  go_enter Tryd.func24, Tryd.ntmps24
  go_wp2_with fail
  go_loop [1] (fun i => ∃ k : Nat, k ≤ s.size ∧ i = .int .i64 k ∧ Hid (at0 + runL digB (rest s at0) = k + runL digB (rest s k))) (fun i => s.size - (intOf i).toNat)
  case atStart => exact ⟨at0, ha, rfl, rfl⟩
  case round =>
    obtain ⟨k, hk, rfl, hr⟩ := hrel
    go_wp2_with (go_at_call 26; refine (digit_any (bt s k) _ (bt_nonneg s k) (bt_le s k)).mono ?_; rintro e w' ⟨rfl, rfl⟩)
    · have hlt : k < s.size := by assumption
      have hp : digB (bt s k) = true := by assumption
      go_round
      case rel => exact ⟨k + 1, by omega, by go_num, by have := runL_hit digB s k hlt hp; have := hr.out; show _ = _; omega⟩
      case measure => simp [intOf]; omega
    · have hlt : k < s.size := by assumption
      have hp : digB (bt s k) = false := by assumption
      go_ret
      exact ⟨ret_int (by have := runL_miss digB s k hlt hp; have := hr.out; omega), rfl⟩
    · go_ret
      exact ⟨ret_int (by have := runL_end digB s k (by omega); have := hr.out; omega), rfl⟩

theorem while_notnl (s : ByteArray) (at0 : Nat) (w : World) (hs : s.size ≤ 4611686018427387904) (ha : at0 ≤ s.size) :
    Calls Tryd.prog 24 #[.string s, .int .i64 at0, .func (.func 53) #[] #[]] w fun e w' => e = .returned (.int .i64 ↑(at0 + runL nlB (rest s at0))) ∧ w = w' := by
  have hb := get_bt s
  go_enter Tryd.func24, Tryd.ntmps24
  go_wp2_with fail
  go_loop [1] (fun i => ∃ k : Nat, k ≤ s.size ∧ i = .int .i64 k ∧ Hid (at0 + runL nlB (rest s at0) = k + runL nlB (rest s k))) (fun i => s.size - (intOf i).toNat)
  case atStart => exact ⟨at0, ha, rfl, rfl⟩
  case round =>
    obtain ⟨k, hk, rfl, hr⟩ := hrel
    go_wp2_with (go_at_call 53; refine (notnl_any (bt s k) _ (bt_nonneg s k) (bt_le s k)).mono ?_; rintro e w' ⟨rfl, rfl⟩)
    · have hlt : k < s.size := by assumption
      have hp : nlB (bt s k) = true := by assumption
      go_round
      case rel => exact ⟨k + 1, by omega, by go_num, by have := runL_hit nlB s k hlt hp; have := hr.out; show _ = _; omega⟩
      case measure => simp [intOf]; omega
    · have hlt : k < s.size := by assumption
      have hp : nlB (bt s k) = false := by assumption
      go_ret
      exact ⟨ret_int (by have := runL_miss nlB s k hlt hp; have := hr.out; omega), rfl⟩
    · go_ret
      exact ⟨ret_int (by have := runL_end nlB s k (by omega); have := hr.out; omega), rfl⟩

end Go.Proofs.YtkmchnggcjmchaaDoor
