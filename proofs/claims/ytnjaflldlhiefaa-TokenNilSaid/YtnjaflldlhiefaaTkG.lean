/- Contracts of the reference's small functions: letter, digit, blank, skip, number, symbol. -/
import Derived.Test.YtnjaflldlhiefaaTkSpec
import Derived.Test.YtnjaflldlhiefaaMem
import Derived.Test.YtnjaflldlhiefaaProg
import Derived.BigGuardPart
import Derived.WalkSpells
import Derived.WalkLawsBesides
namespace Go.Proofs.Ytnjaflldlhiefaa
open Go.RowKit Go.PlainAid
set_option linter.unusedVariables false
set_option maxHeartbeats 400000

theorem rletter_any (c : Int) (w : World) (h0 : 0 ≤ c) (h1 : c ≤ 255) :
    Calls Try.prog 47 #[.int .u8 c] w fun e w' => e = .returned (.bool (letB c)) ∧ w = w' := by
  unfold letB
  go_enter Try.func47, Try.ntmps47
  go_wp2
  all_goals
    go_ret
    exact ⟨ret_bool (by simp; omega), rfl⟩

theorem rdigit_any (c : Int) (w : World) (h0 : 0 ≤ c) (h1 : c ≤ 255) :
    Calls Try.prog 48 #[.int .u8 c] w fun e w' => e = .returned (.bool (digB c)) ∧ w = w' := by
  unfold digB
  go_enter Try.func48, Try.ntmps48
  go_wp2
  all_goals
    go_ret
    exact ⟨ret_bool (by simp; omega), rfl⟩

theorem rblank_any (c : Int) (w : World) (h0 : 0 ≤ c) (h1 : c ≤ 255) :
    Calls Try.prog 72 #[.int .u8 c] w fun e w' => e = .returned (.bool (blkB c)) ∧ w = w' := by
  go_enter Try.func72, Try.ntmps72
  go_wp2
  all_goals
    go_ret
    refine ⟨ret_bool ?_, rfl⟩
    unfold blkB
    simp_all <;> (rw [Bool.eq_iff_iff]; simp)

theorem rskip_any (s : ByteArray) (at0 : Nat) (w : World) (hs : s.size ≤ 4611686018427387904) (ha : at0 ≤ s.size) :
    Calls Try.prog 46 #[.string s, .int .i64 at0] w fun e w' => e = .returned (.int .i64 ↑(at0 + skipL false (rest s at0))) ∧ w = w' := by
  have hb := get_bt s
  go_enter Try.func46, Try.ntmps46
  go_wp2_with fail
  go_loop [1] (fun i => ∃ k : Nat, k ≤ s.size ∧ i = .int .i64 k ∧ Hid (at0 + skipL false (rest s at0) = k + skipL false (rest s k))) (fun i => s.size - (intOf i).toNat)
  case atStart => exact ⟨at0, ha, rfl, rfl⟩
  case round =>
    obtain ⟨k, hk, rfl, hr⟩ := hrel
    by_cases hlt : k < s.size
    · by_cases h35 : bt s k = 35
      · have h35' : (bt s k == 35) = true := by simpa using h35
        have HH := Lib.hid (skipL_hash s k hlt h35)
        have hpos := runnl_pos s k hlt h35
        clear h35
        go_wp2_with fail
        go_loop [1] (fun i => ∃ k1 : Nat, k1 ≤ s.size ∧ i = .int .i64 k1 ∧ Hid (k + runL nlB (rest s k) = k1 + runL nlB (rest s k1))) (fun i => s.size - (intOf i).toNat)
        case atStart => exact ⟨k, by omega, rfl, rfl⟩
        case round =>
          obtain ⟨k1, hk1, rfl, hr1⟩ := hrel
          by_cases hlt1 : k1 < s.size
          · by_cases h10 : bt s k1 = 10
            · have h10' : (bt s k1 == 10) = true := by simpa using h10
              have h10'' : (bt s k1 != 10) = false := by simpa using h10
              have hz := runL_miss nlB s k1 hlt1 (by rw [h10]; rfl)
              have e1 : k1 = k + runL nlB (rest s k) := by have := hr1.out; omega
              have e2 := HH.out
              have e3 := hr.out
              rw [← e1] at e2
              have H3 : Hid (at0 + skipL false (rest s at0) = k1 + skipL false (rest s k1)) := by show _ = _; omega
              have hgt : k < k1 := by omega
              clear h10 e1 e2 e3 hz
              go_wp2_with fail
              go_round
              case rel => exact ⟨k1, hk1, rfl, H3⟩
              case measure => simp [intOf]; omega
            · have h10' : (bt s k1 == 10) = false := by simpa using h10
              have h10'' : (bt s k1 != 10) = true := by simpa using h10
              have hz := Lib.hid (runL_hit nlB s k1 hlt1 (by simpa [nlB] using h10))
              clear h10
              go_wp2_with fail
              go_round
              case rel => exact ⟨k1 + 1, by omega, by go_num, by have := hr1.out; have := hz.out; show _ = _; omega⟩
              case measure => simp [intOf]; omega
          · have hz := runL_end nlB s k1 (by omega)
            have e1 : k1 = k + runL nlB (rest s k) := by have := hr1.out; omega
            have e2 := HH.out
            have e3 := hr.out
            rw [← e1] at e2
            have H3 : Hid (at0 + skipL false (rest s at0) = k1 + skipL false (rest s k1)) := by show _ = _; omega
            have hgt : k < k1 := by omega
            clear e1 e2 e3 hz
            go_wp2_with fail
            go_round
            case rel => exact ⟨k1, hk1, rfl, H3⟩
            case measure => simp [intOf]; omega
      · have h35' : (bt s k == 35) = false := by simpa using h35
        cases hbk : blkB (bt s k)
        · have hz := skipL_miss s k hlt hbk h35
          have HB := Lib.hid hbk
          clear h35 hbk
          go_wp2_with (go_at_call 72; refine (rblank_any _ _ (bt_nonneg _ _) (bt_le _ _)).mono ?_; rintro e w' ⟨rfl, rfl⟩; rw [HB.out])
          go_ret
          exact ⟨ret_int (by have := hr.out; omega), rfl⟩
        · have hz := Lib.hid (skipL_blank s k hlt hbk)
          have HB := Lib.hid hbk
          clear h35 hbk
          go_wp2_with (go_at_call 72; refine (rblank_any _ _ (bt_nonneg _ _) (bt_le _ _)).mono ?_; rintro e w' ⟨rfl, rfl⟩; rw [HB.out])
          go_round
          case rel => exact ⟨k + 1, by omega, by go_num, by have := hr.out; have := hz.out; show _ = _; omega⟩
          case measure => simp [intOf]; omega
    · have hz := skipL_end s k (by omega)
      go_wp2_with fail
      go_ret
      exact ⟨ret_int (by have := hr.out; omega), rfl⟩

/-- The loop of 'number', then what follows: in each case of the tests. -/
def RNum (s : ByteArray) (at0 m : Nat) (v : Int) : Prop :=
    (v = at0 + m ∧ m ≤ 6 ∧ ((m : Int) ≤ 1 ∨ (bt s at0 == 48) = false) ∧ (s.size ≤ at0 + m ∨ (at0 + m < s.size ∧ Hid (letB (bt s (at0 + m)) = false) ∧ (bt s (at0 + m) == 95) = false))) ∨
    (v = 0 ∧ (7 ≤ m ∨ (2 ≤ m ∧ m ≤ 6 ∧ (bt s at0 == 48) = true) ∨ (m ≤ 6 ∧ (m ≤ 1 ∨ (bt s at0 == 48) = false) ∧ at0 + m < s.size ∧ (Hid (letB (bt s (at0 + m)) = true) ∨ (Hid (letB (bt s (at0 + m)) = false) ∧ (bt s (at0 + m) == 95) = true)))))

set_option maxRecDepth 100000 in
theorem rnumber_any (s : ByteArray) (at0 m : Nat) (v : Int) (w : World) (hs : s.size ≤ 4611686018427387904) (ha : at0 + m ≤ s.size) (h1 : 1 ≤ m)
    (hm : Hid (runL digB (rest s at0) = m)) (hv : RNum s at0 m v) :
    Calls Try.prog 49 #[.string s, .int .i64 at0] w fun e w' => e = .returned (.int .i64 v) ∧ w = w' := by
  have hb := get_bt s
  have hdig : Hid (∀ j, j < m → digB (bt s (at0 + j)) = true) := fun j hj => runL_all digB s s.size at0 j (by omega) (by rw [hm.out]; exact hj)
  have hstop : Hid (∀ j, j ≤ m → runL digB (rest s (at0 + j)) = m - j) := by
    intro j
    induction j with
    | zero => intro _; exact hm.out
    | succ j ih => intro hj; have h1 := ih (by omega); rw [runL_hit digB s (at0 + j) (by omega) (hdig.out j (by omega))] at h1; rw [← Nat.add_assoc]; omega
  go_enter Try.func49, Try.ntmps49
  go_wp2_with fail
  go_loop [5] (fun i => ∃ j : Nat, j ≤ m ∧ i = .int .i64 ↑(at0 + j)) (fun i => at0 + m - (intOf i).toNat)
  case atStart => exact ⟨0, by omega, rfl⟩
  case round =>
    obtain ⟨j, hj, rfl⟩ := hrel
    by_cases hjm : j < m
    · have HD := Lib.hid (hdig.out j hjm)
      go_wp2_with (go_at_call 48; refine (rdigit_any _ _ (bt_nonneg _ _) (bt_le _ _)).mono ?_; rintro e w' ⟨rfl, rfl⟩; rw [HD.out])
      go_round
      case rel => exact ⟨j + 1, by omega, by go_num⟩
      case measure => simp [intOf]; omega
    · obtain rfl : j = m := by omega
      have hno : at0 + j < s.size → Hid (digB (bt s (at0 + j)) = false) := fun hlt => by
        have h2 := hstop.out j (Nat.le_refl _)
        cases hd : digB (bt s (at0 + j))
        · rfl
        · rw [runL_hit digB s (at0 + j) hlt hd] at h2; omega
      unfold RNum at hv
      by_cases hlt : at0 + j < s.size
      · have HD := hno hlt
        clear hno hjm
        rcases hv with ⟨rfl, h6, hz | hz, he | ⟨he, hl, h95⟩⟩ | ⟨rfl, h7 | ⟨h2, h6, hz⟩ | ⟨h6, hz | hz, he, hl | ⟨hl, h95⟩⟩⟩
        all_goals first | (exfalso; omega) | skip
        all_goals
          go_wp2_with (first
            | (go_at_call 48; refine (rdigit_any _ _ (bt_nonneg _ _) (bt_le _ _)).mono ?_; rintro e w' ⟨rfl, rfl⟩; rw [HD.out])
            | (go_at_call 47; refine (rletter_any _ _ (bt_nonneg _ _) (bt_le _ _)).mono ?_; rintro e w' ⟨rfl, rfl⟩; rw [hl.out]))
          all_goals first | (exfalso; omega) | (go_ret; exact ⟨ret_int (by omega), rfl⟩)
      · clear hno hjm
        rcases hv with ⟨rfl, h6, hz | hz, he | ⟨he, hl, h95⟩⟩ | ⟨rfl, h7 | ⟨h2, h6, hz⟩ | ⟨h6, hz | hz, he, hl | ⟨hl, h95⟩⟩⟩
        all_goals first | (exfalso; omega) | skip
        all_goals
          go_wp2_with fail
          all_goals first | (exfalso; omega) | (go_ret; exact ⟨ret_int (by omega), rfl⟩)

end Go.Proofs.Ytnjaflldlhiefaa
