/- Contracts: token.number. -/
import Derived.Test.YtkmchnggcjmchaaDoorTkB
import Derived.Test.YtkmchnggcjmchaaDoorMem
import Derived.BigGuardPart
import Derived.WalkSpells
import Derived.WalkLawsBesides
namespace Go.Proofs.YtkmchnggcjmchaaDoor
open Go.RowKit Go.PlainAid
set_option linter.unusedVariables false
set_option maxHeartbeats 400000

set_option maxRecDepth 100000 in
theorem number_ok (s : ByteArray) (at0 m : Nat) (w : World) (hs : s.size ≤ 4611686018427387904) (ha : at0 + m ≤ s.size) (h1 : 1 ≤ m)
    (hm : Hid (runL digB (rest s at0) = m)) (h6 : m ≤ 6) (hz : ((m : Int) ≤ 1) ∨ (bt s at0 == 48) = false) (hend : s.size ≤ at0 + m ∨ (at0 + m < s.size ∧ Hid (letB (bt s (at0 + m)) = false) ∧ (bt s (at0 + m) == 95) = false)) :
    Calls Tryd.prog 27 #[.string s, .int .i64 at0] w fun e w' => e = .returned (.tuple #[.agg #[.int .u8 2, .string (s.extract at0 (at0 + m)), .int .i64 (numV ((rest s at0).take m)), .int .i64 at0], .bool true]) ∧ Below w.heap.size w w' := by
  have hb := get_bt s
  have hwh : Hid (∀ w, Calls Tryd.prog 24 #[.string s, .int .i64 at0, .func (.func 26) #[] #[]] w fun e w' => e = .returned (.int .i64 ↑(at0 + m)) ∧ w = w') := by
    intro w; have := while_digit s at0 w hs (by omega); rw [hm.out] at this; exact this
  have hdig : Hid (∀ j, j < m → digB (bt s (at0 + j)) = true) := fun j hj => runL_all digB s s.size at0 j (by omega) (by rw [hm.out]; exact hj)
  clear hm
  obtain ⟨cp, C, mk, hcv, hcp, hC⟩ := conv_bytes (P := Tryd.prog) 9 73 5 Tryd.underlying9 Tryd.underlying73 Tryd.underlying5 (w.alloc (.cells #[.int .u8 0, .string ⟨#[]⟩, .int .i64 0, .int .i64 0] 30)) (s.extract at0 (at0 + m))
  have hsz : (s.extract at0 (at0 + m)).size = m := by simp; omega
  have hhs : (w.alloc (.cells #[.int .u8 0, .string ⟨#[]⟩, .int .i64 0, .int .i64 0] 30)).heap.size = w.heap.size + 1 := by simp
  rw [hsz] at hcv hcp hC
  rw [hhs] at hcv hC
  have HC : Hid (∀ j, j < m → ((w.alloc (.cells #[.int .u8 0, .string ⟨#[]⟩, .int .i64 0, .int .i64 0] 30)).alloc (.cells C 5 mk)).cell? ⟨w.heap.size + 1, j, none⟩ = some (.int .u8 (bt s (at0 + j)))) := by
    intro j hj; rw [hC j hj, bt_ext s at0 _ j (by omega) ha]
  clear hC hsz hhs
  have hbd : Hid (∀ j, j ≤ m → numV ((rest s at0).take j) < 1000000) := fun j hj => Nat.lt_of_lt_of_le (numV_bd s at0 m ha hdig.out j hj) (by have : 10 ^ j ≤ 10 ^ 6 := Nat.pow_le_pow_right (by omega) (by omega); omega)
  rcases hz with hz | hz <;> rcases hend with he | ⟨he, hl, h95⟩
  all_goals
    go_enter Tryd.func27, Tryd.ntmps27
    go_wp2_with (first
        | (go_at_call 24; refine (hwh.out _).mono ?_; rintro e w' ⟨rfl, rfl⟩)
        | (go_at_call 23; first | (exfalso; omega) | (refine (letter_any _ _ (bt_nonneg _ _) (bt_le _ _)).mono ?_; rintro e w' ⟨rfl, rfl⟩; rw [hl.out])))
    all_goals first | (exfalso; omega) | skip
    all_goals
      go_loop [7, 54] (fun n i => ∃ j : Nat, j ≤ m ∧ i = .int .i64 j ∧ n = .int .i64 (numV ((rest s at0).take j))) (fun _ i => m - (intOf i).toNat)
      case atStart => exact ⟨0, by omega, rfl, rfl⟩
      case round =>
        obtain ⟨j, hj, rfl, rfl⟩ := hrel
        by_cases hjm : j < m
        · have hcj := HC.out j hjm
          have hd := dig_of (hdig.out j hjm)
          have hsn := Lib.hid (numV_snoc s at0 j (by omega) (hdig.out j hjm))
          have hb1 := hbd.out j hj
          go_wp2_with fail
          go_round
          case rel => exact ⟨j + 1, by omega, by go_num, by rw [hsn.out]⟩
          case measure => simp [intOf]; omega
        · have hjm' : j = m := by omega
          subst hjm'
          go_wp2_with fail
          go_returns
          exact ⟨rfl, by go_grown⟩

end Go.Proofs.YtkmchnggcjmchaaDoor
