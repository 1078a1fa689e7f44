/- Contracts: the program's reader, where there is none. -/
import Derived.Test.YtnjaflldlhiefaaTkCa
import Derived.Test.YtnjaflldlhiefaaTkNr
import Derived.Outline
namespace Go.Proofs.Ytnjaflldlhiefaa
open Go.RowKit Go.PlainAid
set_option linter.unusedVariables false
set_option linter.unusedSimpArgs false
set_option maxHeartbeats 1000000

theorem nok_any (w : World) : Calls Try.prog 62 #[.pointer none] w fun en w' => en = .returned (.bool false) ∧ w = w' := by
  go_enter Try.func62, Try.ntmps62
  go_wp2_with fail
  go_ret
  exact ⟨rfl, rfl⟩
theorem npeek_any (w : World) : Calls Try.prog 29 #[.pointer none] w fun en w' => en = .returned (.agg #[.int .u8 0, .string ⟨#[]⟩, .int .i64 0, .int .i64 0]) ∧ Below w.heap.size w w' := by
  go_enter Try.func29, Try.ntmps29
  go_wp2_with (go_at_call 62; refine (nok_any _).mono ?_; rintro en w' ⟨rfl, rfl⟩)
  go_returns
  exact ⟨rfl, by go_grown⟩
theorem nfail_any (c : Int) (w : World) : Calls Try.prog 33 #[.pointer none, .int .i64 c] w fun en w' => en = .returned (.tuple #[]) ∧ w = w' := by
  go_enter Try.func33, Try.ntmps33
  go_wp2_with (go_at_call 62; refine (nok_any _).mono ?_; rintro en w' ⟨rfl, rfl⟩)
  go_end0
  exact ⟨rfl, rfl⟩
theorem nerr_any (w : World) : Calls Try.prog 27 #[.pointer none] w fun en w' => en = .returned (.tuple #[.int .i64 0, .int .i64 1]) ∧ w = w' := by
  go_enter Try.func27, Try.ntmps27
  go_wp2_with fail
  go_ret2
  exact ⟨rfl, rfl⟩
theorem nnext_any (w : World) : Calls Try.prog 34 #[.pointer none] w fun en w' => en = .returned (.agg #[.int .u8 0, .string ⟨#[]⟩, .int .i64 0, .int .i64 0]) ∧ Below w.heap.size w w' := by
  go_enter Try.func34, Try.ntmps34
  go_wp2_with fail
  go_at_call 29
  refine (npeek_any _).mono ?_
  rintro en w2 ⟨rfl, hb2⟩
  obtain ⟨c0, c1, c2, c3, f0, f1, f2, f3, hsz2⟩ := blk4 rfl hb2
  have l1 : w.heap.size < w2.heap.size := by omega
  have l2 : (w.heap.size = w2.heap.size) = False := eq_false (by omega)
  have hb3 : Below w.heap.size w w2 := ((Below.refl _ _).alloc (Nat.le_refl _) _).trans (hb2.mono (by simp))
  go_wp2_with fail
  refine bodyPost_ret (v := .agg #[.int .u8 0, .string ⟨#[]⟩, .int .i64 0, .int .i64 0]) (by simp [results, Try.results34, go_sem, c0, c1, c2, c3, l1, l2]) rfl ⟨rfl, ?_⟩
  go_grown
theorem nis_any (x : ByteArray) (w : World) : Calls Try.prog 35 #[.pointer none, .string x] w fun en w' => en = .returned (.bool false) ∧ Below w.heap.size w w' := by
  go_enter Try.func35, Try.ntmps35
  go_wp2_with (go_at_call 29; refine (npeek_any _).mono ?_; rintro en w2 ⟨rfl, hb2⟩)
  try go_quiet (fail)
  go_wp2_with fail
  go_returns
  exact ⟨rfl, by first | exact hb2.alloc hb2.size _ | exact below_drewN (hb2.alloc hb2.size _) _⟩
theorem naccept_any (x : ByteArray) (w : World) : Calls Try.prog 36 #[.pointer none, .string x] w fun en w' => en = .returned (.bool false) ∧ Below w.heap.size w w' := by
  go_enter Try.func36, Try.ntmps36
  go_wp2_with (go_at_call 35; refine (nis_any _ _).mono ?_; rintro en w2 ⟨rfl, hb2⟩)
  go_returns
  exact ⟨rfl, hb2⟩
theorem nexpect_any (x : ByteArray) (w : World) : Calls Try.prog 32 #[.pointer none, .string x] w fun en w' => en = .returned (.tuple #[]) ∧ Below w.heap.size w w' := by
  go_enter Try.func32, Try.ntmps32
  go_wp2_with (first | (go_at_call 36; refine (naccept_any _ _).mono ?_; rintro en w2 ⟨rfl, hb2⟩) | (go_at_call 33; refine (nfail_any _ _).mono ?_; rintro en w3 ⟨rfl, rfl⟩))
  go_end0
  exact ⟨rfl, hb2⟩
theorem nname_any (w : World) : Calls Try.prog 26 #[.pointer none] w fun en w' => en = .returned (.string ⟨#[]⟩) ∧ Below w.heap.size w w' := by
  go_enter Try.func26, Try.ntmps26
  go_wp2_with (go_at_call 29; refine (npeek_any _).mono ?_; rintro en w2 ⟨rfl, hb2⟩)
  go_quiet (fail)
  go_wp2_with (go_at_call 33; refine (nfail_any _ _).mono ?_; rintro en w3 ⟨rfl, rfl⟩)
  go_returns
  exact ⟨rfl, below_drewN (hb2.alloc hb2.size _) _⟩
theorem nnumber_any (lo hi : Int) (w : World) : Calls Try.prog 37 #[.pointer none, .int .i64 lo, .int .i64 hi] w fun en w' => en = .returned (.int .i64 0) ∧ Below w.heap.size w w' := by
  go_enter Try.func37, Try.ntmps37
  go_wp2_with (go_at_call 29; refine (npeek_any _).mono ?_; rintro en w2 ⟨rfl, hb2⟩)
  try go_quiet (fail)
  go_wp2_with (go_at_call 33; refine (nfail_any _ _).mono ?_; rintro en w3 ⟨rfl, rfl⟩)
  go_returns
  exact ⟨rfl, by first | exact hb2.alloc hb2.size _ | exact below_drewN (hb2.alloc hb2.size _) _⟩
theorem nreader_any (w : World) :
    Calls Try.prog 25 #[.slice none 0 0] w fun e w' => ∃ g, e = .returned (.pointer (some ⟨g, 0, none⟩)) ∧ Below w.heap.size w w' ∧ w.heap.size ≤ g ∧ g < w'.heap.size ∧ ∀ z, z < w.heap.size ∨ w'.heap.size ≤ z → Rd tokV w' g z [] 0 0 0 :=
  newreader_any (.slice none 0 0) 0 [] w ⟨rfl, none, 0, rfl, Nat.le_refl _, Nat.zero_le _, .inl rfl⟩ rfl (by omega)
end Go.Proofs.Ytnjaflldlhiefaa
