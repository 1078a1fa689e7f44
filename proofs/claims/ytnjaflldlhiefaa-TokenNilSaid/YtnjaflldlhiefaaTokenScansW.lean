/- The walk of TokenScans: it returns true. -/
import Derived.Test.YtnjaflldlhiefaaTkL
import Derived.Test.YtnjaflldlhiefaaTkI
namespace Go.Proofs.Ytnjaflldlhiefaa
open Go.RowKit Go.PlainAid
set_option linter.unusedVariables false
set_option maxHeartbeats 1000000

theorem symL_kinds {l : List UInt8} : ∀ (f a : Nat) (l : List UInt8), ∀ t ∈ (scanA f a l).1, t.kind ≤ 3 := by
  intro f
  induction f with
  | zero => intro a l t ht; simp [scanA] at ht
  | succ f ih =>
    intro a l t ht
    match l with
    | [] => simp [scanA] at ht; subst ht; simp
    | c :: r =>
      simp only [scanA] at ht
      split at ht
      · simp at ht
      · rename_i kd tx n heq
        simp only [List.mem_cons] at ht
        rcases ht with rfl | ht
        · simp only [tokL] at heq
          split at heq
          · cases heq; simp
          · split at heq
            · split at heq
              · cases heq; simp
              · cases heq
            · simp only [Option.map_eq_some_iff] at heq
              obtain ⟨_, _, h⟩ := heq
              cases h; simp
        · exact ih _ _ _ ht
theorem scanP_kinds (l : List UInt8) : ∀ t ∈ (scanP l).1, t.kind ≤ 255 := by
  intro t ht
  unfold scanP at ht
  split at ht
  · simp at ht
  · split at ht
    · have := symL_kinds (l := l) _ _ _ t ht; omega
    · simp at ht

theorem tokenScans_walk (s : ByteArray) (w : World) (hs : s.size ≤ 9223372036854775807) :
    Calls Try.prog 3 #[.string s] w fun e w' => e = .returned (.bool true) ∧ Below w.heap.size w w' := by
  obtain ⟨s', hs'⟩ : ∃ s', s' = s.extract 0 400 := ⟨_, rfl⟩
  have hsz' : s'.size ≤ 400 := by rw [hs']; simp; omega
  have HS := Lib.hid hs'
  clear hs'
  go_enter Try.func3, Try.ntmps3
  go_wp2_with fail
  refine (awake_any _).mono ?_
  rintro e w1 ⟨rfl, hb1⟩
  go_wp2_with fail
  refine (cut_any s _ hs).mono ?_
  rintro e w2 ⟨rfl, rfl⟩
  rw [← HS.out]
  go_wp2_with fail
  refine (scan_any s' _ (by omega)).mono ?_
  rintro e w2 ⟨v, rfl, hb2, ho2⟩
  go_wp2_with fail
  refine (rscan_any s' _ (by omega)).mono ?_
  rintro e w3 ⟨u, rfl, hb3, ho3⟩
  go_wp2_with fail
  have h2 : Sl w3 v _ 4 _ := (Sl.owned ho2).below hb3
  refine (same_any v u _ _ _ _ _ h2 (Sl.owned ho3) rfl rfl (scanP_kinds _)).mono ?_
  rintro e w4 ⟨rfl, hb4⟩
  rw [decide_eq_true rfl]
  have hb12 := hb1.trans (hb2.mono hb1.size)
  have hb13 := hb12.trans (hb3.mono hb12.size)
  have hb14 := hb13.trans (hb4.mono hb13.size)
  go_wp2_with fail
  go_ret
  exact ⟨rfl, hb14⟩

end Go.Proofs.Ytnjaflldlhiefaa
