/- Contracts: the reference's Number; the law's texts; the law's call. -/
import Derived.Test.YtnjaflldlhiefaaTkZ2
namespace Go.Proofs.Ytnjaflldlhiefaa
open Go.RowKit Go.PlainAid
set_option linter.unusedVariables false
set_option linter.unusedSimpArgs false
set_option maxHeartbeats 2000000

theorem nuB_tz (lo hi : Int) : nuB tz lo hi = false := by unfold nuB tz; simp
theorem nuC_tz : nuC tz = 8 := by unfold nuC tz; simp

theorem rnumber_call (w : World) (g z : Nat) (ts : List Tok) (pos off e : Nat) (lo hi : Int) (h : Rd tokW w g z ts pos off e) (hp : pos ≤ ts.length) :
    Calls Try.prog 60 #[.pointer (some ⟨g, 0, none⟩), .int .i64 lo, .int .i64 hi] w fun en w' => en = .returned (.int .i64 (nuV (pkF ts pos e) lo hi)) ∧ w.grownBy w' (some g) ∧ Rd tokW w' g z ts (nuP ts pos e lo hi) (nuO ts pos off e lo hi) (nuE ts pos e lo hi) := by
  have hpk := Lib.hid (fun w' (hb : Below w.heap.size w w') => rpeek_any w' g z ts pos off e (h.below hb) hp)
  have hfa := Lib.hid (fun c w' (hb : Below w.heap.size w w') => rfail_any w' g z ts pos off e c (h.below hb) hp)
  have hnx := Lib.hid (fun w' (hb : Below w.heap.size w w') => rnext_any w' g z ts pos off e (h.below hb) hp)
  have hH := Lib.hid h
  have hgz := h.lt
  clear h
  unfold nuV nuP nuO nuE
  by_cases he : e = 0
  · subst he
    unfold nxF at hnx
    generalize pkF ts pos 0 = t at *
    unfold aggR at *
    obtain ⟨kd, tx, nn, ps⟩ := t
    dsimp only at hpk hnx ⊢
    generalize hx : (⟨tx.toArray⟩ : ByteArray) = x at *
    by_cases hk : kd = 2
    · subst hk
      rw [if_neg (by decide)] at hnx
      have hc : nuC ⟨2, tx, nn, ps⟩ = 2 := if_pos rfl
      rw [hc]
      by_cases h1 : (nn : Int) < lo
      · have hB : nuB ⟨2, tx, nn, ps⟩ lo hi = false := by unfold nuB; simp [h1]
        rw [hB]
        simp only [Bool.false_eq_true, if_false]
        have hfa2 := Lib.hid (hfa.out 2)
        clear hfa hnx hc hB hx
        generalize foF ts pos off 0 2 = o' at *
        generalize feF 0 2 = e' at *
        go_enter Try.func60, Try.ntmps60
        go_wp2_with (first | (go_at_call 30; refine (hpk.out _ (by go_grown)).mono ?_; rintro en w2 ⟨rfl, hb2⟩; obtain ⟨ga, gcap, ⟨g0, g1, g2, g3, e0, e1, e2, e3, -⟩, -⟩ := hH.out.below hb2; clear g0 g1 g2 e0 e1 e2 e3; have l1 := Nat.lt_of_lt_of_le hgz hb2.size; have l2 : (g = w2.heap.size) = False := eq_false (by omega); have hb4 := hb2.alloc hb2.size (.cells #[.int .i64 2, .string x, .int .i64 nn, .int .i64 ps] 38); have q1 : (w2.alloc (.cells #[.int .i64 2, .string x, .int .i64 nn, .int .i64 ps] 38)).cell? ⟨w2.heap.size, 1, none⟩ = some (.string x) := by simp) | (go_at_call 61; refine (hfa2.out _ hb4).mono ?_; rintro en w6 ⟨rfl, hg6, hr6⟩; replace hg6 := Lib.hid hg6; replace hr6 := Lib.hid hr6))
        go_returns
        exact ⟨rfl, gb_trans (gb_of_below hb4 _) hg6.out, hr6.out⟩
      · by_cases h2 : hi < (nn : Int)
        · have hB : nuB ⟨2, tx, nn, ps⟩ lo hi = false := by unfold nuB; simp [h2]
          rw [hB]
          simp only [Bool.false_eq_true, if_false]
          have hfa2 := Lib.hid (hfa.out 2)
          clear hfa hnx hc hB hx
          generalize foF ts pos off 0 2 = o' at *
          generalize feF 0 2 = e' at *
          go_enter Try.func60, Try.ntmps60
          go_wp2_with (first | (go_at_call 30; refine (hpk.out _ (by go_grown)).mono ?_; rintro en w2 ⟨rfl, hb2⟩; obtain ⟨ga, gcap, ⟨g0, g1, g2, g3, e0, e1, e2, e3, -⟩, -⟩ := hH.out.below hb2; clear g0 g1 g2 e0 e1 e2 e3; have l1 := Nat.lt_of_lt_of_le hgz hb2.size; have l2 : (g = w2.heap.size) = False := eq_false (by omega); have hb4 := hb2.alloc hb2.size (.cells #[.int .i64 2, .string x, .int .i64 nn, .int .i64 ps] 38); have q1 : (w2.alloc (.cells #[.int .i64 2, .string x, .int .i64 nn, .int .i64 ps] 38)).cell? ⟨w2.heap.size, 1, none⟩ = some (.string x) := by simp) | (go_at_call 61; refine (hfa2.out _ hb4).mono ?_; rintro en w6 ⟨rfl, hg6, hr6⟩; replace hg6 := Lib.hid hg6; replace hr6 := Lib.hid hr6))
          go_returns
          exact ⟨rfl, gb_trans (gb_of_below hb4 _) hg6.out, hr6.out⟩
        · have hB : nuB ⟨2, tx, nn, ps⟩ lo hi = true := by unfold nuB; simp [h1, h2]
          rw [hB]
          simp only [if_true]
          clear hfa hc hB hx
          have d1 : decide ((nn : Int) < lo) = false := decide_eq_false h1
          have d2 : decide (hi < (nn : Int)) = false := decide_eq_false h2
          have hfd : ∀ v : World, (Instr.field 38 (.agg #[.int .i64 2, .string x, .int .i64 nn, .int .i64 ps]) 2).run Try.prog v = .ok (.int .i64 nn) v := fun _ => by kernel_rfl
          go_enter Try.func60, Try.ntmps60
          go_wp2_with (first | (go_at_call 30; refine (hpk.out _ (by go_grown)).mono ?_; rintro en w2 ⟨rfl, hb2⟩; obtain ⟨ga, gcap, ⟨g0, g1, g2, g3, e0, e1, e2, e3, -⟩, -⟩ := hH.out.below hb2; clear g0 g1 g2 e0 e1 e2 e3; have l1 := Nat.lt_of_lt_of_le hgz hb2.size; have l2 : (g = w2.heap.size) = False := eq_false (by omega); have hb4 := hb2.alloc hb2.size (.cells #[.int .i64 2, .string x, .int .i64 nn, .int .i64 ps] 38); have q1 : (w2.alloc (.cells #[.int .i64 2, .string x, .int .i64 nn, .int .i64 ps] 38)).cell? ⟨w2.heap.size, 1, none⟩ = some (.string x) := by simp) | (go_at_call 55; refine (hnx.out _ hb4).mono ?_; rintro en w6 ⟨rfl, hg6, hr6⟩; replace hg6 := Lib.hid hg6; replace hr6 := Lib.hid hr6))
          go_returns
          exact ⟨rfl, gb_trans (gb_of_below hb4 _) hg6.out, hr6.out⟩
    · have k0 : ¬ (kd : Int) = 2 := by omega
      have k1 : ((kd : Int) != 2) = true := by simp; omega
      have hc : nuC ⟨kd, tx, nn, ps⟩ = 8 := if_neg hk
      have hB : nuB ⟨kd, tx, nn, ps⟩ lo hi = false := by unfold nuB; simp [hk]
      rw [hB, hc]
      simp only [Bool.false_eq_true, if_false]
      have hfa2 := Lib.hid (hfa.out 8)
      clear hfa hk hnx hc hB hx
      generalize foF ts pos off 0 8 = o' at *
      generalize feF 0 8 = e' at *
      go_enter Try.func60, Try.ntmps60
      go_wp2_with (first | (go_at_call 30; refine (hpk.out _ (by go_grown)).mono ?_; rintro en w2 ⟨rfl, hb2⟩; obtain ⟨ga, gcap, ⟨g0, g1, g2, g3, e0, e1, e2, e3, -⟩, -⟩ := hH.out.below hb2; clear g0 g1 g2 e0 e1 e2 e3; have l1 := Nat.lt_of_lt_of_le hgz hb2.size; have l2 : (g = w2.heap.size) = False := eq_false (by omega); have hb4 := hb2.alloc hb2.size (.cells #[.int .i64 kd, .string x, .int .i64 nn, .int .i64 ps] 38); have q1 : (w2.alloc (.cells #[.int .i64 kd, .string x, .int .i64 nn, .int .i64 ps] 38)).cell? ⟨w2.heap.size, 1, none⟩ = some (.string x) := by simp) | (go_at_call 61; refine (hfa2.out _ hb4).mono ?_; rintro en w6 ⟨rfl, hg6, hr6⟩; replace hg6 := Lib.hid hg6; replace hr6 := Lib.hid hr6))
      go_returns
      exact ⟨rfl, gb_trans (gb_of_below hb4 _) hg6.out, hr6.out⟩
  · have he2 : ((e : Int) != 0) = true := by simpa using he
    rw [pk_bad he, nuB_tz, nuC_tz, fo_bad he, fe_bad he]
    rw [pk_bad he] at hpk
    simp only [Bool.false_eq_true, if_false]
    unfold aggR tz at hpk
    clear hfa hnx
    go_enter Try.func60, Try.ntmps60
    go_wp2_with (go_at_call 30; refine (hpk.out _ (by go_grown)).mono ?_; rintro en w2 ⟨rfl, hb2⟩; obtain ⟨ga, gcap, ⟨g0, g1, g2, g3, e0, e1, e2, e3, -⟩, -⟩ := hH.out.below hb2; clear g0 g1 g2 e0 e1 e2 e3; have l1 := Nat.lt_of_lt_of_le hgz hb2.size; have l2 : (g = w2.heap.size) = False := eq_false (by omega); have hb4 := hb2.alloc hb2.size (.cells #[.int .i64 0, .string ⟨#[]⟩, .int .i64 0, .int .i64 0] 38); have q1 : (w2.alloc (.cells #[.int .i64 0, .string ⟨#[]⟩, .int .i64 0, .int .i64 0] 38)).cell? ⟨w2.heap.size, 1, none⟩ = some (.string ⟨#[]⟩) := by simp)
    go_returns
    exact ⟨rfl, hH.out.chain0 hb4⟩

theorem texts_any (n : Int) (w : World) (h0 : 0 ≤ n) (h1 : n ≤ 255) :
    Calls Try.prog 31 #[.int .u8 n] w fun en w' => (∃ x, en = .returned (.string x)) ∧ Below w.heap.size w w' := by
  rcases (by omega : n % 8 = 0 ∨ n % 8 = 1 ∨ n % 8 = 2 ∨ n % 8 = 3 ∨ n % 8 = 4 ∨ n % 8 = 5 ∨ n % 8 = 6 ∨ n % 8 = 7) with h | h | h | h | h | h | h | h
  all_goals
    go_enter Try.func31, Try.ntmps31
    go_wp2_with fail
    go_returns
    exact ⟨⟨_, rfl⟩, by go_grown⟩

end Go.Proofs.Ytnjaflldlhiefaa
