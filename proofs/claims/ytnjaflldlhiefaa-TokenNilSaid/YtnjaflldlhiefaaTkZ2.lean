/- Contracts of the reference's reader: Name, Number. -/
import Derived.Test.YtnjaflldlhiefaaTkZ
namespace Go.Proofs.Ytnjaflldlhiefaa
open Go.RowKit Go.PlainAid
set_option linter.unusedVariables false
set_option linter.unusedSimpArgs false
set_option maxHeartbeats 2000000

theorem pk_bad {ts : List Tok} {pos e : Nat} (h : e ≠ 0) : pkF ts pos e = tz := if_neg h
theorem fo_bad {ts : List Tok} {pos off e c : Nat} (h : e ≠ 0) : foF ts pos off e c = off := by unfold foF; rw [if_neg (fun k => h k.1)]
theorem fe_bad {e c : Nat} (h : e ≠ 0) : feF e c = e := if_neg h
theorem naC_tz : naC tz = 8 := naC_8 (by decide)

theorem rname_any (w : World) (g z : Nat) (ts : List Tok) (pos off e : Nat) (h : Rd tokW w g z ts pos off e) (hp : pos ≤ ts.length) :
    Calls Try.prog 59 #[.pointer (some ⟨g, 0, none⟩)] w fun en w' => en = .returned (.string (naV (pkF ts pos e))) ∧ w.grownBy w' (some g) ∧ Rd tokW w' g z ts (naP ts pos e) (naO ts pos off e) (naE ts pos e) := by
  have hpk := Lib.hid (fun w' (hb : Below w.heap.size w w') => rpeek_any w' g z ts pos off e (h.below hb) hp)
  have hfa := Lib.hid (fun c w' (hb : Below w.heap.size w w') => rfail_any w' g z ts pos off e c (h.below hb) hp)
  have hnx := Lib.hid (fun w' (hb : Below w.heap.size w w') => rnext_any w' g z ts pos off e (h.below hb) hp)
  have hH := Lib.hid h
  have hgz := h.lt
  clear h
  unfold naV naP naO naE
  by_cases he : e = 0
  · subst he
    unfold nxF at hnx
    generalize pkF ts pos 0 = t at *
    unfold aggR at *
    obtain ⟨kd, tx, nn, ps⟩ := t
    dsimp only at hpk hnx ⊢
    by_cases hk : kd = 1
    · subst hk
      rw [if_neg (by decide)] at hnx
      cases hkw : kwB ⟨tx.toArray⟩
      · cases hv : validB ⟨tx.toArray⟩
        · rw [naC_9 rfl hkw hv]
          have HKW := Lib.hid hkw
          have HV := Lib.hid hv
          have hfa2 := Lib.hid (hfa.out 9)
          clear hfa hkw hv hnx
          simp only [if_neg (show ¬ (9 : Nat) = 0 by decide)]
          generalize foF ts pos off 0 9 = o' at *
          generalize feF 0 9 = e' at *
          generalize (⟨tx.toArray⟩ : ByteArray) = x at *
          go_enter Try.func59, Try.ntmps59
          go_wp2_with (first | (go_at_call 30; refine (hpk.out _ (by go_grown)).mono ?_; rintro en w2 ⟨rfl, hb2⟩; obtain ⟨ga, gcap, ⟨g0, g1, g2, g3, e0, e1, e2, e3, -⟩, -⟩ := hH.out.below hb2; clear g0 g1 g2 e0 e1 e2 e3; have l1 := Nat.lt_of_lt_of_le hgz hb2.size; have l2 : (g = w2.heap.size) = False := eq_false (by omega); have hb4 := hb2.alloc hb2.size (.cells #[.int .i64 1, .string x, .int .i64 nn, .int .i64 ps] 38); have q1 : (w2.alloc (.cells #[.int .i64 1, .string x, .int .i64 nn, .int .i64 ps] 38)).cell? ⟨w2.heap.size, 1, none⟩ = some (.string x) := by simp) | (go_at_call 73; refine (rkeyword_any _ _).mono ?_; rintro en w3 ⟨rfl, hb3⟩; rw [HKW.out]; have hb5 := hb4.trans (hb3.mono hb4.size); have q3 := (hb3.cell (p := ⟨w2.heap.size, 1, none⟩) (by simp)).trans q1) | (go_at_call 74; refine (rvalid_any _ _).mono ?_; rintro en w5 ⟨rfl, hb6⟩; rw [HV.out]; have hb7 := hb5.trans (hb6.mono hb5.size)) | (go_at_call 61; refine (hfa2.out _ hb7).mono ?_; rintro en w6 ⟨rfl, hg6, hr6⟩; replace hg6 := Lib.hid hg6; replace hr6 := Lib.hid hr6))
          go_returns
          exact ⟨rfl, gb_trans (gb_of_below hb7 _) hg6.out, hr6.out⟩
        · rw [naC_0 rfl hkw hv]
          have HKW := Lib.hid hkw
          have HV := Lib.hid hv
          clear hfa hkw hv
          simp only [if_true]
          generalize (⟨tx.toArray⟩ : ByteArray) = x at *
          have hfd : ∀ v : World, (Instr.field 38 (.agg #[.int .i64 1, .string x, .int .i64 nn, .int .i64 ps]) 1).run Try.prog v = .ok (.string x) v := fun _ => by kernel_rfl
          go_enter Try.func59, Try.ntmps59
          go_wp2_with (first | (go_at_call 30; refine (hpk.out _ (by go_grown)).mono ?_; rintro en w2 ⟨rfl, hb2⟩; obtain ⟨ga, gcap, ⟨g0, g1, g2, g3, e0, e1, e2, e3, -⟩, -⟩ := hH.out.below hb2; clear g0 g1 g2 e0 e1 e2 e3; have l1 := Nat.lt_of_lt_of_le hgz hb2.size; have l2 : (g = w2.heap.size) = False := eq_false (by omega); have hb4 := hb2.alloc hb2.size (.cells #[.int .i64 1, .string x, .int .i64 nn, .int .i64 ps] 38); have q1 : (w2.alloc (.cells #[.int .i64 1, .string x, .int .i64 nn, .int .i64 ps] 38)).cell? ⟨w2.heap.size, 1, none⟩ = some (.string x) := by simp) | (go_at_call 73; refine (rkeyword_any _ _).mono ?_; rintro en w3 ⟨rfl, hb3⟩; rw [HKW.out]; have hb5 := hb4.trans (hb3.mono hb4.size); have q3 := (hb3.cell (p := ⟨w2.heap.size, 1, none⟩) (by simp)).trans q1) | (go_at_call 74; refine (rvalid_any _ _).mono ?_; rintro en w5 ⟨rfl, hb6⟩; rw [HV.out]; have hb7 := hb5.trans (hb6.mono hb5.size)) | (go_at_call 55; refine (hnx.out _ hb7).mono ?_; rintro en w6 ⟨rfl, hg6, hr6⟩; replace hg6 := Lib.hid hg6; replace hr6 := Lib.hid hr6))
          go_returns
          exact ⟨rfl, gb_trans (gb_of_below hb7 _) hg6.out, hr6.out⟩
      · rw [naC_kw hkw]
        have HKW := Lib.hid hkw
        have hfa2 := Lib.hid (hfa.out 8)
        clear hfa hkw hnx
        simp only [if_neg (show ¬ (8 : Nat) = 0 by decide)]
        generalize foF ts pos off 0 8 = o' at *
        generalize feF 0 8 = e' at *
        generalize (⟨tx.toArray⟩ : ByteArray) = x at *
        go_enter Try.func59, Try.ntmps59
        go_wp2_with (first | (go_at_call 30; refine (hpk.out _ (by go_grown)).mono ?_; rintro en w2 ⟨rfl, hb2⟩; obtain ⟨ga, gcap, ⟨g0, g1, g2, g3, e0, e1, e2, e3, -⟩, -⟩ := hH.out.below hb2; clear g0 g1 g2 e0 e1 e2 e3; have l1 := Nat.lt_of_lt_of_le hgz hb2.size; have l2 : (g = w2.heap.size) = False := eq_false (by omega); have hb4 := hb2.alloc hb2.size (.cells #[.int .i64 1, .string x, .int .i64 nn, .int .i64 ps] 38); have q1 : (w2.alloc (.cells #[.int .i64 1, .string x, .int .i64 nn, .int .i64 ps] 38)).cell? ⟨w2.heap.size, 1, none⟩ = some (.string x) := by simp) | (go_at_call 73; refine (rkeyword_any _ _).mono ?_; rintro en w3 ⟨rfl, hb3⟩; rw [HKW.out]; have hb5 := hb4.trans (hb3.mono hb4.size); have q3 := (hb3.cell (p := ⟨w2.heap.size, 1, none⟩) (by simp)).trans q1) | (go_at_call 61; refine (hfa2.out _ hb5).mono ?_; rintro en w6 ⟨rfl, hg6, hr6⟩; replace hg6 := Lib.hid hg6; replace hr6 := Lib.hid hr6))
        go_returns
        exact ⟨rfl, gb_trans (gb_of_below hb5 _) hg6.out, hr6.out⟩
    · have k0 : ¬ (kd : Int) = 1 := by omega
      have k1 : ((kd : Int) != 1) = true := by simp; omega
      rw [naC_8 hk]
      have hfa2 := Lib.hid (hfa.out 8)
      clear hfa hk hnx
      simp only [if_neg (show ¬ (8 : Nat) = 0 by decide)]
      generalize foF ts pos off 0 8 = o' at *
      generalize feF 0 8 = e' at *
      generalize (⟨tx.toArray⟩ : ByteArray) = x at *
      go_enter Try.func59, Try.ntmps59
      go_wp2_with (first | (go_at_call 30; refine (hpk.out _ (by go_grown)).mono ?_; rintro en w2 ⟨rfl, hb2⟩; obtain ⟨ga, gcap, ⟨g0, g1, g2, g3, e0, e1, e2, e3, -⟩, -⟩ := hH.out.below hb2; clear g0 g1 g2 e0 e1 e2 e3; have l1 := Nat.lt_of_lt_of_le hgz hb2.size; have l2 : (g = w2.heap.size) = False := eq_false (by omega); have hb4 := hb2.alloc hb2.size (.cells #[.int .i64 kd, .string x, .int .i64 nn, .int .i64 ps] 38); have q1 : (w2.alloc (.cells #[.int .i64 kd, .string x, .int .i64 nn, .int .i64 ps] 38)).cell? ⟨w2.heap.size, 1, none⟩ = some (.string x) := by simp) | (go_at_call 61; refine (hfa2.out _ hb4).mono ?_; rintro en w6 ⟨rfl, hg6, hr6⟩; replace hg6 := Lib.hid hg6; replace hr6 := Lib.hid hr6))
      go_returns
      exact ⟨rfl, gb_trans (gb_of_below hb4 _) hg6.out, hr6.out⟩
  · have he2 : ((e : Int) != 0) = true := by simpa using he
    rw [pk_bad he, naC_tz, fo_bad he, fe_bad he]
    rw [pk_bad he] at hpk
    simp only [if_neg (show ¬ (8 : Nat) = 0 by decide)]
    unfold aggR tz at hpk
    clear hfa hnx
    go_enter Try.func59, Try.ntmps59
    go_wp2_with (go_at_call 30; refine (hpk.out _ (by go_grown)).mono ?_; rintro en w2 ⟨rfl, hb2⟩; obtain ⟨ga, gcap, ⟨g0, g1, g2, g3, e0, e1, e2, e3, -⟩, -⟩ := hH.out.below hb2; clear g0 g1 g2 e0 e1 e2 e3; have l1 := Nat.lt_of_lt_of_le hgz hb2.size; have l2 : (g = w2.heap.size) = False := eq_false (by omega); have hb4 := hb2.alloc hb2.size (.cells #[.int .i64 0, .string ⟨#[]⟩, .int .i64 0, .int .i64 0] 38); have q1 : (w2.alloc (.cells #[.int .i64 0, .string ⟨#[]⟩, .int .i64 0, .int .i64 0] 38)).cell? ⟨w2.heap.size, 1, none⟩ = some (.string ⟨#[]⟩) := by simp)
    go_returns
    exact ⟨rfl, hH.out.chain0 hb4⟩

end Go.Proofs.Ytnjaflldlhiefaa
