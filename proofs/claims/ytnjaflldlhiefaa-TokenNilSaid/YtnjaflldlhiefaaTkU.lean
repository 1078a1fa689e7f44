/- Contract of the program's reader: Name. -/
import Derived.Test.YtnjaflldlhiefaaTkV
namespace Go.Proofs.Ytnjaflldlhiefaa
open Go.RowKit Go.PlainAid
set_option linter.unusedVariables false
set_option linter.unusedSimpArgs false
set_option maxHeartbeats 1000000

/-- Name: the error of the present token (0: it is a name). -/
def naC (t : Tok) : Nat := if t.kind = 1 ∧ kwB ⟨t.text.toArray⟩ = false then (if validB ⟨t.text.toArray⟩ = true then 0 else 9) else 8
def naP (ts : List Tok) (pos e : Nat) : Nat := if naC (pkF ts pos e) = 0 then pos + 1 else pos
def naO (ts : List Tok) (pos off e : Nat) : Nat := if naC (pkF ts pos e) = 0 then off else foF ts pos off e (naC (pkF ts pos e))
def naE (ts : List Tok) (pos e : Nat) : Nat := if naC (pkF ts pos e) = 0 then e else feF e (naC (pkF ts pos e))
def naV (t : Tok) : ByteArray := if naC t = 0 then ⟨t.text.toArray⟩ else ⟨#[]⟩

theorem naC_8 {t : Tok} (h : t.kind ≠ 1) : naC t = 8 := by unfold naC; simp [h]
theorem naC_kw {t : Tok} (h : kwB ⟨t.text.toArray⟩ = true) : naC t = 8 := by unfold naC; simp [h]
theorem naC_9 {t : Tok} (h : t.kind = 1) (hk : kwB ⟨t.text.toArray⟩ = false) (hv : validB ⟨t.text.toArray⟩ = false) : naC t = 9 := by unfold naC; simp [h, hk, hv]
theorem naC_0 {t : Tok} (h : t.kind = 1) (hk : kwB ⟨t.text.toArray⟩ = false) (hv : validB ⟨t.text.toArray⟩ = true) : naC t = 0 := by unfold naC; simp [h, hk, hv]

theorem go_below1 {w w2 : World} (hb2 : Below w.heap.size w w2) (o : Obj) : Below w.heap.size w (w2.alloc o).drew :=
  below_drewN (hb2.alloc hb2.size o) 1
theorem go_below2 {w w2 w3 : World} {o : Obj} (hb2 : Below w.heap.size w w2) (hb3 : Below (w2.alloc o).drew.heap.size (w2.alloc o).drew w3) : Below w.heap.size w w3 :=
  (go_below1 hb2 o).trans (hb3.mono (by have := hb2.size; simp; omega))

set_option maxHeartbeats 2000000 in
theorem name_any (w : World) (g z : Nat) (ts : List Tok) (pos off e : Nat) (h : Rd tokV w g z ts pos off e) (hp : pos ≤ ts.length) :
    Calls Try.prog 26 #[.pointer (some ⟨g, 0, none⟩)] w fun en w' => en = .returned (.string (naV (pkF ts pos e))) ∧ w.grownBy w' (some g) ∧ Rd tokV w' g z ts (naP ts pos e) (naO ts pos off e) (naE ts pos e) := by
  have hpk := Lib.hid (fun w' (hb : Below w.heap.size w w') => peek_any w' g z ts pos off e (h.below hb) hp)
  have hfa := Lib.hid (fun c w' (hb : Below w.heap.size w w') => fail_any w' g z ts pos off e c (h.below hb) hp)
  have hH := Lib.hid h
  have hgz := h.lt
  have hlt := fun k => (pk_lt (ts := ts) (pos := pos) (e := e) k).1
  have hcap : ts.length ≤ 9223372036854775807 := by obtain ⟨_, cap, _, h1, h2, _⟩ := h; omega
  clear h
  unfold naV naP naO naE
  generalize pkF ts pos e = t at *
  unfold aggP at *
  by_cases hk : t.kind = 1
  · obtain ⟨kd, tx, nn, ps⟩ := t
    dsimp only at hk hlt hpk ⊢
    subst hk
    have hlt := hlt (by omega)
    have hw : IntKind.i64.wrap ((pos : Int) + 1) = (pos : Int) + 1 := IntWalk.i64_in _ (by omega)
    clear hcap hp
    cases hkw : kwB ⟨tx.toArray⟩
    · cases hv : validB ⟨tx.toArray⟩
      · rw [naC_9 rfl hkw hv]
        have HKW := Lib.hid hkw
        have HV := Lib.hid hv
        have hfa2 := Lib.hid (hfa.out 9)
        clear hfa hkw hv hlt
        simp only [if_neg (show ¬ (9 : Nat) = 0 by decide)]
        generalize foF ts pos off e 9 = o' at *
        generalize feF e 9 = e' at *
        generalize (⟨tx.toArray⟩ : ByteArray) = x at *
        go_enter Try.func26, Try.ntmps26
        go_wp2_with (go_at_call 29; refine (hpk.out _ (by go_grown)).mono ?_; rintro en w2 ⟨rfl, hb2⟩)
        go_region_held3 (fun w' => w'.cell? ⟨w2.heap.size, 0, none⟩ = some (.int .u8 1) ∧ w'.cell? ⟨w2.heap.size, 1, none⟩ = some (.string x) ∧ w2.heap.size < w'.heap.size ∧ Below w.heap.size w w') (first | exact ⟨by simp, by simp, by simp, go_below1 hb2 _⟩ | exact ⟨(hb3.cell (p := ⟨w2.heap.size, 0, none⟩) (by simp)).trans (by simp), (hb3.cell (p := ⟨w2.heap.size, 1, none⟩) (by simp)).trans (by simp), by have := hb3.size; simp at this; omega, go_below2 hb2 hb3⟩) (first | (go_at_call 24; refine (keywords_any _).mono ?_; rintro en w3 ⟨b, rfl, hb3, hbl, hbr, hcs⟩; replace hcs := Lib.hid hcs) | (go_at_call 23; refine (contains_kw _ _ _ hcs.out).mono ?_; rintro en w4 ⟨rfl, rfl⟩; rw [HKW.out]))
        rename_i hheld
        obtain ⟨q0, q1, hz3, hb4⟩ := hheld
        clear hcs hbl hbr
        go_wp2_with (go_at_call 22; refine (valid_any _ _).mono ?_; rintro en w5 ⟨rfl, hb5⟩; rw [HV.out]; have hb6 := hb4.trans (hb5.mono hb4.size))
        go_at_call 33
        refine (hfa2.out _ hb6).mono ?_
        rintro en w6 ⟨rfl, hg6, hr6⟩
        replace hg6 := Lib.hid hg6
        replace hr6 := Lib.hid hr6
        go_wp2_with fail
        go_returns
        exact ⟨rfl, gb_trans (gb_of_below hb6 _) hg6.out, hr6.out⟩
      · rw [naC_0 rfl hkw hv]
        have HKW := Lib.hid hkw
        have HV := Lib.hid hv
        clear hfa hkw hv hlt
        simp only [if_true]
        generalize (⟨tx.toArray⟩ : ByteArray) = x at *
        go_enter Try.func26, Try.ntmps26
        go_wp2_with (go_at_call 29; refine (hpk.out _ (by go_grown)).mono ?_; rintro en w2 ⟨rfl, hb2⟩)
        go_region_held3 (fun w' => w'.cell? ⟨w2.heap.size, 0, none⟩ = some (.int .u8 1) ∧ w'.cell? ⟨w2.heap.size, 1, none⟩ = some (.string x) ∧ w2.heap.size < w'.heap.size ∧ Below w.heap.size w w') (first | exact ⟨by simp, by simp, by simp, go_below1 hb2 _⟩ | exact ⟨(hb3.cell (p := ⟨w2.heap.size, 0, none⟩) (by simp)).trans (by simp), (hb3.cell (p := ⟨w2.heap.size, 1, none⟩) (by simp)).trans (by simp), by have := hb3.size; simp at this; omega, go_below2 hb2 hb3⟩) (first | (go_at_call 24; refine (keywords_any _).mono ?_; rintro en w3 ⟨b, rfl, hb3, hbl, hbr, hcs⟩; replace hcs := Lib.hid hcs) | (go_at_call 23; refine (contains_kw _ _ _ hcs.out).mono ?_; rintro en w4 ⟨rfl, rfl⟩; rw [HKW.out]))
        rename_i hheld
        obtain ⟨q0, q1, hz3, hb4⟩ := hheld
        clear hcs hbl hbr
        go_wp2_with (go_at_call 22; refine (valid_any _ _).mono ?_; rintro en w5 ⟨rfl, hb5⟩; rw [HV.out]; have hb6 := hb4.trans (hb5.mono hb4.size); have q5 := (hb5.cell (p := ⟨w2.heap.size, 1, none⟩) hz3).trans q1; have hz5 := Nat.lt_of_lt_of_le hz3 hb5.size; have hz6 := Nat.lt_of_lt_of_le hgz hb2.size; have l1 : (g = w2.heap.size) = False := eq_false (by omega); have l2 : (w2.heap.size = g) = False := eq_false (by omega); obtain ⟨ga, gcap, ⟨g0, g1, g2, g3, e0, e1, e2, e3, -⟩, -⟩ := hH.out.below hb6; clear g0 g2 g3 e0 e2 e3 q0 q1)
        go_returns
        refine ⟨rfl, ?_⟩
        apply hH.out.chain1 (p := pos + 1) (v := .int .i64 (↑pos + 1)) rfl
        · repeat (first | (with_reducible exact Below.refl _ _) | (with_reducible refine Below.alloc ?_ (by go_size) _) | (with_reducible refine Below.setCell ?_ (by go_size) _))
        · exact hb6
    · rw [naC_kw hkw]
      have HKW := Lib.hid hkw
      have hfa2 := Lib.hid (hfa.out 8)
      clear hfa hkw hlt
      simp only [if_neg (show ¬ (8 : Nat) = 0 by decide)]
      generalize foF ts pos off e 8 = o' at *
      generalize feF e 8 = e' at *
      generalize (⟨tx.toArray⟩ : ByteArray) = x at *
      go_enter Try.func26, Try.ntmps26
      go_wp2_with (go_at_call 29; refine (hpk.out _ (by go_grown)).mono ?_; rintro en w2 ⟨rfl, hb2⟩)
      go_region_held3 (fun w' => w'.cell? ⟨w2.heap.size, 0, none⟩ = some (.int .u8 1) ∧ w'.cell? ⟨w2.heap.size, 1, none⟩ = some (.string x) ∧ w2.heap.size < w'.heap.size ∧ Below w.heap.size w w') (first | exact ⟨by simp, by simp, by simp, go_below1 hb2 _⟩ | exact ⟨(hb3.cell (p := ⟨w2.heap.size, 0, none⟩) (by simp)).trans (by simp), (hb3.cell (p := ⟨w2.heap.size, 1, none⟩) (by simp)).trans (by simp), by have := hb3.size; simp at this; omega, go_below2 hb2 hb3⟩) (first | (go_at_call 24; refine (keywords_any _).mono ?_; rintro en w3 ⟨b, rfl, hb3, hbl, hbr, hcs⟩; replace hcs := Lib.hid hcs) | (go_at_call 23; refine (contains_kw _ _ _ hcs.out).mono ?_; rintro en w4 ⟨rfl, rfl⟩; rw [HKW.out]))
      rename_i hheld
      obtain ⟨q0, q1, hz3, hb4⟩ := hheld
      clear hcs hbl hbr
      go_wp2_with fail
      go_at_call 33
      refine (hfa2.out _ hb4).mono ?_
      rintro en w6 ⟨rfl, hg6, hr6⟩
      replace hg6 := Lib.hid hg6
      replace hr6 := Lib.hid hr6
      go_wp2_with fail
      go_returns
      exact ⟨rfl, gb_trans (gb_of_below hb4 _) hg6.out, hr6.out⟩
  · have k0 : ¬ (t.kind : Int) = 1 := by omega
    have k1 : ((t.kind : Int) != 1) = true := by simp; omega
    rw [naC_8 hk]
    have hfa2 := Lib.hid (hfa.out 8)
    clear hfa hlt hk
    simp only [if_neg (show ¬ (8 : Nat) = 0 by decide)]
    generalize foF ts pos off e 8 = o' at *
    generalize feF e 8 = e' at *
    go_enter Try.func26, Try.ntmps26
    go_wp2_with (go_at_call 29; refine (hpk.out _ (by go_grown)).mono ?_; rintro en w2 ⟨rfl, hb2⟩)
    go_quiet (fail)
    have hb4 : Below w.heap.size w ((w2.alloc (.cells #[.int .u8 t.kind, .string ⟨t.text.toArray⟩, .int .i64 t.n, .int .i64 t.pos] 36)).drewN nq) := below_drewN (hb2.alloc hb2.size _) _
    go_wp2_with fail
    go_at_call 33
    refine (hfa2.out _ hb4).mono ?_
    rintro en w6 ⟨rfl, hg6, hr6⟩
    replace hg6 := Lib.hid hg6
    replace hr6 := Lib.hid hr6
    go_wp2_with fail
    go_returns
    exact ⟨rfl, gb_trans (gb_of_below hb4 _) hg6.out, hr6.out⟩
end Go.Proofs.Ytnjaflldlhiefaa
