/- The walk of CubeMinus. -/
import Derived.Test.YtadomogbakcokaaGreatDoorCvQ
namespace Go.Proofs.YtadomogbakcokaaGreatDoor
open Go.RowKit Go.PlainAid
set_option linter.unusedVariables false
set_option linter.unusedSimpArgs false
set_option maxHeartbeats 4000000
set_option maxRecDepth 20000

theorem cubeMinus_walk (r t : Rx) (w : World) (hW : Wld w) (hr : RxOk r) (ht : RxOk t) :
    Calls Tryz.prog 8 #[.agg #[.int .u8 (r.1 : Nat), .int .u8 (r.2.1 : Nat), .bool r.2.2], .agg #[.int .u8 (t.1 : Nat), .int .u8 (t.2.1 : Nat), .bool t.2.2]] w fun e w' => e = .returned (.bool true) ∧ Below w.heap.size w w' := by
  obtain ⟨r1, r2, r3⟩ := r
  obtain ⟨t1, t2, t3⟩ := t
  have HW := Lib.hid hW
  have HRX := Lib.hid hr
  have HTX := Lib.hid ht
  have hc8 := fitM_ok (r1, r2, r3)
  have hk8 := fitM_ok (t1, t2, t3)
  obtain ⟨⟨m1, m2⟩, em⟩ : ∃ m, fitM (r1, r2, r3) = m := ⟨_, rfl⟩
  obtain ⟨⟨k1, k2⟩, ek⟩ : ∃ m, fitM (t1, t2, t3) = m := ⟨_, rfl⟩
  rw [em] at hc8
  rw [ek] at hk8
  have EF := Lib.hid em
  have EK := Lib.hid ek
  have HC8 := Lib.hid hc8
  have HC := Lib.hid hc8.ok
  have HK8 := Lib.hid hk8
  have HK := Lib.hid hk8.ok
  obtain ⟨X, eX⟩ : ∃ X, cuM (m1, m2) = X := ⟨_, rfl⟩
  obtain ⟨Y, eY⟩ : ∃ Y, cuM (k1, k2) = Y := ⟨_, rfl⟩
  have EX := Lib.hid eX
  have EY := Lib.hid eY
  obtain ⟨R, eR⟩ : ∃ R, minusM (m1, m2) (k1, k2) = R := ⟨_, rfl⟩
  have EN := Lib.hid eR
  have hmc := minus_cuM HC.out HK.out
  rw [eX, eY, eR] at hmc
  obtain ⟨D, eD⟩ : ∃ D, R.map cuM = D := ⟨_, rfl⟩
  rw [eD] at hmc
  have EM := Lib.hid hmc
  have EG : Hid (D = R.map cuM) := eD.symm
  clear hW hr ht em ek hc8 hk8 eX eY eR hmc eD
  dsimp only
  obtain ⟨W0, hW0⟩ : ∃ W0, W0 = (w.alloc (.cells #[.int .u8 (r1 : Nat), .int .u8 (r2 : Nat), .bool r3] 46)).alloc (.cells #[.int .u8 (t1 : Nat), .int .u8 (t2 : Nat), .bool t3] 46) := ⟨_, rfl⟩
  have HQ : Hid (∀ wr, Below W0.heap.size W0 wr → (wr.cell? ⟨w.heap.size, 0, none⟩ = some (.int .u8 (r1 : Nat)) ∧ wr.cell? ⟨w.heap.size, 1, none⟩ = some (.int .u8 (r2 : Nat)) ∧ wr.cell? ⟨w.heap.size, 2, none⟩ = some (.bool r3)) ∧ (wr.cell? ⟨w.heap.size + 1, 0, none⟩ = some (.int .u8 (t1 : Nat)) ∧ wr.cell? ⟨w.heap.size + 1, 1, none⟩ = some (.int .u8 (t2 : Nat)) ∧ wr.cell? ⟨w.heap.size + 1, 2, none⟩ = some (.bool t3))) := by
    rw [hW0]; exact fun wr hb => two_raw hb
  have hbW : Below w.heap.size w W0 := by rw [hW0]; exact ((Below.refl _ w).alloc (Nat.le_refl _) _).alloc (by simp) _
  have HBW := Lib.hid hbW
  clear hbW
  go_enter Tryz.func8, Tryz.ntmps8
  go_upto_region 3 with (go_at_call 15; rw [← hW0]; clear hW0; (with_reducible refine (awake_any _ (HW.out.below HBW.out)).mono ?_); rintro e w0 ⟨rfl, hb⟩; have HB0 := Lib.hid hb; clear hb)
  refine region_boxes 28 (.int .u64 0) _ [⟨4, 6, (.int .u64 (m1 : Nat)), (.int .u64 (m2 : Nat))⟩, ⟨5, 7, (.int .u64 (k1 : Nat)), (.int .u64 (k2 : Nat))⟩] [some 9, some 10, some 11, some 12, some 5, some 6, none, none]
    [fun v w => v = .agg #[.int .u8 (r1 : Nat), .int .u8 (r2 : Nat), .bool r3],
     fun v w => v = .agg #[.int .u64 (m1 : Nat), .int .u64 (m2 : Nat)],
     fun v w => v = .agg #[.int .u8 (t1 : Nat), .int .u8 (t2 : Nat), .bool t3],
     fun v w => v = .agg #[.int .u64 (k1 : Nat), .int .u64 (k2 : Nat)],
     fun _ _ => True,
     fun _ _ => True,
     fun _ _ => True,
     fun _ _ => True] (by kernel_rfl) (by kernel_rfl) rfl [undef, undef, undef, undef, undef, undef, undef, undef] (by simp only [putsO, List.set_cons_zero, List.set_cons_succ, Act.put, List.setIfInBounds_toArray]) rfl rfl (by simp) ?_ ?_ ⟨?_, ?_, ?_, ?_, ?_, ?_, ?_, ?_, trivial⟩ ?_
  · intro j D hj v w w' hb hD
    match j, hj with
    | 0, hj => cases hj; exact hD
    | 1, hj => cases hj; exact hD
    | 2, hj => cases hj; exact hD
    | 3, hj => cases hj; exact hD
    | 4, hj => cases hj; exact hD
    | 5, hj => cases hj; exact hD
    | 6, hj => cases hj; exact hD
    | 7, hj => cases hj; exact hD
    | j + 8, hj => cases hj
  · intro j D hj v w g k u hc hD
    match j, hj with
    | 0, hj => cases hj; exact hD
    | 1, hj => cases hj; exact hD
    | 2, hj => cases hj; exact hD
    | 3, hj => cases hj; exact hD
    | 4, hj => cases hj; exact hD
    | 5, hj => cases hj; exact hD
    | 6, hj => cases hj; exact hD
    | 7, hj => cases hj; exact hD
    | j + 8, hj => cases hj
  · refine ⟨.plain, [], by decide, by simp, fun vs w hl hR hd K hK => ?_⟩
    obtain ⟨v0, vs, rfl, hl1⟩ := len_succ hl
    obtain ⟨v1, vs, rfl, hl2⟩ := len_succ hl1
    obtain ⟨v2, vs, rfl, hl3⟩ := len_succ hl2
    obtain ⟨v3, vs, rfl, hl4⟩ := len_succ hl3
    obtain ⟨v4, vs, rfl, hl5⟩ := len_succ hl4
    obtain ⟨v5, vs, rfl, hl6⟩ := len_succ hl5
    obtain ⟨v6, vs, rfl, hl7⟩ := len_succ hl6
    obtain ⟨v7, vs, rfl, hl8⟩ := len_succ hl7
    obtain rfl := len_zero hl8
    clear hd hl hl1 hl2 hl3 hl4 hl5 hl6 hl7 hl8
    replace hK := hK.out
    simp only [putsO, List.set_cons_zero, List.set_cons_succ, Act.put, List.setIfInBounds_toArray] at hK ⊢
    have hK' : Shut _ := hK
    clear hK
    have q0 := (HQ.out _ (HB0.out.trans (hR.mono HB0.out.size))).1.1; have q1 := (HQ.out _ (HB0.out.trans (hR.mono HB0.out.size))).1.2.1; have q2 := (HQ.out _ (HB0.out.trans (hR.mono HB0.out.size))).1.2.2
    go_simp
    (try go_wp2_with fail)
    exact hK'.out _ _ (Below.refl _ _) (fun D hD => by cases hD; rfl)
  · refine ⟨.plain, [0], by decide, by simp, fun vs w hl hR hd K hK => ?_⟩
    obtain ⟨v0, vs, rfl, hl1⟩ := len_succ hl
    obtain ⟨v1, vs, rfl, hl2⟩ := len_succ hl1
    obtain ⟨v2, vs, rfl, hl3⟩ := len_succ hl2
    obtain ⟨v3, vs, rfl, hl4⟩ := len_succ hl3
    obtain ⟨v4, vs, rfl, hl5⟩ := len_succ hl4
    obtain ⟨v5, vs, rfl, hl6⟩ := len_succ hl5
    obtain ⟨v6, vs, rfl, hl7⟩ := len_succ hl6
    obtain ⟨v7, vs, rfl, hl8⟩ := len_succ hl7
    obtain rfl := len_zero hl8
    have dd := hd 0 (by simp) _ rfl; simp only [List.getD_cons_zero, List.getD_cons_succ] at dd; obtain rfl := dd
    clear hd hl hl1 hl2 hl3 hl4 hl5 hl6 hl7 hl8
    replace hK := hK.out
    simp only [putsO, List.set_cons_zero, List.set_cons_succ, Act.put, List.setIfInBounds_toArray] at hK ⊢
    have hK' : Shut _ := hK
    clear hK
    go_simp
    go_at_call 26; (with_reducible refine (rfit_c _ _ _ _ _ _ HRX.out EF).mono ?_); rintro e w2 ⟨rfl, hb⟩
    (try go_wp2_with fail)
    exact hK'.out _ _ (hb) (fun D hD => by cases hD; rfl)
  · refine ⟨.plain, [], by decide, by simp, fun vs w hl hR hd K hK => ?_⟩
    obtain ⟨v0, vs, rfl, hl1⟩ := len_succ hl
    obtain ⟨v1, vs, rfl, hl2⟩ := len_succ hl1
    obtain ⟨v2, vs, rfl, hl3⟩ := len_succ hl2
    obtain ⟨v3, vs, rfl, hl4⟩ := len_succ hl3
    obtain ⟨v4, vs, rfl, hl5⟩ := len_succ hl4
    obtain ⟨v5, vs, rfl, hl6⟩ := len_succ hl5
    obtain ⟨v6, vs, rfl, hl7⟩ := len_succ hl6
    obtain ⟨v7, vs, rfl, hl8⟩ := len_succ hl7
    obtain rfl := len_zero hl8
    clear hd hl hl1 hl2 hl3 hl4 hl5 hl6 hl7 hl8
    replace hK := hK.out
    simp only [putsO, List.set_cons_zero, List.set_cons_succ, Act.put, List.setIfInBounds_toArray] at hK ⊢
    have hK' : Shut _ := hK
    clear hK
    have q0 := (HQ.out _ (HB0.out.trans (hR.mono HB0.out.size))).2.1; have q1 := (HQ.out _ (HB0.out.trans (hR.mono HB0.out.size))).2.2.1; have q2 := (HQ.out _ (HB0.out.trans (hR.mono HB0.out.size))).2.2.2
    go_simp
    (try go_wp2_with fail)
    exact hK'.out _ _ (Below.refl _ _) (fun D hD => by cases hD; rfl)
  · refine ⟨.plain, [2], by decide, by simp, fun vs w hl hR hd K hK => ?_⟩
    obtain ⟨v0, vs, rfl, hl1⟩ := len_succ hl
    obtain ⟨v1, vs, rfl, hl2⟩ := len_succ hl1
    obtain ⟨v2, vs, rfl, hl3⟩ := len_succ hl2
    obtain ⟨v3, vs, rfl, hl4⟩ := len_succ hl3
    obtain ⟨v4, vs, rfl, hl5⟩ := len_succ hl4
    obtain ⟨v5, vs, rfl, hl6⟩ := len_succ hl5
    obtain ⟨v6, vs, rfl, hl7⟩ := len_succ hl6
    obtain ⟨v7, vs, rfl, hl8⟩ := len_succ hl7
    obtain rfl := len_zero hl8
    have dd := hd 2 (by simp) _ rfl; simp only [List.getD_cons_zero, List.getD_cons_succ] at dd; obtain rfl := dd
    clear hd hl hl1 hl2 hl3 hl4 hl5 hl6 hl7 hl8
    replace hK := hK.out
    simp only [putsO, List.set_cons_zero, List.set_cons_succ, Act.put, List.setIfInBounds_toArray] at hK ⊢
    have hK' : Shut _ := hK
    clear hK
    go_simp
    go_at_call 26; (with_reducible refine (rfit_c _ _ _ _ _ _ HTX.out EK).mono ?_); rintro e w2 ⟨rfl, hb⟩
    (try go_wp2_with fail)
    exact hK'.out _ _ (hb) (fun D hD => by cases hD; rfl)
  · refine ⟨.box ⟨4, 6, (.int .u64 (m1 : Nat)), (.int .u64 (m2 : Nat))⟩, [], by decide, by simp, rfl, by simp, (fun D hD => by cases hD; exact fun _ _ => trivial), fun vs w hl K hK => ?_⟩
    obtain ⟨v0, vs, rfl, hl1⟩ := len_succ hl
    obtain ⟨v1, vs, rfl, hl2⟩ := len_succ hl1
    obtain ⟨v2, vs, rfl, hl3⟩ := len_succ hl2
    obtain ⟨v3, vs, rfl, hl4⟩ := len_succ hl3
    obtain ⟨v4, vs, rfl, hl5⟩ := len_succ hl4
    obtain ⟨v5, vs, rfl, hl6⟩ := len_succ hl5
    obtain ⟨v6, vs, rfl, hl7⟩ := len_succ hl6
    obtain ⟨v7, vs, rfl, hl8⟩ := len_succ hl7
    obtain rfl := len_zero hl8
    clear hl hl1 hl2 hl3 hl4 hl5 hl6 hl7 hl8
    replace hK := hK.out
    simp only [putsO, List.set_cons_zero, List.set_cons_succ, Act.put, List.setIfInBounds_toArray] at hK ⊢
    have hK' : Shut _ := hK
    clear hK
    go_simp
    (try go_wp2_with fail)
    exact hK'.out
  · refine ⟨.box ⟨5, 7, (.int .u64 (k1 : Nat)), (.int .u64 (k2 : Nat))⟩, [], by decide, by simp, rfl, by simp, (fun D hD => by cases hD; exact fun _ _ => trivial), fun vs w hl K hK => ?_⟩
    obtain ⟨v0, vs, rfl, hl1⟩ := len_succ hl
    obtain ⟨v1, vs, rfl, hl2⟩ := len_succ hl1
    obtain ⟨v2, vs, rfl, hl3⟩ := len_succ hl2
    obtain ⟨v3, vs, rfl, hl4⟩ := len_succ hl3
    obtain ⟨v4, vs, rfl, hl5⟩ := len_succ hl4
    obtain ⟨v5, vs, rfl, hl6⟩ := len_succ hl5
    obtain ⟨v6, vs, rfl, hl7⟩ := len_succ hl6
    obtain ⟨v7, vs, rfl, hl8⟩ := len_succ hl7
    obtain rfl := len_zero hl8
    clear hl hl1 hl2 hl3 hl4 hl5 hl6 hl7 hl8
    replace hK := hK.out
    simp only [putsO, List.set_cons_zero, List.set_cons_succ, Act.put, List.setIfInBounds_toArray] at hK ⊢
    have hK' : Shut _ := hK
    clear hK
    go_simp
    (try go_wp2_with fail)
    exact hK'.out
  · refine ⟨.fill ⟨4, 6, (.int .u64 (m1 : Nat)), (.int .u64 (m2 : Nat))⟩, [4, 1], by decide, by simp, rfl, by simp, by simp, by simp, by simp, (fun D hD => by cases hD; exact fun _ _ => trivial), fun vs w g hl hd hg c0 c1 f0 f1 K hK => ?_⟩
    obtain ⟨v0, vs, rfl, hl1⟩ := len_succ hl
    obtain ⟨v1, vs, rfl, hl2⟩ := len_succ hl1
    obtain ⟨v2, vs, rfl, hl3⟩ := len_succ hl2
    obtain ⟨v3, vs, rfl, hl4⟩ := len_succ hl3
    obtain ⟨v4, vs, rfl, hl5⟩ := len_succ hl4
    obtain ⟨v5, vs, rfl, hl6⟩ := len_succ hl5
    obtain ⟨v6, vs, rfl, hl7⟩ := len_succ hl6
    obtain ⟨v7, vs, rfl, hl8⟩ := len_succ hl7
    obtain rfl := len_zero hl8
    have dd := hd 1 (by simp) _ rfl; simp only [List.getD_cons_zero, List.getD_cons_succ] at dd; obtain rfl := dd
    simp only [List.getD_cons_zero, List.getD_cons_succ] at hg
    obtain rfl := hg
    clear hd hl hl1 hl2 hl3 hl4 hl5 hl6 hl7 hl8
    replace hK := hK.out undef
    simp only [putsO, List.set_cons_zero, List.set_cons_succ, Act.put, List.setIfInBounds_toArray] at hK ⊢
    have hK' : Shut _ := hK
    clear hK
    go_simp
    (try go_wp2_with fail)
    exact hK'.out
  · refine ⟨.fill ⟨5, 7, (.int .u64 (k1 : Nat)), (.int .u64 (k2 : Nat))⟩, [5, 3], by decide, by simp, rfl, by simp, by simp, by simp, by simp, (fun D hD => by cases hD; exact fun _ _ => trivial), fun vs w g hl hd hg c0 c1 f0 f1 K hK => ?_⟩
    obtain ⟨v0, vs, rfl, hl1⟩ := len_succ hl
    obtain ⟨v1, vs, rfl, hl2⟩ := len_succ hl1
    obtain ⟨v2, vs, rfl, hl3⟩ := len_succ hl2
    obtain ⟨v3, vs, rfl, hl4⟩ := len_succ hl3
    obtain ⟨v4, vs, rfl, hl5⟩ := len_succ hl4
    obtain ⟨v5, vs, rfl, hl6⟩ := len_succ hl5
    obtain ⟨v6, vs, rfl, hl7⟩ := len_succ hl6
    obtain ⟨v7, vs, rfl, hl8⟩ := len_succ hl7
    obtain rfl := len_zero hl8
    have dd := hd 3 (by simp) _ rfl; simp only [List.getD_cons_zero, List.getD_cons_succ] at dd; obtain rfl := dd
    simp only [List.getD_cons_zero, List.getD_cons_succ] at hg
    obtain rfl := hg
    clear hd hl hl1 hl2 hl3 hl4 hl5 hl6 hl7 hl8
    replace hK := hK.out undef
    simp only [putsO, List.set_cons_zero, List.set_cons_succ, Act.put, List.setIfInBounds_toArray] at hK ⊢
    have hK' : Shut _ := hK
    clear hK
    go_simp
    (try go_wp2_with fail)
    exact hK'.out
  · intro vs w1 hl hR hd hbx hne
    obtain ⟨v0, vs, rfl, hl1⟩ := len_succ hl
    obtain ⟨v1, vs, rfl, hl2⟩ := len_succ hl1
    obtain ⟨v2, vs, rfl, hl3⟩ := len_succ hl2
    obtain ⟨v3, vs, rfl, hl4⟩ := len_succ hl3
    obtain ⟨v4, vs, rfl, hl5⟩ := len_succ hl4
    obtain ⟨v5, vs, rfl, hl6⟩ := len_succ hl5
    obtain ⟨v6, vs, rfl, hl7⟩ := len_succ hl6
    obtain ⟨v7, vs, rfl, hl8⟩ := len_succ hl7
    obtain rfl := len_zero hl8
    obtain ⟨g0, e0, hg0, hh0⟩ := hbx ⟨4, 6, (.int .u64 (m1 : Nat)), (.int .u64 (m2 : Nat))⟩ (by simp) (by simp) (by simp)
    simp only [List.getD_cons_zero, List.getD_cons_succ] at e0
    obtain ⟨g1, e1, hg1, hh1⟩ := hbx ⟨5, 7, (.int .u64 (k1 : Nat)), (.int .u64 (k2 : Nat))⟩ (by simp) (by simp) (by simp)
    simp only [List.getD_cons_zero, List.getD_cons_succ] at e1
    obtain rfl := e0
    obtain rfl := e1
    clear hd hbx hl hl1 hl2 hl3 hl4 hl5 hl6 hl7 hl8
    simp only [putsO, List.set_cons_zero, List.set_cons_succ, Act.put, List.setIfInBounds_toArray]
    have hA0 := at2_of hh0
    have hA1 := at2_of hh1
    have hB := step_call HBW.out (HB0.out.trans (hR.mono HB0.out.size))
    clear hh0 hh1 hg0 hg1 hne hR HB0
    go_wp2_with fail
    have hdr : Below w1.heap.size w1 w1.drew := (Below.refl _ _).drew
    replace hA0 := hA0.below hdr
    replace hA1 := hA1.below hdr
    replace hB := step_call hB hdr
    clear hdr
    have q0 := hA0.1
    have q1 := hA0.2.1
    have q2 := hA1.1
    have q3 := hA1.2.1
    refine wp_region_noPanic ?_
    refine region_ord (S := fun w' => w'.cell? ⟨g0, 0, none⟩ = some (.int .u64 (m1 : Nat)) ∧ w'.cell? ⟨g0, 1, none⟩ = some (.int .u64 (m2 : Nat)) ∧ w'.cell? ⟨g1, 0, none⟩ = some (.int .u64 (k1 : Nat)) ∧ w'.cell? ⟨g1, 1, none⟩ = some (.int .u64 (k2 : Nat))) [0, 2, 5, 6, 1, 3, 4, 7, 8, 9] (by kernel_rfl) (by decide +kernel) (fun _ _ _ _ _ h => h) (⟨q0, q1, q2, q3⟩) (fun _ => ?_)
    repeat (first
      | (refine ord_skip rfl rfl rfl ?_; (try simp only [Act.put, List.setIfInBounds_toArray, List.set_cons_zero, List.set_cons_succ]))
      | (refine' ord_light (v := _) rfl rfl rfl (fun w' hSw => ?_) ?_; rotate_left; (focus ((try dsimp only at hSw); go_simp <;> (with_reducible rfl))); (try simp only [Act.put, List.setIfInBounds_toArray, List.set_cons_zero, List.set_cons_succ]))
      | (refine ord_heavy rfl rfl (fun K hK => ?_); go_simp; (go_at_call 18; (with_reducible refine (lawmake_c _ _ _ _ HC.out EX).mono ?_); rintro e w2 ⟨a2, n2, c2, b2, m2', d2, rfl, hc2, hb⟩; clear q0 q1 q2 q3; have hA0 := hA0.below hb; have hA1 := hA1.below hb; have hB := step_call hB hb; have q0 := hA0.1; have q1 := hA0.2.1; have q2 := hA1.1; have q3 := hA1.2.1; clear hb); (try go_wp2_with fail); refine hK.out _ _ (⟨q0, q1, q2, q3⟩) ?_; clear hK K; (try simp only [Act.put, List.setIfInBounds_toArray, List.set_cons_zero, List.set_cons_succ]))
      | (refine ord_heavy rfl rfl (fun K hK => ?_); go_simp; (go_at_call 18; (with_reducible refine (lawmake_c _ _ _ _ HK.out EY).mono ?_); rintro e w3 ⟨a3, n3, c3, b3, m3, d3, rfl, hc3, hb⟩; clear q0 q1 q2 q3; have hA0 := hA0.below hb; have hA1 := hA1.below hb; have hB := step_call hB hb; have q0 := hA0.1; have q1 := hA0.2.1; have q2 := hA1.1; have q3 := hA1.2.1; have hc2 := hc2.below hb; clear hb); (try go_wp2_with fail); refine hK.out _ _ (⟨q0, q1, q2, q3⟩) ?_; clear hK K; (try simp only [Act.put, List.setIfInBounds_toArray, List.set_cons_zero, List.set_cons_succ]))
      | (refine ord_heavy rfl rfl (fun K hK => ?_); go_simp; (go_at_call 40; (with_reducible refine (minus_q _ _ _ _ _ _ _ _ _ _ _ _ _ _ _ _ hc2 hc3 (HW.out.below hB).tz EM).mono ?_); rintro e w4 ⟨a4, n4, c4, rfl, hs4, hb⟩; clear q0 q1 q2 q3; have hA0 := hA0.below hb; have hA1 := hA1.below hb; have hB := step_call hB hb; have q0 := hA0.1; have q1 := hA0.2.1; have q2 := hA1.1; have q3 := hA1.2.1; clear hb hc2 hc3); (try go_wp2_with fail); refine hK.out _ _ (⟨q0, q1, q2, q3⟩) ?_; clear hK K; (try simp only [Act.put, List.setIfInBounds_toArray, List.set_cons_zero, List.set_cons_succ]))
      | (refine ord_heavy rfl rfl (fun K hK => ?_); go_simp; (go_at_call 41; (with_reducible refine (rminus_q _ _ _ _ _ _ HC.out HK.out EN).mono ?_); rintro e w5 ⟨a5, n5, c5, rfl, hs5, hb⟩; clear q0 q1 q2 q3; have hA0 := hA0.below hb; have hA1 := hA1.below hb; have hB := step_call hB hb; have q0 := hA0.1; have q1 := hA0.2.1; have q2 := hA1.1; have q3 := hA1.2.1; have hs4 := hs4.below hb; clear hb); (try go_wp2_with fail); refine hK.out _ _ (⟨q0, q1, q2, q3⟩) ?_; clear hK K; (try simp only [Act.put, List.setIfInBounds_toArray, List.set_cons_zero, List.set_cons_succ]))
      | (refine ord_heavy rfl rfl (fun K hK => ?_); go_simp; (go_at_call 39; (with_reducible refine (same_yes _ _ _ _ _ _ _ _ _ hs4 hs5 (HW.out.below hB).tz EG).mono ?_); rintro e w6 ⟨rfl, hb⟩; clear q0 q1 q2 q3; have hA0 := hA0.below hb; have hA1 := hA1.below hb; have hB := step_call hB hb; have q0 := hA0.1; have q1 := hA0.2.1; have q2 := hA1.1; have q3 := hA1.2.1; clear hb); (try go_wp2_with fail); refine hK.out _ _ (⟨q0, q1, q2, q3⟩) ?_; clear hK K; (try simp only [Act.put, List.setIfInBounds_toArray, List.set_cons_zero, List.set_cons_succ]))
      | (refine ord_heavy rfl rfl (fun K hK => ?_); go_simp; (try go_wp2_with fail); refine hK.out _ _ (⟨q0, q1, q2, q3⟩) ?_; clear hK K; (try simp only [Act.put, List.setIfInBounds_toArray, List.set_cons_zero, List.set_cons_succ])))
    refine ord_nil (NoPanic.normal ?_)
    go_wp2_with fail
    go_ret
    exact ⟨rfl, hB⟩
end Go.Proofs.YtadomogbakcokaaGreatDoor
