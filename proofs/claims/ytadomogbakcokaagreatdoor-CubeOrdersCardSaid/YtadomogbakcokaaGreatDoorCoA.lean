/- The walk of CubeOrders: one case. -/
import Derived.Test.YtadomogbakcokaaGreatDoorCvS
namespace Go.Proofs.YtadomogbakcokaaGreatDoor
open Go.RowKit Go.PlainAid
set_option linter.unusedVariables false
set_option linter.unusedSimpArgs false
set_option maxHeartbeats 4000000
set_option maxRecDepth 200000
set_option maxRecDepth 200000 in
theorem orders_gt (r t u : Rx) (w : World) (hW : Wld w) (hr : RxOk r) (ht : RxOk t) (hu : RxOk u) (hz : cmpC (cuM (fitM r)) (cuM (fitM t)) = 1) :
    Calls Tryz.prog 4 #[.agg #[.int .u8 (r.1 : Nat), .int .u8 (r.2.1 : Nat), .bool r.2.2], .agg #[.int .u8 (t.1 : Nat), .int .u8 (t.2.1 : Nat), .bool t.2.2], .agg #[.int .u8 (u.1 : Nat), .int .u8 (u.2.1 : Nat), .bool u.2.2]] w fun e w' => e = .returned (.bool true) ∧ Below w.heap.size w w' := by
  obtain ⟨r1, r2, r3⟩ := r
  obtain ⟨t1, t2, t3⟩ := t
  obtain ⟨u1, u2, u3⟩ := u
  have HW := Lib.hid hW
  have HRX := Lib.hid hr
  have HTX := Lib.hid ht
  have HUX := Lib.hid hu
  have hc8 := fitM_ok (r1, r2, r3)
  have hk8 := fitM_ok (t1, t2, t3)
  have hp8 := fitM_ok (u1, u2, u3)
  obtain ⟨⟨m1, m2⟩, em⟩ : ∃ m, fitM (r1, r2, r3) = m := ⟨_, rfl⟩
  obtain ⟨⟨k1, k2⟩, ek⟩ : ∃ m, fitM (t1, t2, t3) = m := ⟨_, rfl⟩
  obtain ⟨⟨p1, p2⟩, ep⟩ : ∃ m, fitM (u1, u2, u3) = m := ⟨_, rfl⟩
  rw [em] at hc8
  rw [ek] at hk8
  rw [ep] at hp8
  have EF := Lib.hid em
  have EK := Lib.hid ek
  have EP := Lib.hid ep
  have HC := Lib.hid hc8.ok
  have HK := Lib.hid hk8.ok
  have HP := Lib.hid hp8.ok
  have HINJ : Hid (cuM (m1, m2) = cuM (k1, k2) → (m1, m2) = (k1, k2)) := fun h => cuM_inj hc8.ok hk8.ok h
  obtain ⟨X, eX⟩ : ∃ X, cuM (m1, m2) = X := ⟨_, rfl⟩
  obtain ⟨Y, eY⟩ : ∃ Y, cuM (k1, k2) = Y := ⟨_, rfl⟩
  obtain ⟨V, eV⟩ : ∃ V, cuM (p1, p2) = V := ⟨_, rfl⟩
  have EX := Lib.hid eX
  have EY := Lib.hid eY
  have EV := Lib.hid eV
  rw [em, ek] at hz
  have EZM := Lib.hid hz
  have EZ : Hid (cmpC X Y = 1) := by show _ = _; rw [← eX, ← eY]; exact hz
  have EN : Hid (cmpC Y X = -1) := by show _ = _; rw [cmpC_neg, EZ.out] <;> rfl
  have hwr : IntKind.i64.wrap (-1) = -1 := by decide
  have hwr1 : IntKind.i64.wrap 1 = 1 := by decide
  have hwr0 : IntKind.i64.wrap 0 = 0 := by decide
  have hXY : X ≠ Y := fun e => by have h1 := EZ.out; rw [cmpC_zero.2 e] at h1; cases h1
  have EQ : Hid (decide (X = Y) = false) := decide_eq_false hXY
  have hne : ¬ (((m1 : Nat) : Int) = ((k1 : Nat) : Int) ∧ ((m2 : Nat) : Int) = ((k2 : Nat) : Int)) := fun e => hXY (by rw [← eX, ← eY, Int.ofNat.inj e.1, Int.ofNat.inj e.2])
  have HNE := Lib.hid hne
  clear hne
  clear hXY hz hW hr ht hu em ek ep hc8 hk8 hp8 eX eY eV
  dsimp only
  obtain ⟨W0, hW0⟩ : ∃ W0, W0 = ((w.alloc (.cells #[.int .u8 (r1 : Nat), .int .u8 (r2 : Nat), .bool r3] 46)).alloc (.cells #[.int .u8 (t1 : Nat), .int .u8 (t2 : Nat), .bool t3] 46)).alloc (.cells #[.int .u8 (u1 : Nat), .int .u8 (u2 : Nat), .bool u3] 46) := ⟨_, rfl⟩
  have HQ : Hid (∀ wr, Below W0.heap.size W0 wr → (wr.cell? ⟨w.heap.size, 0, none⟩ = some (.int .u8 (r1 : Nat)) ∧ wr.cell? ⟨w.heap.size, 1, none⟩ = some (.int .u8 (r2 : Nat)) ∧ wr.cell? ⟨w.heap.size, 2, none⟩ = some (.bool r3)) ∧ (wr.cell? ⟨w.heap.size + 1, 0, none⟩ = some (.int .u8 (t1 : Nat)) ∧ wr.cell? ⟨w.heap.size + 1, 1, none⟩ = some (.int .u8 (t2 : Nat)) ∧ wr.cell? ⟨w.heap.size + 1, 2, none⟩ = some (.bool t3)) ∧ (wr.cell? ⟨w.heap.size + 1 + 1, 0, none⟩ = some (.int .u8 (u1 : Nat)) ∧ wr.cell? ⟨w.heap.size + 1 + 1, 1, none⟩ = some (.int .u8 (u2 : Nat)) ∧ wr.cell? ⟨w.heap.size + 1 + 1, 2, none⟩ = some (.bool u3))) := by
    rw [hW0]; exact fun wr hb => three_raw hb
  have hbW : Below w.heap.size w W0 := by rw [hW0]; exact (((Below.refl _ w).alloc (Nat.le_refl _) _).alloc (by simp) _).alloc (by simp; omega) _
  have HBW := Lib.hid hbW
  clear hbW
  go_enter Tryz.func4, Tryz.ntmps4
  go_upto_region 3 with (go_at_call 15; rw [← hW0]; clear hW0; (with_reducible refine (awake_any _ (HW.out.below HBW.out)).mono ?_); rintro e w0 ⟨rfl, hb⟩; have HB0 := Lib.hid hb; clear hb)
  refine region_boxes 28 (.int .u64 0) _ [⟨6, 9, (.int .u64 (m1 : Nat)), (.int .u64 (m2 : Nat))⟩, ⟨7, 10, (.int .u64 (k1 : Nat)), (.int .u64 (k2 : Nat))⟩, ⟨8, 11, (.int .u64 (p1 : Nat)), (.int .u64 (p2 : Nat))⟩] [some 13, some 14, some 15, some 16, some 17, some 18, some 7, some 8, some 9, none, none, none]
    [fun v w => v = .agg #[.int .u8 (r1 : Nat), .int .u8 (r2 : Nat), .bool r3],
     fun v w => v = .agg #[.int .u64 (m1 : Nat), .int .u64 (m2 : Nat)],
     fun v w => v = .agg #[.int .u8 (t1 : Nat), .int .u8 (t2 : Nat), .bool t3],
     fun v w => v = .agg #[.int .u64 (k1 : Nat), .int .u64 (k2 : Nat)],
     fun v w => v = .agg #[.int .u8 (u1 : Nat), .int .u8 (u2 : Nat), .bool u3],
     fun v w => v = .agg #[.int .u64 (p1 : Nat), .int .u64 (p2 : Nat)],
     fun _ _ => True,
     fun _ _ => True,
     fun _ _ => True,
     fun _ _ => True,
     fun _ _ => True,
     fun _ _ => True] (by kernel_rfl) (by kernel_rfl) rfl [undef, undef, undef, undef, undef, undef, undef, undef, undef, undef, undef, undef] (by simp only [putsO, List.set_cons_zero, List.set_cons_succ, Act.put, List.setIfInBounds_toArray]) rfl rfl (by simp) ?_ ?_ ⟨?_, ?_, ?_, ?_, ?_, ?_, ?_, ?_, ?_, ?_, ?_, ?_, trivial⟩ ?_
  · intro j D hj v w w' hb hD
    match j, hj with
    | 0, hj => cases hj; exact hD
    | 1, hj => cases hj; exact hD
    | 2, hj => cases hj; exact hD
    | 3, hj => cases hj; exact hD
    | 4, hj => cases hj; exact hD
    | 5, hj => cases hj; exact hD
    | 6, hj => cases hj; exact hD
    | 7, hj => cases hj; exact hD
    | 8, hj => cases hj; exact hD
    | 9, hj => cases hj; exact hD
    | 10, hj => cases hj; exact hD
    | 11, hj => cases hj; exact hD
    | j + 12, hj => cases hj
  · intro j D hj v w g k u hc hD
    match j, hj with
    | 0, hj => cases hj; exact hD
    | 1, hj => cases hj; exact hD
    | 2, hj => cases hj; exact hD
    | 3, hj => cases hj; exact hD
    | 4, hj => cases hj; exact hD
    | 5, hj => cases hj; exact hD
    | 6, hj => cases hj; exact hD
    | 7, hj => cases hj; exact hD
    | 8, hj => cases hj; exact hD
    | 9, hj => cases hj; exact hD
    | 10, hj => cases hj; exact hD
    | 11, hj => cases hj; exact hD
    | j + 12, hj => cases hj
  · refine ⟨.plain, [], by decide, by simp, fun vs w hl hR hd K hK => ?_⟩
    obtain ⟨v0, vs, rfl, hl1⟩ := len_succ hl
    obtain ⟨v1, vs, rfl, hl2⟩ := len_succ hl1
    obtain ⟨v2, vs, rfl, hl3⟩ := len_succ hl2
    obtain ⟨v3, vs, rfl, hl4⟩ := len_succ hl3
    obtain ⟨v4, vs, rfl, hl5⟩ := len_succ hl4
    obtain ⟨v5, vs, rfl, hl6⟩ := len_succ hl5
    obtain ⟨v6, vs, rfl, hl7⟩ := len_succ hl6
    obtain ⟨v7, vs, rfl, hl8⟩ := len_succ hl7
    obtain ⟨v8, vs, rfl, hl9⟩ := len_succ hl8
    obtain ⟨v9, vs, rfl, hl10⟩ := len_succ hl9
    obtain ⟨v10, vs, rfl, hl11⟩ := len_succ hl10
    obtain ⟨v11, vs, rfl, hl12⟩ := len_succ hl11
    obtain rfl := len_zero hl12
    clear hd hl hl1 hl2 hl3 hl4 hl5 hl6 hl7 hl8 hl9 hl10 hl11 hl12
    replace hK := hK.out
    simp only [putsO, List.set_cons_zero, List.set_cons_succ, Act.put, List.setIfInBounds_toArray] at hK ⊢
    have hK' : Shut _ := hK
    clear hK
    have q0 := (HQ.out _ (HB0.out.trans (hR.mono HB0.out.size))).1.1; have q1 := (HQ.out _ (HB0.out.trans (hR.mono HB0.out.size))).1.2.1; have q2 := (HQ.out _ (HB0.out.trans (hR.mono HB0.out.size))).1.2.2
    go_simp
    (try go_wp2_with fail)
    exact hK'.out _ _ (Below.refl _ _) (fun D hD => by cases hD; rfl)
  · refine ⟨.plain, [0], by decide, by simp, fun vs w hl hR hd K hK => ?_⟩
    obtain ⟨v0, vs, rfl, hl1⟩ := len_succ hl
    obtain ⟨v1, vs, rfl, hl2⟩ := len_succ hl1
    obtain ⟨v2, vs, rfl, hl3⟩ := len_succ hl2
    obtain ⟨v3, vs, rfl, hl4⟩ := len_succ hl3
    obtain ⟨v4, vs, rfl, hl5⟩ := len_succ hl4
    obtain ⟨v5, vs, rfl, hl6⟩ := len_succ hl5
    obtain ⟨v6, vs, rfl, hl7⟩ := len_succ hl6
    obtain ⟨v7, vs, rfl, hl8⟩ := len_succ hl7
    obtain ⟨v8, vs, rfl, hl9⟩ := len_succ hl8
    obtain ⟨v9, vs, rfl, hl10⟩ := len_succ hl9
    obtain ⟨v10, vs, rfl, hl11⟩ := len_succ hl10
    obtain ⟨v11, vs, rfl, hl12⟩ := len_succ hl11
    obtain rfl := len_zero hl12
    have dd := hd 0 (by simp) _ rfl; simp only [List.getD_cons_zero, List.getD_cons_succ] at dd; obtain rfl := dd
    clear hd hl hl1 hl2 hl3 hl4 hl5 hl6 hl7 hl8 hl9 hl10 hl11 hl12
    replace hK := hK.out
    simp only [putsO, List.set_cons_zero, List.set_cons_succ, Act.put, List.setIfInBounds_toArray] at hK ⊢
    have hK' : Shut _ := hK
    clear hK
    go_simp
    go_at_call 26; (with_reducible refine (rfit_c _ _ _ _ _ _ HRX.out EF).mono ?_); rintro e w2 ⟨rfl, hb⟩
    (try go_wp2_with fail)
    exact hK'.out _ _ (hb) (fun D hD => by cases hD; rfl)
  · refine ⟨.plain, [], by decide, by simp, fun vs w hl hR hd K hK => ?_⟩
    obtain ⟨v0, vs, rfl, hl1⟩ := len_succ hl
    obtain ⟨v1, vs, rfl, hl2⟩ := len_succ hl1
    obtain ⟨v2, vs, rfl, hl3⟩ := len_succ hl2
    obtain ⟨v3, vs, rfl, hl4⟩ := len_succ hl3
    obtain ⟨v4, vs, rfl, hl5⟩ := len_succ hl4
    obtain ⟨v5, vs, rfl, hl6⟩ := len_succ hl5
    obtain ⟨v6, vs, rfl, hl7⟩ := len_succ hl6
    obtain ⟨v7, vs, rfl, hl8⟩ := len_succ hl7
    obtain ⟨v8, vs, rfl, hl9⟩ := len_succ hl8
    obtain ⟨v9, vs, rfl, hl10⟩ := len_succ hl9
    obtain ⟨v10, vs, rfl, hl11⟩ := len_succ hl10
    obtain ⟨v11, vs, rfl, hl12⟩ := len_succ hl11
    obtain rfl := len_zero hl12
    clear hd hl hl1 hl2 hl3 hl4 hl5 hl6 hl7 hl8 hl9 hl10 hl11 hl12
    replace hK := hK.out
    simp only [putsO, List.set_cons_zero, List.set_cons_succ, Act.put, List.setIfInBounds_toArray] at hK ⊢
    have hK' : Shut _ := hK
    clear hK
    have q0 := (HQ.out _ (HB0.out.trans (hR.mono HB0.out.size))).2.1.1; have q1 := (HQ.out _ (HB0.out.trans (hR.mono HB0.out.size))).2.1.2.1; have q2 := (HQ.out _ (HB0.out.trans (hR.mono HB0.out.size))).2.1.2.2
    go_simp
    (try go_wp2_with fail)
    exact hK'.out _ _ (Below.refl _ _) (fun D hD => by cases hD; rfl)
  · refine ⟨.plain, [2], by decide, by simp, fun vs w hl hR hd K hK => ?_⟩
    obtain ⟨v0, vs, rfl, hl1⟩ := len_succ hl
    obtain ⟨v1, vs, rfl, hl2⟩ := len_succ hl1
    obtain ⟨v2, vs, rfl, hl3⟩ := len_succ hl2
    obtain ⟨v3, vs, rfl, hl4⟩ := len_succ hl3
    obtain ⟨v4, vs, rfl, hl5⟩ := len_succ hl4
    obtain ⟨v5, vs, rfl, hl6⟩ := len_succ hl5
    obtain ⟨v6, vs, rfl, hl7⟩ := len_succ hl6
    obtain ⟨v7, vs, rfl, hl8⟩ := len_succ hl7
    obtain ⟨v8, vs, rfl, hl9⟩ := len_succ hl8
    obtain ⟨v9, vs, rfl, hl10⟩ := len_succ hl9
    obtain ⟨v10, vs, rfl, hl11⟩ := len_succ hl10
    obtain ⟨v11, vs, rfl, hl12⟩ := len_succ hl11
    obtain rfl := len_zero hl12
    have dd := hd 2 (by simp) _ rfl; simp only [List.getD_cons_zero, List.getD_cons_succ] at dd; obtain rfl := dd
    clear hd hl hl1 hl2 hl3 hl4 hl5 hl6 hl7 hl8 hl9 hl10 hl11 hl12
    replace hK := hK.out
    simp only [putsO, List.set_cons_zero, List.set_cons_succ, Act.put, List.setIfInBounds_toArray] at hK ⊢
    have hK' : Shut _ := hK
    clear hK
    go_simp
    go_at_call 26; (with_reducible refine (rfit_c _ _ _ _ _ _ HTX.out EK).mono ?_); rintro e w2 ⟨rfl, hb⟩
    (try go_wp2_with fail)
    exact hK'.out _ _ (hb) (fun D hD => by cases hD; rfl)
  · refine ⟨.plain, [], by decide, by simp, fun vs w hl hR hd K hK => ?_⟩
    obtain ⟨v0, vs, rfl, hl1⟩ := len_succ hl
    obtain ⟨v1, vs, rfl, hl2⟩ := len_succ hl1
    obtain ⟨v2, vs, rfl, hl3⟩ := len_succ hl2
    obtain ⟨v3, vs, rfl, hl4⟩ := len_succ hl3
    obtain ⟨v4, vs, rfl, hl5⟩ := len_succ hl4
    obtain ⟨v5, vs, rfl, hl6⟩ := len_succ hl5
    obtain ⟨v6, vs, rfl, hl7⟩ := len_succ hl6
    obtain ⟨v7, vs, rfl, hl8⟩ := len_succ hl7
    obtain ⟨v8, vs, rfl, hl9⟩ := len_succ hl8
    obtain ⟨v9, vs, rfl, hl10⟩ := len_succ hl9
    obtain ⟨v10, vs, rfl, hl11⟩ := len_succ hl10
    obtain ⟨v11, vs, rfl, hl12⟩ := len_succ hl11
    obtain rfl := len_zero hl12
    clear hd hl hl1 hl2 hl3 hl4 hl5 hl6 hl7 hl8 hl9 hl10 hl11 hl12
    replace hK := hK.out
    simp only [putsO, List.set_cons_zero, List.set_cons_succ, Act.put, List.setIfInBounds_toArray] at hK ⊢
    have hK' : Shut _ := hK
    clear hK
    have q0 := (HQ.out _ (HB0.out.trans (hR.mono HB0.out.size))).2.2.1; have q1 := (HQ.out _ (HB0.out.trans (hR.mono HB0.out.size))).2.2.2.1; have q2 := (HQ.out _ (HB0.out.trans (hR.mono HB0.out.size))).2.2.2.2
    go_simp
    (try go_wp2_with fail)
    exact hK'.out _ _ (Below.refl _ _) (fun D hD => by cases hD; rfl)
  · refine ⟨.plain, [4], by decide, by simp, fun vs w hl hR hd K hK => ?_⟩
    obtain ⟨v0, vs, rfl, hl1⟩ := len_succ hl
    obtain ⟨v1, vs, rfl, hl2⟩ := len_succ hl1
    obtain ⟨v2, vs, rfl, hl3⟩ := len_succ hl2
    obtain ⟨v3, vs, rfl, hl4⟩ := len_succ hl3
    obtain ⟨v4, vs, rfl, hl5⟩ := len_succ hl4
    obtain ⟨v5, vs, rfl, hl6⟩ := len_succ hl5
    obtain ⟨v6, vs, rfl, hl7⟩ := len_succ hl6
    obtain ⟨v7, vs, rfl, hl8⟩ := len_succ hl7
    obtain ⟨v8, vs, rfl, hl9⟩ := len_succ hl8
    obtain ⟨v9, vs, rfl, hl10⟩ := len_succ hl9
    obtain ⟨v10, vs, rfl, hl11⟩ := len_succ hl10
    obtain ⟨v11, vs, rfl, hl12⟩ := len_succ hl11
    obtain rfl := len_zero hl12
    have dd := hd 4 (by simp) _ rfl; simp only [List.getD_cons_zero, List.getD_cons_succ] at dd; obtain rfl := dd
    clear hd hl hl1 hl2 hl3 hl4 hl5 hl6 hl7 hl8 hl9 hl10 hl11 hl12
    replace hK := hK.out
    simp only [putsO, List.set_cons_zero, List.set_cons_succ, Act.put, List.setIfInBounds_toArray] at hK ⊢
    have hK' : Shut _ := hK
    clear hK
    go_simp
    go_at_call 26; (with_reducible refine (rfit_c _ _ _ _ _ _ HUX.out EP).mono ?_); rintro e w2 ⟨rfl, hb⟩
    (try go_wp2_with fail)
    exact hK'.out _ _ (hb) (fun D hD => by cases hD; rfl)
  · refine ⟨.box ⟨6, 9, (.int .u64 (m1 : Nat)), (.int .u64 (m2 : Nat))⟩, [], by decide, by simp, rfl, by simp, (fun D hD => by cases hD; exact fun _ _ => trivial), fun vs w hl K hK => ?_⟩
    obtain ⟨v0, vs, rfl, hl1⟩ := len_succ hl
    obtain ⟨v1, vs, rfl, hl2⟩ := len_succ hl1
    obtain ⟨v2, vs, rfl, hl3⟩ := len_succ hl2
    obtain ⟨v3, vs, rfl, hl4⟩ := len_succ hl3
    obtain ⟨v4, vs, rfl, hl5⟩ := len_succ hl4
    obtain ⟨v5, vs, rfl, hl6⟩ := len_succ hl5
    obtain ⟨v6, vs, rfl, hl7⟩ := len_succ hl6
    obtain ⟨v7, vs, rfl, hl8⟩ := len_succ hl7
    obtain ⟨v8, vs, rfl, hl9⟩ := len_succ hl8
    obtain ⟨v9, vs, rfl, hl10⟩ := len_succ hl9
    obtain ⟨v10, vs, rfl, hl11⟩ := len_succ hl10
    obtain ⟨v11, vs, rfl, hl12⟩ := len_succ hl11
    obtain rfl := len_zero hl12
    clear hl hl1 hl2 hl3 hl4 hl5 hl6 hl7 hl8 hl9 hl10 hl11 hl12
    replace hK := hK.out
    simp only [putsO, List.set_cons_zero, List.set_cons_succ, Act.put, List.setIfInBounds_toArray] at hK ⊢
    have hK' : Shut _ := hK
    clear hK
    go_simp
    (try go_wp2_with fail)
    exact hK'.out
  · refine ⟨.box ⟨7, 10, (.int .u64 (k1 : Nat)), (.int .u64 (k2 : Nat))⟩, [], by decide, by simp, rfl, by simp, (fun D hD => by cases hD; exact fun _ _ => trivial), fun vs w hl K hK => ?_⟩
    obtain ⟨v0, vs, rfl, hl1⟩ := len_succ hl
    obtain ⟨v1, vs, rfl, hl2⟩ := len_succ hl1
    obtain ⟨v2, vs, rfl, hl3⟩ := len_succ hl2
    obtain ⟨v3, vs, rfl, hl4⟩ := len_succ hl3
    obtain ⟨v4, vs, rfl, hl5⟩ := len_succ hl4
    obtain ⟨v5, vs, rfl, hl6⟩ := len_succ hl5
    obtain ⟨v6, vs, rfl, hl7⟩ := len_succ hl6
    obtain ⟨v7, vs, rfl, hl8⟩ := len_succ hl7
    obtain ⟨v8, vs, rfl, hl9⟩ := len_succ hl8
    obtain ⟨v9, vs, rfl, hl10⟩ := len_succ hl9
    obtain ⟨v10, vs, rfl, hl11⟩ := len_succ hl10
    obtain ⟨v11, vs, rfl, hl12⟩ := len_succ hl11
    obtain rfl := len_zero hl12
    clear hl hl1 hl2 hl3 hl4 hl5 hl6 hl7 hl8 hl9 hl10 hl11 hl12
    replace hK := hK.out
    simp only [putsO, List.set_cons_zero, List.set_cons_succ, Act.put, List.setIfInBounds_toArray] at hK ⊢
    have hK' : Shut _ := hK
    clear hK
    go_simp
    (try go_wp2_with fail)
    exact hK'.out
  · refine ⟨.box ⟨8, 11, (.int .u64 (p1 : Nat)), (.int .u64 (p2 : Nat))⟩, [], by decide, by simp, rfl, by simp, (fun D hD => by cases hD; exact fun _ _ => trivial), fun vs w hl K hK => ?_⟩
    obtain ⟨v0, vs, rfl, hl1⟩ := len_succ hl
    obtain ⟨v1, vs, rfl, hl2⟩ := len_succ hl1
    obtain ⟨v2, vs, rfl, hl3⟩ := len_succ hl2
    obtain ⟨v3, vs, rfl, hl4⟩ := len_succ hl3
    obtain ⟨v4, vs, rfl, hl5⟩ := len_succ hl4
    obtain ⟨v5, vs, rfl, hl6⟩ := len_succ hl5
    obtain ⟨v6, vs, rfl, hl7⟩ := len_succ hl6
    obtain ⟨v7, vs, rfl, hl8⟩ := len_succ hl7
    obtain ⟨v8, vs, rfl, hl9⟩ := len_succ hl8
    obtain ⟨v9, vs, rfl, hl10⟩ := len_succ hl9
    obtain ⟨v10, vs, rfl, hl11⟩ := len_succ hl10
    obtain ⟨v11, vs, rfl, hl12⟩ := len_succ hl11
    obtain rfl := len_zero hl12
    clear hl hl1 hl2 hl3 hl4 hl5 hl6 hl7 hl8 hl9 hl10 hl11 hl12
    replace hK := hK.out
    simp only [putsO, List.set_cons_zero, List.set_cons_succ, Act.put, List.setIfInBounds_toArray] at hK ⊢
    have hK' : Shut _ := hK
    clear hK
    go_simp
    (try go_wp2_with fail)
    exact hK'.out
  · refine ⟨.fill ⟨6, 9, (.int .u64 (m1 : Nat)), (.int .u64 (m2 : Nat))⟩, [6, 1], by decide, by simp, rfl, by simp, by simp, by simp, by simp, (fun D hD => by cases hD; exact fun _ _ => trivial), fun vs w g hl hd hg c0 c1 f0 f1 K hK => ?_⟩
    obtain ⟨v0, vs, rfl, hl1⟩ := len_succ hl
    obtain ⟨v1, vs, rfl, hl2⟩ := len_succ hl1
    obtain ⟨v2, vs, rfl, hl3⟩ := len_succ hl2
    obtain ⟨v3, vs, rfl, hl4⟩ := len_succ hl3
    obtain ⟨v4, vs, rfl, hl5⟩ := len_succ hl4
    obtain ⟨v5, vs, rfl, hl6⟩ := len_succ hl5
    obtain ⟨v6, vs, rfl, hl7⟩ := len_succ hl6
    obtain ⟨v7, vs, rfl, hl8⟩ := len_succ hl7
    obtain ⟨v8, vs, rfl, hl9⟩ := len_succ hl8
    obtain ⟨v9, vs, rfl, hl10⟩ := len_succ hl9
    obtain ⟨v10, vs, rfl, hl11⟩ := len_succ hl10
    obtain ⟨v11, vs, rfl, hl12⟩ := len_succ hl11
    obtain rfl := len_zero hl12
    have dd := hd 1 (by simp) _ rfl; simp only [List.getD_cons_zero, List.getD_cons_succ] at dd; obtain rfl := dd
    simp only [List.getD_cons_zero, List.getD_cons_succ] at hg
    obtain rfl := hg
    clear hd hl hl1 hl2 hl3 hl4 hl5 hl6 hl7 hl8 hl9 hl10 hl11 hl12
    replace hK := hK.out undef
    simp only [putsO, List.set_cons_zero, List.set_cons_succ, Act.put, List.setIfInBounds_toArray] at hK ⊢
    have hK' : Shut _ := hK
    clear hK
    go_simp
    (try go_wp2_with fail)
    exact hK'.out
  · refine ⟨.fill ⟨7, 10, (.int .u64 (k1 : Nat)), (.int .u64 (k2 : Nat))⟩, [7, 3], by decide, by simp, rfl, by simp, by simp, by simp, by simp, (fun D hD => by cases hD; exact fun _ _ => trivial), fun vs w g hl hd hg c0 c1 f0 f1 K hK => ?_⟩
    obtain ⟨v0, vs, rfl, hl1⟩ := len_succ hl
    obtain ⟨v1, vs, rfl, hl2⟩ := len_succ hl1
    obtain ⟨v2, vs, rfl, hl3⟩ := len_succ hl2
    obtain ⟨v3, vs, rfl, hl4⟩ := len_succ hl3
    obtain ⟨v4, vs, rfl, hl5⟩ := len_succ hl4
    obtain ⟨v5, vs, rfl, hl6⟩ := len_succ hl5
    obtain ⟨v6, vs, rfl, hl7⟩ := len_succ hl6
    obtain ⟨v7, vs, rfl, hl8⟩ := len_succ hl7
    obtain ⟨v8, vs, rfl, hl9⟩ := len_succ hl8
    obtain ⟨v9, vs, rfl, hl10⟩ := len_succ hl9
    obtain ⟨v10, vs, rfl, hl11⟩ := len_succ hl10
    obtain ⟨v11, vs, rfl, hl12⟩ := len_succ hl11
    obtain rfl := len_zero hl12
    have dd := hd 3 (by simp) _ rfl; simp only [List.getD_cons_zero, List.getD_cons_succ] at dd; obtain rfl := dd
    simp only [List.getD_cons_zero, List.getD_cons_succ] at hg
    obtain rfl := hg
    clear hd hl hl1 hl2 hl3 hl4 hl5 hl6 hl7 hl8 hl9 hl10 hl11 hl12
    replace hK := hK.out undef
    simp only [putsO, List.set_cons_zero, List.set_cons_succ, Act.put, List.setIfInBounds_toArray] at hK ⊢
    have hK' : Shut _ := hK
    clear hK
    go_simp
    (try go_wp2_with fail)
    exact hK'.out
  · refine ⟨.fill ⟨8, 11, (.int .u64 (p1 : Nat)), (.int .u64 (p2 : Nat))⟩, [8, 5], by decide, by simp, rfl, by simp, by simp, by simp, by simp, (fun D hD => by cases hD; exact fun _ _ => trivial), fun vs w g hl hd hg c0 c1 f0 f1 K hK => ?_⟩
    obtain ⟨v0, vs, rfl, hl1⟩ := len_succ hl
    obtain ⟨v1, vs, rfl, hl2⟩ := len_succ hl1
    obtain ⟨v2, vs, rfl, hl3⟩ := len_succ hl2
    obtain ⟨v3, vs, rfl, hl4⟩ := len_succ hl3
    obtain ⟨v4, vs, rfl, hl5⟩ := len_succ hl4
    obtain ⟨v5, vs, rfl, hl6⟩ := len_succ hl5
    obtain ⟨v6, vs, rfl, hl7⟩ := len_succ hl6
    obtain ⟨v7, vs, rfl, hl8⟩ := len_succ hl7
    obtain ⟨v8, vs, rfl, hl9⟩ := len_succ hl8
    obtain ⟨v9, vs, rfl, hl10⟩ := len_succ hl9
    obtain ⟨v10, vs, rfl, hl11⟩ := len_succ hl10
    obtain ⟨v11, vs, rfl, hl12⟩ := len_succ hl11
    obtain rfl := len_zero hl12
    have dd := hd 5 (by simp) _ rfl; simp only [List.getD_cons_zero, List.getD_cons_succ] at dd; obtain rfl := dd
    simp only [List.getD_cons_zero, List.getD_cons_succ] at hg
    obtain rfl := hg
    clear hd hl hl1 hl2 hl3 hl4 hl5 hl6 hl7 hl8 hl9 hl10 hl11 hl12
    replace hK := hK.out undef
    simp only [putsO, List.set_cons_zero, List.set_cons_succ, Act.put, List.setIfInBounds_toArray] at hK ⊢
    have hK' : Shut _ := hK
    clear hK
    go_simp
    (try go_wp2_with fail)
    exact hK'.out
  · intro vs w1 hl hR hd hbx hne
    obtain ⟨v0, vs, rfl, hl1⟩ := len_succ hl
    obtain ⟨v1, vs, rfl, hl2⟩ := len_succ hl1
    obtain ⟨v2, vs, rfl, hl3⟩ := len_succ hl2
    obtain ⟨v3, vs, rfl, hl4⟩ := len_succ hl3
    obtain ⟨v4, vs, rfl, hl5⟩ := len_succ hl4
    obtain ⟨v5, vs, rfl, hl6⟩ := len_succ hl5
    obtain ⟨v6, vs, rfl, hl7⟩ := len_succ hl6
    obtain ⟨v7, vs, rfl, hl8⟩ := len_succ hl7
    obtain ⟨v8, vs, rfl, hl9⟩ := len_succ hl8
    obtain ⟨v9, vs, rfl, hl10⟩ := len_succ hl9
    obtain ⟨v10, vs, rfl, hl11⟩ := len_succ hl10
    obtain ⟨v11, vs, rfl, hl12⟩ := len_succ hl11
    obtain rfl := len_zero hl12
    obtain ⟨g0, e0, hg0, hh0⟩ := hbx ⟨6, 9, (.int .u64 (m1 : Nat)), (.int .u64 (m2 : Nat))⟩ (by simp) (by simp) (by simp)
    simp only [List.getD_cons_zero, List.getD_cons_succ] at e0
    obtain ⟨g1, e1, hg1, hh1⟩ := hbx ⟨7, 10, (.int .u64 (k1 : Nat)), (.int .u64 (k2 : Nat))⟩ (by simp) (by simp) (by simp)
    simp only [List.getD_cons_zero, List.getD_cons_succ] at e1
    obtain ⟨g2, e2, hg2, hh2⟩ := hbx ⟨8, 11, (.int .u64 (p1 : Nat)), (.int .u64 (p2 : Nat))⟩ (by simp) (by simp) (by simp)
    simp only [List.getD_cons_zero, List.getD_cons_succ] at e2
    obtain rfl := e0
    obtain rfl := e1
    obtain rfl := e2
    clear hd hbx hl hl1 hl2 hl3 hl4 hl5 hl6 hl7 hl8 hl9 hl10 hl11 hl12
    simp only [putsO, List.set_cons_zero, List.set_cons_succ, Act.put, List.setIfInBounds_toArray]
    have hA0 := at2_of hh0
    have hA1 := at2_of hh1
    have hA2 := at2_of hh2
    have hB := step_call HBW.out (HB0.out.trans (hR.mono HB0.out.size))
    clear hh0 hh1 hh2 hg0 hg1 hg2 hne hR HB0
    go_wp2_with fail
    have tk0 : Nat := 0
    have tk1 : Nat := 0
    have tk2 : Nat := 0
    have hdr : Below w1.heap.size w1 w1.drew := (Below.refl _ _).drew
    replace hA0 := hA0.below hdr
    replace hA1 := hA1.below hdr
    replace hA2 := hA2.below hdr
    replace hB := step_call hB hdr
    clear hdr
    have q0 := hA0.1
    have q1 := hA0.2.1
    have q2 := hA1.1
    have q3 := hA1.2.1
    have q4 := hA2.1
    have q5 := hA2.2.1
    refine wp_region_noPanic ?_
    refine region_ord (S := fun w' => w'.cell? ⟨g0, 0, none⟩ = some (.int .u64 (m1 : Nat)) ∧ w'.cell? ⟨g0, 1, none⟩ = some (.int .u64 (m2 : Nat)) ∧ w'.cell? ⟨g1, 0, none⟩ = some (.int .u64 (k1 : Nat)) ∧ w'.cell? ⟨g1, 1, none⟩ = some (.int .u64 (k2 : Nat)) ∧ w'.cell? ⟨g2, 0, none⟩ = some (.int .u64 (p1 : Nat)) ∧ w'.cell? ⟨g2, 1, none⟩ = some (.int .u64 (p2 : Nat))) [0, 2, 1, 3, 4, 5] (by kernel_rfl) (by decide +kernel) (fun _ _ _ _ _ h => h) (⟨q0, q1, q2, q3, q4, q5⟩) (fun _ => ?_)
    repeat (first
      | (refine ord_skip rfl rfl rfl ?_; (try simp only [Act.put, List.setIfInBounds_toArray, List.set_cons_zero, List.set_cons_succ]))
      | (refine' ord_light (v := _) rfl rfl rfl (fun w' hSw => ?_) ?_; rotate_left; (focus ((try dsimp only at hSw); go_simp <;> (with_reducible rfl))); (try simp only [Act.put, List.setIfInBounds_toArray, List.set_cons_zero, List.set_cons_succ]))
      | (refine ord_heavy rfl rfl (fun K hK => ?_); go_simp; (clear tk0; (go_at_call 18; (with_reducible refine (lawmake_c _ _ _ _ HC.out EX).mono ?_); rintro e w2 ⟨a2, n2, c2, b2, m2', d2, rfl, hc2, hb⟩; clear q0 q1 q2 q3 q4 q5; have hA0 := hA0.below hb; have hA1 := hA1.below hb; have hA2 := hA2.below hb; have hB := step_call hB hb; have q0 := hA0.1; have q1 := hA0.2.1; have q2 := hA1.1; have q3 := hA1.2.1; have q4 := hA2.1; have q5 := hA2.2.1; clear hb)); (try go_wp2_with fail); refine hK.out _ _ (⟨q0, q1, q2, q3, q4, q5⟩) ?_; clear hK K; (try simp only [Act.put, List.setIfInBounds_toArray, List.set_cons_zero, List.set_cons_succ]))
      | (refine ord_heavy rfl rfl (fun K hK => ?_); go_simp; (clear tk1; (go_at_call 18; (with_reducible refine (lawmake_c _ _ _ _ HK.out EY).mono ?_); rintro e w3 ⟨a3, n3, c3, b3, m3', d3, rfl, hc3, hb⟩; clear q0 q1 q2 q3 q4 q5; have hA0 := hA0.below hb; have hA1 := hA1.below hb; have hA2 := hA2.below hb; have hB := step_call hB hb; have q0 := hA0.1; have q1 := hA0.2.1; have q2 := hA1.1; have q3 := hA1.2.1; have q4 := hA2.1; have q5 := hA2.2.1; have hc2 := hc2.below hb; clear hb)); (try go_wp2_with fail); refine hK.out _ _ (⟨q0, q1, q2, q3, q4, q5⟩) ?_; clear hK K; (try simp only [Act.put, List.setIfInBounds_toArray, List.set_cons_zero, List.set_cons_succ]))
      | (refine ord_heavy rfl rfl (fun K hK => ?_); go_simp; (clear tk2; (go_at_call 27; (with_reducible refine (compare_z _ _ _ _ _ _ _ _ _ _ _ _ _ _ _ _ hc2 hc3 (HW.out.below hB).tz EZ).mono ?_); rintro e w4 ⟨rfl, hb⟩; clear q0 q1 q2 q3 q4 q5; have hA0 := hA0.below hb; have hA1 := hA1.below hb; have hA2 := hA2.below hb; have hB := step_call hB hb; have q0 := hA0.1; have q1 := hA0.2.1; have q2 := hA1.1; have q3 := hA1.2.1; have q4 := hA2.1; have q5 := hA2.2.1; clear hb hc2 hc3)); (try go_wp2_with fail); refine hK.out _ _ (⟨q0, q1, q2, q3, q4, q5⟩) ?_; clear hK K; (try simp only [Act.put, List.setIfInBounds_toArray, List.set_cons_zero, List.set_cons_succ]))
      | (refine ord_heavy rfl rfl (fun K hK => ?_); go_simp; (try go_wp2_with fail); refine hK.out _ _ (⟨q0, q1, q2, q3, q4, q5⟩) ?_; clear hK K; (try simp only [Act.put, List.setIfInBounds_toArray, List.set_cons_zero, List.set_cons_succ])))
    refine ord_nil (NoPanic.normal ?_)
    go_wp2_with fail
    clear q0 q1 q2 q3 q4 q5
    have tk10 : Nat := 0
    have tk11 : Nat := 0
    have tk12 : Nat := 0
    have tk13 : Nat := 0
    have tk14 : Nat := 0
    have tk15 : Nat := 0
    have tk16 : Nat := 0
    have hdr : Below w4.heap.size w4 w4.drew := (Below.refl _ _).drew
    replace hA0 := hA0.below hdr
    replace hA1 := hA1.below hdr
    replace hA2 := hA2.below hdr
    replace hB := step_call hB hdr
    clear hdr
    have q0 := hA0.1
    have q1 := hA0.2.1
    have q2 := hA1.1
    have q3 := hA1.2.1
    have q4 := hA2.1
    have q5 := hA2.2.1
    refine wp_region_noPanic ?_
    refine region_ord (S := fun w' => w'.cell? ⟨g0, 0, none⟩ = some (.int .u64 (m1 : Nat)) ∧ w'.cell? ⟨g0, 1, none⟩ = some (.int .u64 (m2 : Nat)) ∧ w'.cell? ⟨g1, 0, none⟩ = some (.int .u64 (k1 : Nat)) ∧ w'.cell? ⟨g1, 1, none⟩ = some (.int .u64 (k2 : Nat)) ∧ w'.cell? ⟨g2, 0, none⟩ = some (.int .u64 (p1 : Nat)) ∧ w'.cell? ⟨g2, 1, none⟩ = some (.int .u64 (p2 : Nat))) [0, 1, 2, 3, 4, 5, 6, 8, 11, 12, 7, 9, 10, 13, 14, 15, 16, 17, 18, 19, 20, 21, 22, 23, 24, 26, 29, 30, 31, 25, 27, 28, 32, 33, 34, 35, 36, 37, 38, 40, 39, 41, 42, 43, 44, 45, 46, 48, 47, 49, 50, 51, 52, 53, 54] (by kernel_rfl) (by decide +kernel) (fun _ _ _ _ _ h => h) (⟨q0, q1, q2, q3, q4, q5⟩) (fun _ => ?_)
    repeat (first
      | (refine ord_skip rfl rfl rfl ?_; (try simp only [Act.put, List.setIfInBounds_toArray, List.set_cons_zero, List.set_cons_succ]))
      | (refine' ord_light (v := _) rfl rfl rfl (fun w' hSw => ?_) ?_; rotate_left; (focus ((try dsimp only at hSw); go_simp <;> (first | (with_reducible rfl) | (rw [two_if HNE.out])))); (try simp only [Act.put, List.setIfInBounds_toArray, List.set_cons_zero, List.set_cons_succ]))
      | (refine ord_heavy rfl rfl (fun K hK => ?_); go_simp; (clear tk10; (go_at_call 28; (with_reducible refine (rcompareM_any _ _ _ _ _ _ HC.out HK.out EZM).mono ?_); rintro e w5 ⟨rfl, hb⟩; clear q0 q1 q2 q3 q4 q5; have hA0 := hA0.below hb; have hA1 := hA1.below hb; have hA2 := hA2.below hb; have hB := step_call hB hb; have q0 := hA0.1; have q1 := hA0.2.1; have q2 := hA1.1; have q3 := hA1.2.1; have q4 := hA2.1; have q5 := hA2.2.1; clear hb)); (try go_wp2_with fail); refine hK.out _ _ (⟨q0, q1, q2, q3, q4, q5⟩) ?_; clear hK K; (try simp only [Act.put, List.setIfInBounds_toArray, List.set_cons_zero, List.set_cons_succ]))
      | (refine ord_heavy rfl rfl (fun K hK => ?_); go_simp; (clear tk11; (go_at_call 18; (with_reducible refine (lawmake_c _ _ _ _ HK.out EY).mono ?_); rintro e w6 ⟨a6, n6, c6, b6, m6', d6, rfl, hc6, hb⟩; clear q0 q1 q2 q3 q4 q5; have hA0 := hA0.below hb; have hA1 := hA1.below hb; have hA2 := hA2.below hb; have hB := step_call hB hb; have q0 := hA0.1; have q1 := hA0.2.1; have q2 := hA1.1; have q3 := hA1.2.1; have q4 := hA2.1; have q5 := hA2.2.1; clear hb)); (try go_wp2_with fail); refine hK.out _ _ (⟨q0, q1, q2, q3, q4, q5⟩) ?_; clear hK K; (try simp only [Act.put, List.setIfInBounds_toArray, List.set_cons_zero, List.set_cons_succ]))
      | (refine ord_heavy rfl rfl (fun K hK => ?_); go_simp; (clear tk12; (go_at_call 18; (with_reducible refine (lawmake_c _ _ _ _ HC.out EX).mono ?_); rintro e w7 ⟨a7, n7, c7, b7, m7', d7, rfl, hc7, hb⟩; clear q0 q1 q2 q3 q4 q5; have hA0 := hA0.below hb; have hA1 := hA1.below hb; have hA2 := hA2.below hb; have hB := step_call hB hb; have q0 := hA0.1; have q1 := hA0.2.1; have q2 := hA1.1; have q3 := hA1.2.1; have q4 := hA2.1; have q5 := hA2.2.1; have hc6 := hc6.below hb; clear hb)); (try go_wp2_with fail); refine hK.out _ _ (⟨q0, q1, q2, q3, q4, q5⟩) ?_; clear hK K; (try simp only [Act.put, List.setIfInBounds_toArray, List.set_cons_zero, List.set_cons_succ]))
      | (refine ord_heavy rfl rfl (fun K hK => ?_); go_simp; (clear tk13; (go_at_call 27; (with_reducible refine (compare_z _ _ _ _ _ _ _ _ _ _ _ _ _ _ _ _ hc6 hc7 (HW.out.below hB).tz EN).mono ?_); rintro e w8 ⟨rfl, hb⟩; clear q0 q1 q2 q3 q4 q5; have hA0 := hA0.below hb; have hA1 := hA1.below hb; have hA2 := hA2.below hb; have hB := step_call hB hb; have q0 := hA0.1; have q1 := hA0.2.1; have q2 := hA1.1; have q3 := hA1.2.1; have q4 := hA2.1; have q5 := hA2.2.1; clear hb hc6 hc7)); (try go_wp2_with fail); refine hK.out _ _ (⟨q0, q1, q2, q3, q4, q5⟩) ?_; clear hK K; (try simp only [Act.put, List.setIfInBounds_toArray, List.set_cons_zero, List.set_cons_succ]))
      | (refine ord_heavy rfl rfl (fun K hK => ?_); go_simp; (clear tk14; (go_at_call 18; (with_reducible refine (lawmake_c _ _ _ _ HC.out EX).mono ?_); rintro e w9 ⟨a9, n9, c9, b9, m9', d9, rfl, hc9, hb⟩; clear q0 q1 q2 q3 q4 q5; have hA0 := hA0.below hb; have hA1 := hA1.below hb; have hA2 := hA2.below hb; have hB := step_call hB hb; have q0 := hA0.1; have q1 := hA0.2.1; have q2 := hA1.1; have q3 := hA1.2.1; have q4 := hA2.1; have q5 := hA2.2.1; clear hb)); (try go_wp2_with fail); refine hK.out _ _ (⟨q0, q1, q2, q3, q4, q5⟩) ?_; clear hK K; (try simp only [Act.put, List.setIfInBounds_toArray, List.set_cons_zero, List.set_cons_succ]))
      | (refine ord_heavy rfl rfl (fun K hK => ?_); go_simp; (clear tk15; (go_at_call 18; (with_reducible refine (lawmake_c _ _ _ _ HK.out EY).mono ?_); rintro e w10 ⟨a10, n10, c10, b10, m10', d10, rfl, hc10, hb⟩; clear q0 q1 q2 q3 q4 q5; have hA0 := hA0.below hb; have hA1 := hA1.below hb; have hA2 := hA2.below hb; have hB := step_call hB hb; have q0 := hA0.1; have q1 := hA0.2.1; have q2 := hA1.1; have q3 := hA1.2.1; have q4 := hA2.1; have q5 := hA2.2.1; have hc9 := hc9.below hb; clear hb)); (try go_wp2_with fail); refine hK.out _ _ (⟨q0, q1, q2, q3, q4, q5⟩) ?_; clear hK K; (try simp only [Act.put, List.setIfInBounds_toArray, List.set_cons_zero, List.set_cons_succ]))
      | (refine ord_heavy rfl rfl (fun K hK => ?_); go_simp; (clear tk16; (go_at_call 29; (with_reducible refine (equal_z _ _ _ _ _ _ _ _ _ _ _ _ _ _ _ _ hc9 hc10 EQ).mono ?_); rintro e w11 ⟨rfl, hb⟩; clear q0 q1 q2 q3 q4 q5; have hA0 := hA0.below hb; have hA1 := hA1.below hb; have hA2 := hA2.below hb; have hB := step_call hB hb; have q0 := hA0.1; have q1 := hA0.2.1; have q2 := hA1.1; have q3 := hA1.2.1; have q4 := hA2.1; have q5 := hA2.2.1; clear hb hc9 hc10)); (try go_wp2_with fail); refine hK.out _ _ (⟨q0, q1, q2, q3, q4, q5⟩) ?_; clear hK K; (try simp only [Act.put, List.setIfInBounds_toArray, List.set_cons_zero, List.set_cons_succ]))
      | (refine ord_heavy rfl rfl (fun K hK => ?_); go_simp; (try go_wp2_with fail); refine hK.out _ _ (⟨q0, q1, q2, q3, q4, q5⟩) ?_; clear hK K; (try simp only [Act.put, List.setIfInBounds_toArray, List.set_cons_zero, List.set_cons_succ])))
    refine ord_nil (NoPanic.normal ?_)
    go_wp2_with fail
    go_ret
    exact ⟨rfl, hB⟩
end Go.Proofs.YtadomogbakcokaaGreatDoor
