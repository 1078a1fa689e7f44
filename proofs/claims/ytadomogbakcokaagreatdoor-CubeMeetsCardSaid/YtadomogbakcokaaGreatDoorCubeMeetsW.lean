/- The walk of CubeMeets. -/
import Derived.Test.YtadomogbakcokaaGreatDoorCvR
namespace Go.Proofs.YtadomogbakcokaaGreatDoor
open Go.RowKit Go.PlainAid
set_option linter.unusedVariables false
set_option linter.unusedSimpArgs false
set_option maxHeartbeats 40000000
set_option maxRecDepth 20000

theorem cubeMeets_walk (r t : Rx) (w : World) (hW : Wld w) (hr : RxOk r) (ht : RxOk t) :
    Calls Tryz.prog 7 #[.agg #[.int .u8 (r.1 : Nat), .int .u8 (r.2.1 : Nat), .bool r.2.2], .agg #[.int .u8 (t.1 : Nat), .int .u8 (t.2.1 : Nat), .bool t.2.2]] w fun e w' => e = .returned (.bool true) ∧ Below w.heap.size w w' := by
  obtain ⟨r1, r2, r3⟩ := r
  obtain ⟨t1, t2, t3⟩ := t
  have HW := Lib.hid hW
  have HRX := Lib.hid hr
  have HTX := Lib.hid ht
  have hc8 := fitM_ok (r1, r2, r3)
  have hk8 := fitM_ok (t1, t2, t3)
  obtain ⟨⟨m1, m2⟩, em⟩ : ∃ m, fitM (r1, r2, r3) = m := ⟨_, rfl⟩
  obtain ⟨⟨k1, k2⟩, ek⟩ : ∃ m, fitM (t1, t2, t3) = m := ⟨_, rfl⟩
  rw [em] at hc8
  rw [ek] at hk8
  have EF := Lib.hid em
  have EK := Lib.hid ek
  have HC8 := Lib.hid hc8
  have HC := Lib.hid hc8.ok
  have HK8 := Lib.hid hk8
  have HK := Lib.hid hk8.ok
  obtain ⟨X, eX⟩ : ∃ X, cuM (m1, m2) = X := ⟨_, rfl⟩
  obtain ⟨Y, eY⟩ : ∃ Y, cuM (k1, k2) = Y := ⟨_, rfl⟩
  have EX := Lib.hid eX
  have EY := Lib.hid eY
  obtain ⟨z, ez⟩ : ∃ z, emptyM (bothM (m1, m2) (k1, k2)) = z := ⟨_, rfl⟩
  have hmt := meet_cuM hc8.ok hk8.ok ez
  have hbo := bothM_ok hc8.ok hk8.ok
  obtain ⟨p, ep⟩ : ∃ p, withinM (m1, m2) (k1, k2) = p := ⟨_, rfl⟩
  obtain ⟨q, eq⟩ : ∃ q, withinM (k1, k2) (m1, m2) = q := ⟨_, rfl⟩
  have EP2 := Lib.hid ep
  have EQ2 := Lib.hid eq
  have EP : Hid (withinC X Y = p) := by show _ = _; rw [← eX, ← eY, within_cuM hc8 hk8]; exact ep
  have EQ : Hid (withinC Y X = q) := by show _ = _; rw [← eX, ← eY, within_cuM hk8 hc8]; exact eq
  rw [eX, eY] at hmt
  obtain ⟨Z, eZ⟩ : ∃ Z, cuM (if z then (0, 0) else bothM (m1, m2) (k1, k2)) = Z := ⟨_, rfl⟩
  rw [eZ] at hmt
  obtain ⟨o, eo⟩ : ∃ o, (!z) = o := ⟨_, rfl⟩
  rw [eo] at hmt
  have EO := Lib.hid hmt.1
  have EZ := Lib.hid hmt.2
  obtain ⟨s1, hs1⟩ : ∃ s1, m1 ||| k1 = s1 := ⟨_, rfl⟩
  obtain ⟨s2, hs2⟩ : ∃ s2, m2 ||| k2 = s2 := ⟨_, rfl⟩
  have ebo : bothM (m1, m2) (k1, k2) = (s1, s2) := by show (m1 ||| k1, m2 ||| k2) = _; rw [hs1, hs2]
  rw [ebo] at ez hbo eZ
  have HS1 : Hid (bits BinOp.or .u64 (m1 : Nat) (k1 : Nat) = (s1 : Nat)) := by show _ = _; rw [← hs1]; exact u64_or_nat _ _ hc8.ok.1 hk8.ok.1
  have HS2 : Hid (bits BinOp.or .u64 (m2 : Nat) (k2 : Nat) = (s2 : Nat)) := by show _ = _; rw [← hs2]; exact u64_or_nat _ _ hc8.ok.2 hk8.ok.2
  have EE := Lib.hid ez
  have HO := Lib.hid hbo
  have EZ2 := Lib.hid eZ
  have EO2 := Lib.hid eo
  clear hW hr ht em ek hc8 hk8 eX eY hmt ez hbo ep eq eZ eo hs1 hs2 ebo
  dsimp only
  obtain ⟨W0, hW0⟩ : ∃ W0, W0 = (w.alloc (.cells #[.int .u8 (r1 : Nat), .int .u8 (r2 : Nat), .bool r3] 46)).alloc (.cells #[.int .u8 (t1 : Nat), .int .u8 (t2 : Nat), .bool t3] 46) := ⟨_, rfl⟩
  have HQ : Hid (∀ wr, Below W0.heap.size W0 wr → (wr.cell? ⟨w.heap.size, 0, none⟩ = some (.int .u8 (r1 : Nat)) ∧ wr.cell? ⟨w.heap.size, 1, none⟩ = some (.int .u8 (r2 : Nat)) ∧ wr.cell? ⟨w.heap.size, 2, none⟩ = some (.bool r3)) ∧ (wr.cell? ⟨w.heap.size + 1, 0, none⟩ = some (.int .u8 (t1 : Nat)) ∧ wr.cell? ⟨w.heap.size + 1, 1, none⟩ = some (.int .u8 (t2 : Nat)) ∧ wr.cell? ⟨w.heap.size + 1, 2, none⟩ = some (.bool t3))) := by
    rw [hW0]; exact fun wr hb => two_raw hb
  have hbW : Below w.heap.size w W0 := by rw [hW0]; exact ((Below.refl _ w).alloc (Nat.le_refl _) _).alloc (by simp) _
  have HBW := Lib.hid hbW
  clear hbW
  go_enter Tryz.func7, Tryz.ntmps7
  go_upto_region 3 with (go_at_call 15; rw [← hW0]; clear hW0; (with_reducible refine (awake_any _ (HW.out.below HBW.out)).mono ?_); rintro e w0 ⟨rfl, hb⟩; have HB0 := Lib.hid hb; clear hb)
  refine region_boxes 28 (.int .u64 0) _ [⟨4, 6, (.int .u64 (m1 : Nat)), (.int .u64 (m2 : Nat))⟩, ⟨5, 7, (.int .u64 (k1 : Nat)), (.int .u64 (k2 : Nat))⟩] [some 12, some 13, some 14, some 15, some 5, some 6, none, none]
    [fun v w => v = .agg #[.int .u8 (r1 : Nat), .int .u8 (r2 : Nat), .bool r3],
     fun v w => v = .agg #[.int .u64 (m1 : Nat), .int .u64 (m2 : Nat)],
     fun v w => v = .agg #[.int .u8 (t1 : Nat), .int .u8 (t2 : Nat), .bool t3],
     fun v w => v = .agg #[.int .u64 (k1 : Nat), .int .u64 (k2 : Nat)],
     fun _ _ => True,
     fun _ _ => True,
     fun _ _ => True,
     fun _ _ => True] (by kernel_rfl) (by kernel_rfl) rfl [undef, undef, undef, undef, undef, undef, undef, undef] (by simp only [putsO, List.set_cons_zero, List.set_cons_succ, Act.put, List.setIfInBounds_toArray]) rfl rfl (by simp) ?_ ?_ ⟨?_, ?_, ?_, ?_, ?_, ?_, ?_, ?_, trivial⟩ ?_
  · intro j D hj v w w' hb hD
    match j, hj with
    | 0, hj => cases hj; exact hD
    | 1, hj => cases hj; exact hD
    | 2, hj => cases hj; exact hD
    | 3, hj => cases hj; exact hD
    | 4, hj => cases hj; exact hD
    | 5, hj => cases hj; exact hD
    | 6, hj => cases hj; exact hD
    | 7, hj => cases hj; exact hD
    | j + 8, hj => cases hj
  · intro j D hj v w g k u hc hD
    match j, hj with
    | 0, hj => cases hj; exact hD
    | 1, hj => cases hj; exact hD
    | 2, hj => cases hj; exact hD
    | 3, hj => cases hj; exact hD
    | 4, hj => cases hj; exact hD
    | 5, hj => cases hj; exact hD
    | 6, hj => cases hj; exact hD
    | 7, hj => cases hj; exact hD
    | j + 8, hj => cases hj
  · refine ⟨.plain, [], by decide, by simp, fun vs w hl hR hd K hK => ?_⟩
    obtain ⟨v0, vs, rfl, hl1⟩ := len_succ hl
    obtain ⟨v1, vs, rfl, hl2⟩ := len_succ hl1
    obtain ⟨v2, vs, rfl, hl3⟩ := len_succ hl2
    obtain ⟨v3, vs, rfl, hl4⟩ := len_succ hl3
    obtain ⟨v4, vs, rfl, hl5⟩ := len_succ hl4
    obtain ⟨v5, vs, rfl, hl6⟩ := len_succ hl5
    obtain ⟨v6, vs, rfl, hl7⟩ := len_succ hl6
    obtain ⟨v7, vs, rfl, hl8⟩ := len_succ hl7
    obtain rfl := len_zero hl8
    clear hd hl hl1 hl2 hl3 hl4 hl5 hl6 hl7 hl8
    replace hK := hK.out
    simp only [putsO, List.set_cons_zero, List.set_cons_succ, Act.put, List.setIfInBounds_toArray] at hK ⊢
    have hK' : Shut _ := hK
    clear hK
    have q0 := (HQ.out _ (HB0.out.trans (hR.mono HB0.out.size))).1.1; have q1 := (HQ.out _ (HB0.out.trans (hR.mono HB0.out.size))).1.2.1; have q2 := (HQ.out _ (HB0.out.trans (hR.mono HB0.out.size))).1.2.2
    go_simp
    (try go_wp2_with fail)
    exact hK'.out _ _ (Below.refl _ _) (fun D hD => by cases hD; rfl)
  · refine ⟨.plain, [0], by decide, by simp, fun vs w hl hR hd K hK => ?_⟩
    obtain ⟨v0, vs, rfl, hl1⟩ := len_succ hl
    obtain ⟨v1, vs, rfl, hl2⟩ := len_succ hl1
    obtain ⟨v2, vs, rfl, hl3⟩ := len_succ hl2
    obtain ⟨v3, vs, rfl, hl4⟩ := len_succ hl3
    obtain ⟨v4, vs, rfl, hl5⟩ := len_succ hl4
    obtain ⟨v5, vs, rfl, hl6⟩ := len_succ hl5
    obtain ⟨v6, vs, rfl, hl7⟩ := len_succ hl6
    obtain ⟨v7, vs, rfl, hl8⟩ := len_succ hl7
    obtain rfl := len_zero hl8
    have dd := hd 0 (by simp) _ rfl; simp only [List.getD_cons_zero, List.getD_cons_succ] at dd; obtain rfl := dd
    clear hd hl hl1 hl2 hl3 hl4 hl5 hl6 hl7 hl8
    replace hK := hK.out
    simp only [putsO, List.set_cons_zero, List.set_cons_succ, Act.put, List.setIfInBounds_toArray] at hK ⊢
    have hK' : Shut _ := hK
    clear hK
    go_simp
    go_at_call 26; (with_reducible refine (rfit_c _ _ _ _ _ _ HRX.out EF).mono ?_); rintro e w2 ⟨rfl, hb⟩
    (try go_wp2_with fail)
    exact hK'.out _ _ (hb) (fun D hD => by cases hD; rfl)
  · refine ⟨.plain, [], by decide, by simp, fun vs w hl hR hd K hK => ?_⟩
    obtain ⟨v0, vs, rfl, hl1⟩ := len_succ hl
    obtain ⟨v1, vs, rfl, hl2⟩ := len_succ hl1
    obtain ⟨v2, vs, rfl, hl3⟩ := len_succ hl2
    obtain ⟨v3, vs, rfl, hl4⟩ := len_succ hl3
    obtain ⟨v4, vs, rfl, hl5⟩ := len_succ hl4
    obtain ⟨v5, vs, rfl, hl6⟩ := len_succ hl5
    obtain ⟨v6, vs, rfl, hl7⟩ := len_succ hl6
    obtain ⟨v7, vs, rfl, hl8⟩ := len_succ hl7
    obtain rfl := len_zero hl8
    clear hd hl hl1 hl2 hl3 hl4 hl5 hl6 hl7 hl8
    replace hK := hK.out
    simp only [putsO, List.set_cons_zero, List.set_cons_succ, Act.put, List.setIfInBounds_toArray] at hK ⊢
    have hK' : Shut _ := hK
    clear hK
    have q0 := (HQ.out _ (HB0.out.trans (hR.mono HB0.out.size))).2.1; have q1 := (HQ.out _ (HB0.out.trans (hR.mono HB0.out.size))).2.2.1; have q2 := (HQ.out _ (HB0.out.trans (hR.mono HB0.out.size))).2.2.2
    go_simp
    (try go_wp2_with fail)
    exact hK'.out _ _ (Below.refl _ _) (fun D hD => by cases hD; rfl)
  · refine ⟨.plain, [2], by decide, by simp, fun vs w hl hR hd K hK => ?_⟩
    obtain ⟨v0, vs, rfl, hl1⟩ := len_succ hl
    obtain ⟨v1, vs, rfl, hl2⟩ := len_succ hl1
    obtain ⟨v2, vs, rfl, hl3⟩ := len_succ hl2
    obtain ⟨v3, vs, rfl, hl4⟩ := len_succ hl3
    obtain ⟨v4, vs, rfl, hl5⟩ := len_succ hl4
    obtain ⟨v5, vs, rfl, hl6⟩ := len_succ hl5
    obtain ⟨v6, vs, rfl, hl7⟩ := len_succ hl6
    obtain ⟨v7, vs, rfl, hl8⟩ := len_succ hl7
    obtain rfl := len_zero hl8
    have dd := hd 2 (by simp) _ rfl; simp only [List.getD_cons_zero, List.getD_cons_succ] at dd; obtain rfl := dd
    clear hd hl hl1 hl2 hl3 hl4 hl5 hl6 hl7 hl8
    replace hK := hK.out
    simp only [putsO, List.set_cons_zero, List.set_cons_succ, Act.put, List.setIfInBounds_toArray] at hK ⊢
    have hK' : Shut _ := hK
    clear hK
    go_simp
    go_at_call 26; (with_reducible refine (rfit_c _ _ _ _ _ _ HTX.out EK).mono ?_); rintro e w2 ⟨rfl, hb⟩
    (try go_wp2_with fail)
    exact hK'.out _ _ (hb) (fun D hD => by cases hD; rfl)
  · refine ⟨.box ⟨4, 6, (.int .u64 (m1 : Nat)), (.int .u64 (m2 : Nat))⟩, [], by decide, by simp, rfl, by simp, (fun D hD => by cases hD; exact fun _ _ => trivial), fun vs w hl K hK => ?_⟩
    obtain ⟨v0, vs, rfl, hl1⟩ := len_succ hl
    obtain ⟨v1, vs, rfl, hl2⟩ := len_succ hl1
    obtain ⟨v2, vs, rfl, hl3⟩ := len_succ hl2
    obtain ⟨v3, vs, rfl, hl4⟩ := len_succ hl3
    obtain ⟨v4, vs, rfl, hl5⟩ := len_succ hl4
    obtain ⟨v5, vs, rfl, hl6⟩ := len_succ hl5
    obtain ⟨v6, vs, rfl, hl7⟩ := len_succ hl6
    obtain ⟨v7, vs, rfl, hl8⟩ := len_succ hl7
    obtain rfl := len_zero hl8
    clear hl hl1 hl2 hl3 hl4 hl5 hl6 hl7 hl8
    replace hK := hK.out
    simp only [putsO, List.set_cons_zero, List.set_cons_succ, Act.put, List.setIfInBounds_toArray] at hK ⊢
    have hK' : Shut _ := hK
    clear hK
    go_simp
    (try go_wp2_with fail)
    exact hK'.out
  · refine ⟨.box ⟨5, 7, (.int .u64 (k1 : Nat)), (.int .u64 (k2 : Nat))⟩, [], by decide, by simp, rfl, by simp, (fun D hD => by cases hD; exact fun _ _ => trivial), fun vs w hl K hK => ?_⟩
    obtain ⟨v0, vs, rfl, hl1⟩ := len_succ hl
    obtain ⟨v1, vs, rfl, hl2⟩ := len_succ hl1
    obtain ⟨v2, vs, rfl, hl3⟩ := len_succ hl2
    obtain ⟨v3, vs, rfl, hl4⟩ := len_succ hl3
    obtain ⟨v4, vs, rfl, hl5⟩ := len_succ hl4
    obtain ⟨v5, vs, rfl, hl6⟩ := len_succ hl5
    obtain ⟨v6, vs, rfl, hl7⟩ := len_succ hl6
    obtain ⟨v7, vs, rfl, hl8⟩ := len_succ hl7
    obtain rfl := len_zero hl8
    clear hl hl1 hl2 hl3 hl4 hl5 hl6 hl7 hl8
    replace hK := hK.out
    simp only [putsO, List.set_cons_zero, List.set_cons_succ, Act.put, List.setIfInBounds_toArray] at hK ⊢
    have hK' : Shut _ := hK
    clear hK
    go_simp
    (try go_wp2_with fail)
    exact hK'.out
  · refine ⟨.fill ⟨4, 6, (.int .u64 (m1 : Nat)), (.int .u64 (m2 : Nat))⟩, [4, 1], by decide, by simp, rfl, by simp, by simp, by simp, by simp, (fun D hD => by cases hD; exact fun _ _ => trivial), fun vs w g hl hd hg c0 c1 f0 f1 K hK => ?_⟩
    obtain ⟨v0, vs, rfl, hl1⟩ := len_succ hl
    obtain ⟨v1, vs, rfl, hl2⟩ := len_succ hl1
    obtain ⟨v2, vs, rfl, hl3⟩ := len_succ hl2
    obtain ⟨v3, vs, rfl, hl4⟩ := len_succ hl3
    obtain ⟨v4, vs, rfl, hl5⟩ := len_succ hl4
    obtain ⟨v5, vs, rfl, hl6⟩ := len_succ hl5
    obtain ⟨v6, vs, rfl, hl7⟩ := len_succ hl6
    obtain ⟨v7, vs, rfl, hl8⟩ := len_succ hl7
    obtain rfl := len_zero hl8
    have dd := hd 1 (by simp) _ rfl; simp only [List.getD_cons_zero, List.getD_cons_succ] at dd; obtain rfl := dd
    simp only [List.getD_cons_zero, List.getD_cons_succ] at hg
    obtain rfl := hg
    clear hd hl hl1 hl2 hl3 hl4 hl5 hl6 hl7 hl8
    replace hK := hK.out undef
    simp only [putsO, List.set_cons_zero, List.set_cons_succ, Act.put, List.setIfInBounds_toArray] at hK ⊢
    have hK' : Shut _ := hK
    clear hK
    go_simp
    (try go_wp2_with fail)
    exact hK'.out
  · refine ⟨.fill ⟨5, 7, (.int .u64 (k1 : Nat)), (.int .u64 (k2 : Nat))⟩, [5, 3], by decide, by simp, rfl, by simp, by simp, by simp, by simp, (fun D hD => by cases hD; exact fun _ _ => trivial), fun vs w g hl hd hg c0 c1 f0 f1 K hK => ?_⟩
    obtain ⟨v0, vs, rfl, hl1⟩ := len_succ hl
    obtain ⟨v1, vs, rfl, hl2⟩ := len_succ hl1
    obtain ⟨v2, vs, rfl, hl3⟩ := len_succ hl2
    obtain ⟨v3, vs, rfl, hl4⟩ := len_succ hl3
    obtain ⟨v4, vs, rfl, hl5⟩ := len_succ hl4
    obtain ⟨v5, vs, rfl, hl6⟩ := len_succ hl5
    obtain ⟨v6, vs, rfl, hl7⟩ := len_succ hl6
    obtain ⟨v7, vs, rfl, hl8⟩ := len_succ hl7
    obtain rfl := len_zero hl8
    have dd := hd 3 (by simp) _ rfl; simp only [List.getD_cons_zero, List.getD_cons_succ] at dd; obtain rfl := dd
    simp only [List.getD_cons_zero, List.getD_cons_succ] at hg
    obtain rfl := hg
    clear hd hl hl1 hl2 hl3 hl4 hl5 hl6 hl7 hl8
    replace hK := hK.out undef
    simp only [putsO, List.set_cons_zero, List.set_cons_succ, Act.put, List.setIfInBounds_toArray] at hK ⊢
    have hK' : Shut _ := hK
    clear hK
    go_simp
    (try go_wp2_with fail)
    exact hK'.out
  · intro vs w1 hl hR hd hbx hne
    obtain ⟨v0, vs, rfl, hl1⟩ := len_succ hl
    obtain ⟨v1, vs, rfl, hl2⟩ := len_succ hl1
    obtain ⟨v2, vs, rfl, hl3⟩ := len_succ hl2
    obtain ⟨v3, vs, rfl, hl4⟩ := len_succ hl3
    obtain ⟨v4, vs, rfl, hl5⟩ := len_succ hl4
    obtain ⟨v5, vs, rfl, hl6⟩ := len_succ hl5
    obtain ⟨v6, vs, rfl, hl7⟩ := len_succ hl6
    obtain ⟨v7, vs, rfl, hl8⟩ := len_succ hl7
    obtain rfl := len_zero hl8
    obtain ⟨g0, e0, hg0, hh0⟩ := hbx ⟨4, 6, (.int .u64 (m1 : Nat)), (.int .u64 (m2 : Nat))⟩ (by simp) (by simp) (by simp)
    simp only [List.getD_cons_zero, List.getD_cons_succ] at e0
    obtain ⟨g1, e1, hg1, hh1⟩ := hbx ⟨5, 7, (.int .u64 (k1 : Nat)), (.int .u64 (k2 : Nat))⟩ (by simp) (by simp) (by simp)
    simp only [List.getD_cons_zero, List.getD_cons_succ] at e1
    obtain rfl := e0
    obtain rfl := e1
    clear hd hbx hl hl1 hl2 hl3 hl4 hl5 hl6 hl7 hl8
    simp only [putsO, List.set_cons_zero, List.set_cons_succ, Act.put, List.setIfInBounds_toArray]
    have hA0 : At2T w1 g0 _ _ _ := hh0
    have hA1 : At2T w1 g1 _ _ _ := hh1
    have hB := step_call HBW.out (HB0.out.trans (hR.mono HB0.out.size))
    clear hh0 hh1 hg0 hg1 hne hR HB0
    have q0 := hA0.at.1
    have q1 := hA0.at.2.1
    have q2 := hA1.at.1
    have q3 := hA1.at.2.1
    go_wp2_with fail
    simp only [HS1.out, HS2.out]
    have hlt0 := hA0.lt
    have hlt1 := hA1.lt
    have hsz := hB.size
    obtain ⟨W2, hW2⟩ : ∃ W2, w1.alloc (.cells #[.int .u64 (s1 : Nat), .int .u64 (s2 : Nat)] 28) = W2 := ⟨_, rfl⟩
    have hA2 : At2T W2 w1.heap.size (.int .u64 (s1 : Nat)) (.int .u64 (s2 : Nat)) 28 := by rw [← hW2]; exact World.alloc_heap_new w1 _
    have hbb : Below w1.heap.size w1 W2 := by rw [← hW2]; exact (Below.refl _ w1).alloc (Nat.le_refl _) _
    rw [hW2]
    replace hA0 := hA0.below hbb
    replace hA1 := hA1.below hbb
    replace hB := step_call hB hbb
    have H02 : Hid (g0 ≠ w1.heap.size) := fun e => by have := hlt0; omega
    have H12 : Hid (g1 ≠ w1.heap.size) := fun e => by have := hlt1; omega
    have HW2 : Hid (w.heap.size ≤ w1.heap.size) := hsz
    have H2W : Hid (w1.heap.size < W2.heap.size) := hA2.lt
    clear hlt0 hlt1 hsz
    generalize w1.heap.size = g2 at hA2 H02 H12 HW2 H2W ⊢
    clear hW2 hbb q0 q1 q2 q3 w1
    refine Bp.region_boxes 34 (.slice none 0 0) _ [⟨8, 9, CvP Z⟩] [some 28, some 29, some 30, some 31, some 32, some 27, some 33, some 34, some 8, none, some 9]
      [fun v w => v = .agg #[.int .u64 (m1 : Nat), .int .u64 (m2 : Nat)],
       fun v w => CvV w v X,
       fun v w => v = .agg #[.int .u64 (k1 : Nat), .int .u64 (k2 : Nat)],
       fun v w => CvV w v Y,
       fun v w => MtV w v Z o,
       fun v w => MtV w v Z o,
       fun v w => CvV w v Z,
       fun v w => v = .bool o,
       fun _ _ => True,
       fun _ _ => True,
       fun v w => v = .bool o] (by kernel_rfl) (by kernel_rfl) rfl [undef, undef, undef, undef, undef, undef, undef, undef, undef, undef, undef] (by simp only [Bp.putsO, List.set_cons_zero, List.set_cons_succ, Act.put, List.setIfInBounds_toArray]) rfl rfl (by simp) ?_ ?_ ?_ ⟨?_, ?_, ?_, ?_, ?_, ?_, ?_, ?_, ?_, ?_, ?_, trivial⟩ ?_
    · intro j D hj v w w' hb hD
      match j, hj with
      | 0, hj => cases hj; exact hD
      | 1, hj => cases hj; exact hD.below hb
      | 2, hj => cases hj; exact hD
      | 3, hj => cases hj; exact hD.below hb
      | 4, hj => cases hj; exact hD.below hb
      | 5, hj => cases hj; exact hD.below hb
      | 6, hj => cases hj; exact hD.below hb
      | 7, hj => cases hj; exact hD
      | 8, hj => cases hj; exact hD
      | 9, hj => cases hj; exact hD
      | 10, hj => cases hj; exact hD
      | j + 11, hj => cases hj
    · intro j D hj v w g k u hc hD
      match j, hj with
      | 0, hj => cases hj; exact hD
      | 1, hj => cases hj; exact hD.set hc
      | 2, hj => cases hj; exact hD
      | 3, hj => cases hj; exact hD.set hc
      | 4, hj => cases hj; exact hD.set hc
      | 5, hj => cases hj; exact hD.set hc
      | 6, hj => cases hj; exact hD.set hc
      | 7, hj => cases hj; exact hD
      | 8, hj => cases hj; exact hD
      | 9, hj => cases hj; exact hD
      | 10, hj => cases hj; exact hD
      | j + 11, hj => cases hj
    · intro b hbm; simp only [List.mem_cons, List.not_mem_nil, or_false] at hbm
      obtain rfl := hbm
      · exact ⟨fun x y w w' hb h => by exact h.below hb, fun x y w g k u hc h => by exact h.set hc⟩
    · refine ⟨.plain, [], by decide, by simp, fun vs w hl hR hd K hK => ?_⟩
      obtain ⟨v0, vs, rfl, hl1⟩ := len_succ hl
      obtain ⟨v1, vs, rfl, hl2⟩ := len_succ hl1
      obtain ⟨v2, vs, rfl, hl3⟩ := len_succ hl2
      obtain ⟨v3, vs, rfl, hl4⟩ := len_succ hl3
      obtain ⟨v4, vs, rfl, hl5⟩ := len_succ hl4
      obtain ⟨v5, vs, rfl, hl6⟩ := len_succ hl5
      obtain ⟨v6, vs, rfl, hl7⟩ := len_succ hl6
      obtain ⟨v7, vs, rfl, hl8⟩ := len_succ hl7
      obtain ⟨v8, vs, rfl, hl9⟩ := len_succ hl8
      obtain ⟨v9, vs, rfl, hl10⟩ := len_succ hl9
      obtain ⟨v10, vs, rfl, hl11⟩ := len_succ hl10
      obtain rfl := len_zero hl11
      clear hd hl hl1 hl2 hl3 hl4 hl5 hl6 hl7 hl8 hl9 hl10 hl11
      replace hK := hK.out
      simp only [Bp.putsO, List.set_cons_zero, List.set_cons_succ, Act.put, List.setIfInBounds_toArray] at hK ⊢
      have hK' : Shut _ := hK
      clear hK
      have qq := hA0.below hR; have q0 := qq.at.1; have q1 := qq.at.2.1; clear qq
      go_simp
      (try go_wp2_with fail)
      exact hK'.out _ _ (Below.refl _ _) (fun D hD => by cases hD; rfl)
    · refine ⟨.plain, [0], by decide, by simp, fun vs w hl hR hd K hK => ?_⟩
      obtain ⟨v0, vs, rfl, hl1⟩ := len_succ hl
      obtain ⟨v1, vs, rfl, hl2⟩ := len_succ hl1
      obtain ⟨v2, vs, rfl, hl3⟩ := len_succ hl2
      obtain ⟨v3, vs, rfl, hl4⟩ := len_succ hl3
      obtain ⟨v4, vs, rfl, hl5⟩ := len_succ hl4
      obtain ⟨v5, vs, rfl, hl6⟩ := len_succ hl5
      obtain ⟨v6, vs, rfl, hl7⟩ := len_succ hl6
      obtain ⟨v7, vs, rfl, hl8⟩ := len_succ hl7
      obtain ⟨v8, vs, rfl, hl9⟩ := len_succ hl8
      obtain ⟨v9, vs, rfl, hl10⟩ := len_succ hl9
      obtain ⟨v10, vs, rfl, hl11⟩ := len_succ hl10
      obtain rfl := len_zero hl11
      have dd := hd 0 (by simp) _ rfl; simp only [List.getD_cons_zero, List.getD_cons_succ] at dd; obtain rfl := dd
      clear hd hl hl1 hl2 hl3 hl4 hl5 hl6 hl7 hl8 hl9 hl10 hl11
      replace hK := hK.out
      simp only [Bp.putsO, List.set_cons_zero, List.set_cons_succ, Act.put, List.setIfInBounds_toArray] at hK ⊢
      have hK' : Shut _ := hK
      clear hK
      go_simp
      go_at_call 18; (with_reducible refine (lawmake_c _ _ _ _ HC.out EX).mono ?_); rintro e w2 ⟨a, n, c, b, m, d, rfl, hc, hb⟩
      (try go_wp2_with fail)
      exact hK'.out _ _ (hb) (fun D hD => by cases hD; exact ⟨_, _, _, _, _, _, rfl, hc⟩)
    · refine ⟨.plain, [], by decide, by simp, fun vs w hl hR hd K hK => ?_⟩
      obtain ⟨v0, vs, rfl, hl1⟩ := len_succ hl
      obtain ⟨v1, vs, rfl, hl2⟩ := len_succ hl1
      obtain ⟨v2, vs, rfl, hl3⟩ := len_succ hl2
      obtain ⟨v3, vs, rfl, hl4⟩ := len_succ hl3
      obtain ⟨v4, vs, rfl, hl5⟩ := len_succ hl4
      obtain ⟨v5, vs, rfl, hl6⟩ := len_succ hl5
      obtain ⟨v6, vs, rfl, hl7⟩ := len_succ hl6
      obtain ⟨v7, vs, rfl, hl8⟩ := len_succ hl7
      obtain ⟨v8, vs, rfl, hl9⟩ := len_succ hl8
      obtain ⟨v9, vs, rfl, hl10⟩ := len_succ hl9
      obtain ⟨v10, vs, rfl, hl11⟩ := len_succ hl10
      obtain rfl := len_zero hl11
      clear hd hl hl1 hl2 hl3 hl4 hl5 hl6 hl7 hl8 hl9 hl10 hl11
      replace hK := hK.out
      simp only [Bp.putsO, List.set_cons_zero, List.set_cons_succ, Act.put, List.setIfInBounds_toArray] at hK ⊢
      have hK' : Shut _ := hK
      clear hK
      have qq := hA1.below hR; have q0 := qq.at.1; have q1 := qq.at.2.1; clear qq
      go_simp
      (try go_wp2_with fail)
      exact hK'.out _ _ (Below.refl _ _) (fun D hD => by cases hD; rfl)
    · refine ⟨.plain, [2], by decide, by simp, fun vs w hl hR hd K hK => ?_⟩
      obtain ⟨v0, vs, rfl, hl1⟩ := len_succ hl
      obtain ⟨v1, vs, rfl, hl2⟩ := len_succ hl1
      obtain ⟨v2, vs, rfl, hl3⟩ := len_succ hl2
      obtain ⟨v3, vs, rfl, hl4⟩ := len_succ hl3
      obtain ⟨v4, vs, rfl, hl5⟩ := len_succ hl4
      obtain ⟨v5, vs, rfl, hl6⟩ := len_succ hl5
      obtain ⟨v6, vs, rfl, hl7⟩ := len_succ hl6
      obtain ⟨v7, vs, rfl, hl8⟩ := len_succ hl7
      obtain ⟨v8, vs, rfl, hl9⟩ := len_succ hl8
      obtain ⟨v9, vs, rfl, hl10⟩ := len_succ hl9
      obtain ⟨v10, vs, rfl, hl11⟩ := len_succ hl10
      obtain rfl := len_zero hl11
      have dd := hd 2 (by simp) _ rfl; simp only [List.getD_cons_zero, List.getD_cons_succ] at dd; obtain rfl := dd
      clear hd hl hl1 hl2 hl3 hl4 hl5 hl6 hl7 hl8 hl9 hl10 hl11
      replace hK := hK.out
      simp only [Bp.putsO, List.set_cons_zero, List.set_cons_succ, Act.put, List.setIfInBounds_toArray] at hK ⊢
      have hK' : Shut _ := hK
      clear hK
      go_simp
      go_at_call 18; (with_reducible refine (lawmake_c _ _ _ _ HK.out EY).mono ?_); rintro e w2 ⟨a, n, c, b, m, d, rfl, hc, hb⟩
      (try go_wp2_with fail)
      exact hK'.out _ _ (hb) (fun D hD => by cases hD; exact ⟨_, _, _, _, _, _, rfl, hc⟩)
    · refine ⟨.plain, [1, 3], by decide, by simp, fun vs w hl hR hd K hK => ?_⟩
      obtain ⟨v0, vs, rfl, hl1⟩ := len_succ hl
      obtain ⟨v1, vs, rfl, hl2⟩ := len_succ hl1
      obtain ⟨v2, vs, rfl, hl3⟩ := len_succ hl2
      obtain ⟨v3, vs, rfl, hl4⟩ := len_succ hl3
      obtain ⟨v4, vs, rfl, hl5⟩ := len_succ hl4
      obtain ⟨v5, vs, rfl, hl6⟩ := len_succ hl5
      obtain ⟨v6, vs, rfl, hl7⟩ := len_succ hl6
      obtain ⟨v7, vs, rfl, hl8⟩ := len_succ hl7
      obtain ⟨v8, vs, rfl, hl9⟩ := len_succ hl8
      obtain ⟨v9, vs, rfl, hl10⟩ := len_succ hl9
      obtain ⟨v10, vs, rfl, hl11⟩ := len_succ hl10
      obtain rfl := len_zero hl11
      have dd := hd 1 (by simp) _ rfl; simp only [List.getD_cons_zero, List.getD_cons_succ] at dd; obtain ⟨a, n, c, b, m, d, rfl, hc⟩ := dd
      have dd := hd 3 (by simp) _ rfl; simp only [List.getD_cons_zero, List.getD_cons_succ] at dd; obtain ⟨a', n', c', b', m', d', rfl, hc'⟩ := dd
      clear hd hl hl1 hl2 hl3 hl4 hl5 hl6 hl7 hl8 hl9 hl10 hl11
      replace hK := hK.out
      simp only [Bp.putsO, List.set_cons_zero, List.set_cons_succ, Act.put, List.setIfInBounds_toArray] at hK ⊢
      have hK' : Shut _ := hK
      clear hK
      go_simp
      go_at_call 36; (with_reducible refine (meet_t _ _ _ _ _ _ _ _ _ _ _ _ _ _ _ _ _ hc hc' EO EZ).mono ?_); rintro e w2 ⟨a, n, c, b, m, d, rfl, hc, hb⟩
      (try go_wp2_with fail)
      exact hK'.out _ _ (hb) (fun D hD => by cases hD; exact ⟨_, _, _, _, _, _, rfl, hc⟩)
    · refine ⟨.plain, [4], by decide, by simp, fun vs w hl hR hd K hK => ?_⟩
      obtain ⟨v0, vs, rfl, hl1⟩ := len_succ hl
      obtain ⟨v1, vs, rfl, hl2⟩ := len_succ hl1
      obtain ⟨v2, vs, rfl, hl3⟩ := len_succ hl2
      obtain ⟨v3, vs, rfl, hl4⟩ := len_succ hl3
      obtain ⟨v4, vs, rfl, hl5⟩ := len_succ hl4
      obtain ⟨v5, vs, rfl, hl6⟩ := len_succ hl5
      obtain ⟨v6, vs, rfl, hl7⟩ := len_succ hl6
      obtain ⟨v7, vs, rfl, hl8⟩ := len_succ hl7
      obtain ⟨v8, vs, rfl, hl9⟩ := len_succ hl8
      obtain ⟨v9, vs, rfl, hl10⟩ := len_succ hl9
      obtain ⟨v10, vs, rfl, hl11⟩ := len_succ hl10
      obtain rfl := len_zero hl11
      have dd := hd 4 (by simp) _ rfl; simp only [List.getD_cons_zero, List.getD_cons_succ] at dd; obtain ⟨a, n, c, b, m, d, rfl, hc⟩ := dd
      clear hd hl hl1 hl2 hl3 hl4 hl5 hl6 hl7 hl8 hl9 hl10 hl11
      replace hK := hK.out
      simp only [Bp.putsO, List.set_cons_zero, List.set_cons_succ, Act.put, List.setIfInBounds_toArray] at hK ⊢
      have hK' : Shut _ := hK
      clear hK
      go_simp
      (try go_wp2_with fail)
      exact hK'.out _ _ (Below.refl _ _) (fun D hD => by cases hD; exact ⟨_, _, _, _, _, _, rfl, hc⟩)
    · refine ⟨.plain, [5], by decide, by simp, fun vs w hl hR hd K hK => ?_⟩
      obtain ⟨v0, vs, rfl, hl1⟩ := len_succ hl
      obtain ⟨v1, vs, rfl, hl2⟩ := len_succ hl1
      obtain ⟨v2, vs, rfl, hl3⟩ := len_succ hl2
      obtain ⟨v3, vs, rfl, hl4⟩ := len_succ hl3
      obtain ⟨v4, vs, rfl, hl5⟩ := len_succ hl4
      obtain ⟨v5, vs, rfl, hl6⟩ := len_succ hl5
      obtain ⟨v6, vs, rfl, hl7⟩ := len_succ hl6
      obtain ⟨v7, vs, rfl, hl8⟩ := len_succ hl7
      obtain ⟨v8, vs, rfl, hl9⟩ := len_succ hl8
      obtain ⟨v9, vs, rfl, hl10⟩ := len_succ hl9
      obtain ⟨v10, vs, rfl, hl11⟩ := len_succ hl10
      obtain rfl := len_zero hl11
      have dd := hd 5 (by simp) _ rfl; simp only [List.getD_cons_zero, List.getD_cons_succ] at dd; refine dd.elim ?_; clear dd; intro a n c b m d e hc; subst e
      clear hd hl hl1 hl2 hl3 hl4 hl5 hl6 hl7 hl8 hl9 hl10 hl11
      replace hK := hK.out
      simp only [Bp.putsO, List.set_cons_zero, List.set_cons_succ, Act.put, List.setIfInBounds_toArray] at hK ⊢
      have hK' : Shut _ := hK
      clear hK
      go_simp
      (try go_wp2_with fail)
      exact hK'.out _ _ (Below.refl _ _) (fun D hD => by cases hD; exact ⟨_, _, _, _, _, _, rfl, hc⟩)
    · refine ⟨.plain, [5], by decide, by simp, fun vs w hl hR hd K hK => ?_⟩
      obtain ⟨v0, vs, rfl, hl1⟩ := len_succ hl
      obtain ⟨v1, vs, rfl, hl2⟩ := len_succ hl1
      obtain ⟨v2, vs, rfl, hl3⟩ := len_succ hl2
      obtain ⟨v3, vs, rfl, hl4⟩ := len_succ hl3
      obtain ⟨v4, vs, rfl, hl5⟩ := len_succ hl4
      obtain ⟨v5, vs, rfl, hl6⟩ := len_succ hl5
      obtain ⟨v6, vs, rfl, hl7⟩ := len_succ hl6
      obtain ⟨v7, vs, rfl, hl8⟩ := len_succ hl7
      obtain ⟨v8, vs, rfl, hl9⟩ := len_succ hl8
      obtain ⟨v9, vs, rfl, hl10⟩ := len_succ hl9
      obtain ⟨v10, vs, rfl, hl11⟩ := len_succ hl10
      obtain rfl := len_zero hl11
      have dd := hd 5 (by simp) _ rfl; simp only [List.getD_cons_zero, List.getD_cons_succ] at dd; refine dd.elim ?_; clear dd; intro a n c b m d e hc; subst e
      clear hd hl hl1 hl2 hl3 hl4 hl5 hl6 hl7 hl8 hl9 hl10 hl11
      replace hK := hK.out
      simp only [Bp.putsO, List.set_cons_zero, List.set_cons_succ, Act.put, List.setIfInBounds_toArray] at hK ⊢
      have hK' : Shut _ := hK
      clear hK
      go_simp
      (try go_wp2_with fail)
      exact hK'.out _ _ (Below.refl _ _) (fun D hD => by cases hD; rfl)
    · refine ⟨.box ⟨8, 9, CvP Z⟩, [], by decide, by simp, rfl, by simp, (fun D hD => by cases hD; exact fun _ _ => trivial), fun vs w hl K hK => ?_⟩
      obtain ⟨v0, vs, rfl, hl1⟩ := len_succ hl
      obtain ⟨v1, vs, rfl, hl2⟩ := len_succ hl1
      obtain ⟨v2, vs, rfl, hl3⟩ := len_succ hl2
      obtain ⟨v3, vs, rfl, hl4⟩ := len_succ hl3
      obtain ⟨v4, vs, rfl, hl5⟩ := len_succ hl4
      obtain ⟨v5, vs, rfl, hl6⟩ := len_succ hl5
      obtain ⟨v6, vs, rfl, hl7⟩ := len_succ hl6
      obtain ⟨v7, vs, rfl, hl8⟩ := len_succ hl7
      obtain ⟨v8, vs, rfl, hl9⟩ := len_succ hl8
      obtain ⟨v9, vs, rfl, hl10⟩ := len_succ hl9
      obtain ⟨v10, vs, rfl, hl11⟩ := len_succ hl10
      obtain rfl := len_zero hl11
      clear hl hl1 hl2 hl3 hl4 hl5 hl6 hl7 hl8 hl9 hl10 hl11
      replace hK := hK.out
      simp only [Bp.putsO, List.set_cons_zero, List.set_cons_succ, Act.put, List.setIfInBounds_toArray] at hK ⊢
      have hK' : Shut _ := hK
      clear hK
      go_simp
      (try go_wp2_with fail)
      exact hK'.out
    · refine ⟨.fill ⟨8, 9, CvP Z⟩, [8, 6], by decide, by simp, rfl, by simp, by simp, by simp, by simp, (fun D hD => by cases hD; exact fun _ _ => trivial), fun vs w g hl hd hg c0 c1 f0 f1 K hK => ?_⟩
      obtain ⟨v0, vs, rfl, hl1⟩ := len_succ hl
      obtain ⟨v1, vs, rfl, hl2⟩ := len_succ hl1
      obtain ⟨v2, vs, rfl, hl3⟩ := len_succ hl2
      obtain ⟨v3, vs, rfl, hl4⟩ := len_succ hl3
      obtain ⟨v4, vs, rfl, hl5⟩ := len_succ hl4
      obtain ⟨v5, vs, rfl, hl6⟩ := len_succ hl5
      obtain ⟨v6, vs, rfl, hl7⟩ := len_succ hl6
      obtain ⟨v7, vs, rfl, hl8⟩ := len_succ hl7
      obtain ⟨v8, vs, rfl, hl9⟩ := len_succ hl8
      obtain ⟨v9, vs, rfl, hl10⟩ := len_succ hl9
      obtain ⟨v10, vs, rfl, hl11⟩ := len_succ hl10
      obtain rfl := len_zero hl11
      have dd := hd 6 (by simp) _ rfl; simp only [List.getD_cons_zero, List.getD_cons_succ] at dd; replace dd := dd.pick; have hq := Classical.choose_spec dd; generalize Classical.choose dd = t0 at hq; clear dd; have e := hq.1; have hc := hq.2; clear hq; subst e
      simp only [List.getD_cons_zero, List.getD_cons_succ] at hg
      obtain rfl := hg
      clear hd hl hl1 hl2 hl3 hl4 hl5 hl6 hl7 hl8 hl9 hl10 hl11
      replace hK := hK.out undef _ _ (⟨_, _, _, _, _, _, rfl, rfl, hc⟩)
      simp only [Bp.putsO, List.set_cons_zero, List.set_cons_succ, Act.put, List.setIfInBounds_toArray] at hK ⊢
      have hK' : Shut _ := hK
      clear hK
      go_simp
      (try go_wp2_with fail)
      exact hK'.out
    · refine ⟨.plain, [7], by decide, by simp, fun vs w hl hR hd K hK => ?_⟩
      obtain ⟨v0, vs, rfl, hl1⟩ := len_succ hl
      obtain ⟨v1, vs, rfl, hl2⟩ := len_succ hl1
      obtain ⟨v2, vs, rfl, hl3⟩ := len_succ hl2
      obtain ⟨v3, vs, rfl, hl4⟩ := len_succ hl3
      obtain ⟨v4, vs, rfl, hl5⟩ := len_succ hl4
      obtain ⟨v5, vs, rfl, hl6⟩ := len_succ hl5
      obtain ⟨v6, vs, rfl, hl7⟩ := len_succ hl6
      obtain ⟨v7, vs, rfl, hl8⟩ := len_succ hl7
      obtain ⟨v8, vs, rfl, hl9⟩ := len_succ hl8
      obtain ⟨v9, vs, rfl, hl10⟩ := len_succ hl9
      obtain ⟨v10, vs, rfl, hl11⟩ := len_succ hl10
      obtain rfl := len_zero hl11
      have dd := hd 7 (by simp) _ rfl; simp only [List.getD_cons_zero, List.getD_cons_succ] at dd; obtain rfl := dd
      clear hd hl hl1 hl2 hl3 hl4 hl5 hl6 hl7 hl8 hl9 hl10 hl11
      replace hK := hK.out
      simp only [Bp.putsO, List.set_cons_zero, List.set_cons_succ, Act.put, List.setIfInBounds_toArray] at hK ⊢
      have hK' : Shut _ := hK
      clear hK
      go_simp
      (try go_wp2_with fail)
      exact hK'.out _ _ (Below.refl _ _) (fun D hD => by cases hD; rfl)
    · intro vs w3 hl hR hd hbx hne
      obtain ⟨v0, vs, rfl, hl1⟩ := len_succ hl
      obtain ⟨v1, vs, rfl, hl2⟩ := len_succ hl1
      obtain ⟨v2, vs, rfl, hl3⟩ := len_succ hl2
      obtain ⟨v3, vs, rfl, hl4⟩ := len_succ hl3
      obtain ⟨v4, vs, rfl, hl5⟩ := len_succ hl4
      obtain ⟨v5, vs, rfl, hl6⟩ := len_succ hl5
      obtain ⟨v6, vs, rfl, hl7⟩ := len_succ hl6
      obtain ⟨v7, vs, rfl, hl8⟩ := len_succ hl7
      obtain ⟨v8, vs, rfl, hl9⟩ := len_succ hl8
      obtain ⟨v9, vs, rfl, hl10⟩ := len_succ hl9
      obtain ⟨v10, vs, rfl, hl11⟩ := len_succ hl10
      obtain rfl := len_zero hl11
      have dd := hd 10 _ rfl; simp only [List.getD_cons_zero, List.getD_cons_succ] at dd; obtain rfl := dd
      obtain ⟨g3, x3, y3, e3, hg3, hh3, hP3⟩ := hbx ⟨8, 9, CvP Z⟩ (by simp) (by simp) (by simp)
      simp only [List.getD_cons_zero, List.getD_cons_succ] at e3
      obtain rfl := e3
      clear hd hbx hl hl1 hl2 hl3 hl4 hl5 hl6 hl7 hl8 hl9 hl10 hl11
      simp only [Bp.putsO, List.set_cons_zero, List.set_cons_succ, Act.put, List.setIfInBounds_toArray]
      have hA3 : At2T w3 g3 _ _ _ := hh3
      refine hP3.elim ?_
      clear hP3
      intro a n c b m d ex ey hc
      subst ex
      subst ey
      replace hA0 := hA0.below hR
      replace hA1 := hA1.below hR
      replace hA2 := hA2.below hR
      replace hB := step_call hB hR
      have H23 : Hid (g3 ≠ g2) := fun e => by have := H2W.out; omega
      clear hh3 hg3 hne hR
      have q0 := hA2.at.1
      have q1 := hA2.at.2.1
      cases z
      · obtain rfl := EO2.out
        have EQZ : Hid ([Z] = List.map cuM [(s1, s2)]) := congrArg (fun x => [x]) EZ2.out.symm
        have HZ := HO
        go_wp2_with (go_at_call 22; (with_reducible refine (rempty_t _ _ _ _ HO.out EE).mono ?_); rintro e W3 ⟨rfl, hb⟩; replace hA0 := hA0.below hb; replace hA1 := hA1.below hb; replace hA2 := hA2.below hb; replace hA3 := hA3.below hb; replace hc := hc.below hb; replace hB := step_call hB hb; clear q0 q1 hb)
        refine region_slots [42, 43, 44, 45, 46, 47, 48, 49, 50, 51, 52, 53, 54, 55, 56, 57, 58, 59, 60, 61, 62, 63, 64, 65, 66, 67, 68, 4]
          [fun v w => v = .agg #[.int .u64 (m1 : Nat), .int .u64 (m2 : Nat)],
           fun v w => CvV w v X,
           fun v w => v = .agg #[.int .u64 (k1 : Nat), .int .u64 (k2 : Nat)],
           fun v w => CvV w v Y,
           fun v w => v = .bool p,
           fun v w => v = .agg #[.int .u64 (m1 : Nat), .int .u64 (m2 : Nat)],
           fun v w => v = .agg #[.int .u64 (k1 : Nat), .int .u64 (k2 : Nat)],
           fun v w => v = .bool p,
           fun v w => v = .bool true,
           fun v w => v = .bool true,
           fun v w => v = .agg #[.int .u64 (k1 : Nat), .int .u64 (k2 : Nat)],
           fun v w => CvV w v Y,
           fun v w => v = .agg #[.int .u64 (m1 : Nat), .int .u64 (m2 : Nat)],
           fun v w => CvV w v X,
           fun v w => v = .bool q,
           fun v w => v = .agg #[.int .u64 (k1 : Nat), .int .u64 (k2 : Nat)],
           fun v w => v = .agg #[.int .u64 (m1 : Nat), .int .u64 (m2 : Nat)],
           fun v w => v = .bool q,
           fun v w => v = .bool true,
           fun v w => v = .bool true,
           fun v w => v = .bool true,
           fun v w => v = .agg #[.slice a n c, .slice b m d],
           fun v w => ∃ g, v = .slice (some ⟨g, 0, none⟩) 1 1 ∧ Cs w (some ⟨g, 0, none⟩) 1 1 [Z],
           fun v w => v = .agg #[.int .u64 (s1 : Nat), .int .u64 (s2 : Nat)],
           fun v w => ∃ g, v = .slice (some ⟨g, 0, none⟩) 1 1 ∧ Ms w (some ⟨g, 0, none⟩) 1 1 [(s1, s2)],
           fun v w => v = .bool true,
           fun v w => v = .bool true,
           fun v w => v = .bool true]
          (fun w' => Below W3.heap.size W3 w') (fun w w' => Below w.heap.size w w') (by kernel_rfl) (by kernel_rfl) rfl [undef, undef, undef, undef, undef, undef, undef, undef, undef, undef, undef, undef, undef, undef, undef, undef, undef, undef, undef, undef, undef, undef, undef, undef, undef, undef, undef, (.bool false)] (by simp only [puts, List.set_cons_zero, List.set_cons_succ, Act.put, List.setIfInBounds_toArray]) rfl ((Below.refl _ _).drew) ?_ ⟨?_, ?_, ?_, ?_, ?_, ?_, ?_, ?_, ?_, ?_, ?_, ?_, ?_, ?_, ?_, ?_, ?_, ?_, ?_, ?_, ?_, ?_, ?_, ?_, ?_, ?_, ?_, ?_, trivial⟩ ?_
        · intro j D hj v w w' hb hD
          match j, hj with
          | 0, hj => cases hj; exact hD
          | 1, hj => cases hj; exact hD.below hb
          | 2, hj => cases hj; exact hD
          | 3, hj => cases hj; exact hD.below hb
          | 4, hj => cases hj; exact hD
          | 5, hj => cases hj; exact hD
          | 6, hj => cases hj; exact hD
          | 7, hj => cases hj; exact hD
          | 8, hj => cases hj; exact hD
          | 9, hj => cases hj; exact hD
          | 10, hj => cases hj; exact hD
          | 11, hj => cases hj; exact hD.below hb
          | 12, hj => cases hj; exact hD
          | 13, hj => cases hj; exact hD.below hb
          | 14, hj => cases hj; exact hD
          | 15, hj => cases hj; exact hD
          | 16, hj => cases hj; exact hD
          | 17, hj => cases hj; exact hD
          | 18, hj => cases hj; exact hD
          | 19, hj => cases hj; exact hD
          | 20, hj => cases hj; exact hD
          | 21, hj => cases hj; exact hD
          | 22, hj => cases hj; obtain ⟨g, rfl, h⟩ := hD; exact ⟨g, rfl, h.below hb⟩
          | 23, hj => cases hj; exact hD
          | 24, hj => cases hj; obtain ⟨g, rfl, h⟩ := hD; exact ⟨g, rfl, h.below hb⟩
          | 25, hj => cases hj; exact hD
          | 26, hj => cases hj; exact hD
          | 27, hj => cases hj; exact hD
          | j + 28, hj => cases hj
        · refine ⟨[], by decide, fun vs w hl hR hd K hK => ?_⟩
          obtain ⟨v0, vs, rfl, hl1⟩ := len_succ hl
          obtain ⟨v1, vs, rfl, hl2⟩ := len_succ hl1
          obtain ⟨v2, vs, rfl, hl3⟩ := len_succ hl2
          obtain ⟨v3, vs, rfl, hl4⟩ := len_succ hl3
          obtain ⟨v4, vs, rfl, hl5⟩ := len_succ hl4
          obtain ⟨v5, vs, rfl, hl6⟩ := len_succ hl5
          obtain ⟨v6, vs, rfl, hl7⟩ := len_succ hl6
          obtain ⟨v7, vs, rfl, hl8⟩ := len_succ hl7
          obtain ⟨v8, vs, rfl, hl9⟩ := len_succ hl8
          obtain ⟨v9, vs, rfl, hl10⟩ := len_succ hl9
          obtain ⟨v10, vs, rfl, hl11⟩ := len_succ hl10
          obtain ⟨v11, vs, rfl, hl12⟩ := len_succ hl11
          obtain ⟨v12, vs, rfl, hl13⟩ := len_succ hl12
          obtain ⟨v13, vs, rfl, hl14⟩ := len_succ hl13
          obtain ⟨v14, vs, rfl, hl15⟩ := len_succ hl14
          obtain ⟨v15, vs, rfl, hl16⟩ := len_succ hl15
          obtain ⟨v16, vs, rfl, hl17⟩ := len_succ hl16
          obtain ⟨v17, vs, rfl, hl18⟩ := len_succ hl17
          obtain ⟨v18, vs, rfl, hl19⟩ := len_succ hl18
          obtain ⟨v19, vs, rfl, hl20⟩ := len_succ hl19
          obtain ⟨v20, vs, rfl, hl21⟩ := len_succ hl20
          obtain ⟨v21, vs, rfl, hl22⟩ := len_succ hl21
          obtain ⟨v22, vs, rfl, hl23⟩ := len_succ hl22
          obtain ⟨v23, vs, rfl, hl24⟩ := len_succ hl23
          obtain ⟨v24, vs, rfl, hl25⟩ := len_succ hl24
          obtain ⟨v25, vs, rfl, hl26⟩ := len_succ hl25
          obtain ⟨v26, vs, rfl, hl27⟩ := len_succ hl26
          obtain ⟨v27, vs, rfl, hl28⟩ := len_succ hl27
          obtain rfl := len_zero hl28
          clear hd hl hl1 hl2 hl3 hl4 hl5 hl6 hl7 hl8 hl9 hl10 hl11 hl12 hl13 hl14 hl15 hl16 hl17 hl18 hl19 hl20 hl21 hl22 hl23 hl24 hl25 hl26 hl27 hl28
          replace hK := hK.out
          simp only [puts, List.set_cons_zero, List.set_cons_succ, Act.put, List.setIfInBounds_toArray] at hK ⊢
          have hK' : Shut _ := hK
          clear hK
          have qq := hA0.below hR; have q0 := qq.at.1; have q1 := qq.at.2.1; clear qq
          go_simp
          (try go_wp2_with fail)
          exact hK'.out _ _ (Below.refl _ _) (hR) (fun D hD => by cases hD; rfl)
        · refine ⟨[0], by decide, fun vs w hl hR hd K hK => ?_⟩
          obtain ⟨v0, vs, rfl, hl1⟩ := len_succ hl
          obtain ⟨v1, vs, rfl, hl2⟩ := len_succ hl1
          obtain ⟨v2, vs, rfl, hl3⟩ := len_succ hl2
          obtain ⟨v3, vs, rfl, hl4⟩ := len_succ hl3
          obtain ⟨v4, vs, rfl, hl5⟩ := len_succ hl4
          obtain ⟨v5, vs, rfl, hl6⟩ := len_succ hl5
          obtain ⟨v6, vs, rfl, hl7⟩ := len_succ hl6
          obtain ⟨v7, vs, rfl, hl8⟩ := len_succ hl7
          obtain ⟨v8, vs, rfl, hl9⟩ := len_succ hl8
          obtain ⟨v9, vs, rfl, hl10⟩ := len_succ hl9
          obtain ⟨v10, vs, rfl, hl11⟩ := len_succ hl10
          obtain ⟨v11, vs, rfl, hl12⟩ := len_succ hl11
          obtain ⟨v12, vs, rfl, hl13⟩ := len_succ hl12
          obtain ⟨v13, vs, rfl, hl14⟩ := len_succ hl13
          obtain ⟨v14, vs, rfl, hl15⟩ := len_succ hl14
          obtain ⟨v15, vs, rfl, hl16⟩ := len_succ hl15
          obtain ⟨v16, vs, rfl, hl17⟩ := len_succ hl16
          obtain ⟨v17, vs, rfl, hl18⟩ := len_succ hl17
          obtain ⟨v18, vs, rfl, hl19⟩ := len_succ hl18
          obtain ⟨v19, vs, rfl, hl20⟩ := len_succ hl19
          obtain ⟨v20, vs, rfl, hl21⟩ := len_succ hl20
          obtain ⟨v21, vs, rfl, hl22⟩ := len_succ hl21
          obtain ⟨v22, vs, rfl, hl23⟩ := len_succ hl22
          obtain ⟨v23, vs, rfl, hl24⟩ := len_succ hl23
          obtain ⟨v24, vs, rfl, hl25⟩ := len_succ hl24
          obtain ⟨v25, vs, rfl, hl26⟩ := len_succ hl25
          obtain ⟨v26, vs, rfl, hl27⟩ := len_succ hl26
          obtain ⟨v27, vs, rfl, hl28⟩ := len_succ hl27
          obtain rfl := len_zero hl28
          have dd := hd 0 (by simp) _ rfl; simp only [List.getD_cons_zero, List.getD_cons_succ] at dd; obtain rfl := dd
          clear hd hl hl1 hl2 hl3 hl4 hl5 hl6 hl7 hl8 hl9 hl10 hl11 hl12 hl13 hl14 hl15 hl16 hl17 hl18 hl19 hl20 hl21 hl22 hl23 hl24 hl25 hl26 hl27 hl28
          replace hK := hK.out
          simp only [puts, List.set_cons_zero, List.set_cons_succ, Act.put, List.setIfInBounds_toArray] at hK ⊢
          have hK' : Shut _ := hK
          clear hK
          go_simp
          go_at_call 18; (with_reducible refine (lawmake_c _ _ _ _ HC.out EX).mono ?_); rintro e w2 ⟨a, n, c, b, m, d, rfl, hc, hb⟩
          (try go_wp2_with fail)
          exact hK'.out _ _ (hb) (step_call hR (hb)) (fun D hD => by cases hD; exact ⟨_, _, _, _, _, _, rfl, hc⟩)
        · refine ⟨[], by decide, fun vs w hl hR hd K hK => ?_⟩
          obtain ⟨v0, vs, rfl, hl1⟩ := len_succ hl
          obtain ⟨v1, vs, rfl, hl2⟩ := len_succ hl1
          obtain ⟨v2, vs, rfl, hl3⟩ := len_succ hl2
          obtain ⟨v3, vs, rfl, hl4⟩ := len_succ hl3
          obtain ⟨v4, vs, rfl, hl5⟩ := len_succ hl4
          obtain ⟨v5, vs, rfl, hl6⟩ := len_succ hl5
          obtain ⟨v6, vs, rfl, hl7⟩ := len_succ hl6
          obtain ⟨v7, vs, rfl, hl8⟩ := len_succ hl7
          obtain ⟨v8, vs, rfl, hl9⟩ := len_succ hl8
          obtain ⟨v9, vs, rfl, hl10⟩ := len_succ hl9
          obtain ⟨v10, vs, rfl, hl11⟩ := len_succ hl10
          obtain ⟨v11, vs, rfl, hl12⟩ := len_succ hl11
          obtain ⟨v12, vs, rfl, hl13⟩ := len_succ hl12
          obtain ⟨v13, vs, rfl, hl14⟩ := len_succ hl13
          obtain ⟨v14, vs, rfl, hl15⟩ := len_succ hl14
          obtain ⟨v15, vs, rfl, hl16⟩ := len_succ hl15
          obtain ⟨v16, vs, rfl, hl17⟩ := len_succ hl16
          obtain ⟨v17, vs, rfl, hl18⟩ := len_succ hl17
          obtain ⟨v18, vs, rfl, hl19⟩ := len_succ hl18
          obtain ⟨v19, vs, rfl, hl20⟩ := len_succ hl19
          obtain ⟨v20, vs, rfl, hl21⟩ := len_succ hl20
          obtain ⟨v21, vs, rfl, hl22⟩ := len_succ hl21
          obtain ⟨v22, vs, rfl, hl23⟩ := len_succ hl22
          obtain ⟨v23, vs, rfl, hl24⟩ := len_succ hl23
          obtain ⟨v24, vs, rfl, hl25⟩ := len_succ hl24
          obtain ⟨v25, vs, rfl, hl26⟩ := len_succ hl25
          obtain ⟨v26, vs, rfl, hl27⟩ := len_succ hl26
          obtain ⟨v27, vs, rfl, hl28⟩ := len_succ hl27
          obtain rfl := len_zero hl28
          clear hd hl hl1 hl2 hl3 hl4 hl5 hl6 hl7 hl8 hl9 hl10 hl11 hl12 hl13 hl14 hl15 hl16 hl17 hl18 hl19 hl20 hl21 hl22 hl23 hl24 hl25 hl26 hl27 hl28
          replace hK := hK.out
          simp only [puts, List.set_cons_zero, List.set_cons_succ, Act.put, List.setIfInBounds_toArray] at hK ⊢
          have hK' : Shut _ := hK
          clear hK
          have qq := hA1.below hR; have q0 := qq.at.1; have q1 := qq.at.2.1; clear qq
          go_simp
          (try go_wp2_with fail)
          exact hK'.out _ _ (Below.refl _ _) (hR) (fun D hD => by cases hD; rfl)
        · refine ⟨[2], by decide, fun vs w hl hR hd K hK => ?_⟩
          obtain ⟨v0, vs, rfl, hl1⟩ := len_succ hl
          obtain ⟨v1, vs, rfl, hl2⟩ := len_succ hl1
          obtain ⟨v2, vs, rfl, hl3⟩ := len_succ hl2
          obtain ⟨v3, vs, rfl, hl4⟩ := len_succ hl3
          obtain ⟨v4, vs, rfl, hl5⟩ := len_succ hl4
          obtain ⟨v5, vs, rfl, hl6⟩ := len_succ hl5
          obtain ⟨v6, vs, rfl, hl7⟩ := len_succ hl6
          obtain ⟨v7, vs, rfl, hl8⟩ := len_succ hl7
          obtain ⟨v8, vs, rfl, hl9⟩ := len_succ hl8
          obtain ⟨v9, vs, rfl, hl10⟩ := len_succ hl9
          obtain ⟨v10, vs, rfl, hl11⟩ := len_succ hl10
          obtain ⟨v11, vs, rfl, hl12⟩ := len_succ hl11
          obtain ⟨v12, vs, rfl, hl13⟩ := len_succ hl12
          obtain ⟨v13, vs, rfl, hl14⟩ := len_succ hl13
          obtain ⟨v14, vs, rfl, hl15⟩ := len_succ hl14
          obtain ⟨v15, vs, rfl, hl16⟩ := len_succ hl15
          obtain ⟨v16, vs, rfl, hl17⟩ := len_succ hl16
          obtain ⟨v17, vs, rfl, hl18⟩ := len_succ hl17
          obtain ⟨v18, vs, rfl, hl19⟩ := len_succ hl18
          obtain ⟨v19, vs, rfl, hl20⟩ := len_succ hl19
          obtain ⟨v20, vs, rfl, hl21⟩ := len_succ hl20
          obtain ⟨v21, vs, rfl, hl22⟩ := len_succ hl21
          obtain ⟨v22, vs, rfl, hl23⟩ := len_succ hl22
          obtain ⟨v23, vs, rfl, hl24⟩ := len_succ hl23
          obtain ⟨v24, vs, rfl, hl25⟩ := len_succ hl24
          obtain ⟨v25, vs, rfl, hl26⟩ := len_succ hl25
          obtain ⟨v26, vs, rfl, hl27⟩ := len_succ hl26
          obtain ⟨v27, vs, rfl, hl28⟩ := len_succ hl27
          obtain rfl := len_zero hl28
          have dd := hd 2 (by simp) _ rfl; simp only [List.getD_cons_zero, List.getD_cons_succ] at dd; obtain rfl := dd
          clear hd hl hl1 hl2 hl3 hl4 hl5 hl6 hl7 hl8 hl9 hl10 hl11 hl12 hl13 hl14 hl15 hl16 hl17 hl18 hl19 hl20 hl21 hl22 hl23 hl24 hl25 hl26 hl27 hl28
          replace hK := hK.out
          simp only [puts, List.set_cons_zero, List.set_cons_succ, Act.put, List.setIfInBounds_toArray] at hK ⊢
          have hK' : Shut _ := hK
          clear hK
          go_simp
          go_at_call 18; (with_reducible refine (lawmake_c _ _ _ _ HK.out EY).mono ?_); rintro e w2 ⟨a, n, c, b, m, d, rfl, hc, hb⟩
          (try go_wp2_with fail)
          exact hK'.out _ _ (hb) (step_call hR (hb)) (fun D hD => by cases hD; exact ⟨_, _, _, _, _, _, rfl, hc⟩)
        · refine ⟨[1, 3], by decide, fun vs w hl hR hd K hK => ?_⟩
          obtain ⟨v0, vs, rfl, hl1⟩ := len_succ hl
          obtain ⟨v1, vs, rfl, hl2⟩ := len_succ hl1
          obtain ⟨v2, vs, rfl, hl3⟩ := len_succ hl2
          obtain ⟨v3, vs, rfl, hl4⟩ := len_succ hl3
          obtain ⟨v4, vs, rfl, hl5⟩ := len_succ hl4
          obtain ⟨v5, vs, rfl, hl6⟩ := len_succ hl5
          obtain ⟨v6, vs, rfl, hl7⟩ := len_succ hl6
          obtain ⟨v7, vs, rfl, hl8⟩ := len_succ hl7
          obtain ⟨v8, vs, rfl, hl9⟩ := len_succ hl8
          obtain ⟨v9, vs, rfl, hl10⟩ := len_succ hl9
          obtain ⟨v10, vs, rfl, hl11⟩ := len_succ hl10
          obtain ⟨v11, vs, rfl, hl12⟩ := len_succ hl11
          obtain ⟨v12, vs, rfl, hl13⟩ := len_succ hl12
          obtain ⟨v13, vs, rfl, hl14⟩ := len_succ hl13
          obtain ⟨v14, vs, rfl, hl15⟩ := len_succ hl14
          obtain ⟨v15, vs, rfl, hl16⟩ := len_succ hl15
          obtain ⟨v16, vs, rfl, hl17⟩ := len_succ hl16
          obtain ⟨v17, vs, rfl, hl18⟩ := len_succ hl17
          obtain ⟨v18, vs, rfl, hl19⟩ := len_succ hl18
          obtain ⟨v19, vs, rfl, hl20⟩ := len_succ hl19
          obtain ⟨v20, vs, rfl, hl21⟩ := len_succ hl20
          obtain ⟨v21, vs, rfl, hl22⟩ := len_succ hl21
          obtain ⟨v22, vs, rfl, hl23⟩ := len_succ hl22
          obtain ⟨v23, vs, rfl, hl24⟩ := len_succ hl23
          obtain ⟨v24, vs, rfl, hl25⟩ := len_succ hl24
          obtain ⟨v25, vs, rfl, hl26⟩ := len_succ hl25
          obtain ⟨v26, vs, rfl, hl27⟩ := len_succ hl26
          obtain ⟨v27, vs, rfl, hl28⟩ := len_succ hl27
          obtain rfl := len_zero hl28
          have dd := hd 1 (by simp) _ rfl; simp only [List.getD_cons_zero, List.getD_cons_succ] at dd; obtain ⟨a, n, c, b, m, d, rfl, hc⟩ := dd
          have dd := hd 3 (by simp) _ rfl; simp only [List.getD_cons_zero, List.getD_cons_succ] at dd; obtain ⟨a', n', c', b', m', d', rfl, hc'⟩ := dd
          clear hd hl hl1 hl2 hl3 hl4 hl5 hl6 hl7 hl8 hl9 hl10 hl11 hl12 hl13 hl14 hl15 hl16 hl17 hl18 hl19 hl20 hl21 hl22 hl23 hl24 hl25 hl26 hl27 hl28
          replace hK := hK.out
          simp only [puts, List.set_cons_zero, List.set_cons_succ, Act.put, List.setIfInBounds_toArray] at hK ⊢
          have hK' : Shut _ := hK
          clear hK
          go_simp
          go_at_call 37; (with_reducible refine (within_t _ _ _ _ _ _ _ _ _ _ _ _ _ _ _ _ hc hc' EP).mono ?_); rintro e w2 ⟨rfl, hb⟩
          (try go_wp2_with fail)
          exact hK'.out _ _ (hb) (step_call hR (hb)) (fun D hD => by cases hD; rfl)
        · refine ⟨[], by decide, fun vs w hl hR hd K hK => ?_⟩
          obtain ⟨v0, vs, rfl, hl1⟩ := len_succ hl
          obtain ⟨v1, vs, rfl, hl2⟩ := len_succ hl1
          obtain ⟨v2, vs, rfl, hl3⟩ := len_succ hl2
          obtain ⟨v3, vs, rfl, hl4⟩ := len_succ hl3
          obtain ⟨v4, vs, rfl, hl5⟩ := len_succ hl4
          obtain ⟨v5, vs, rfl, hl6⟩ := len_succ hl5
          obtain ⟨v6, vs, rfl, hl7⟩ := len_succ hl6
          obtain ⟨v7, vs, rfl, hl8⟩ := len_succ hl7
          obtain ⟨v8, vs, rfl, hl9⟩ := len_succ hl8
          obtain ⟨v9, vs, rfl, hl10⟩ := len_succ hl9
          obtain ⟨v10, vs, rfl, hl11⟩ := len_succ hl10
          obtain ⟨v11, vs, rfl, hl12⟩ := len_succ hl11
          obtain ⟨v12, vs, rfl, hl13⟩ := len_succ hl12
          obtain ⟨v13, vs, rfl, hl14⟩ := len_succ hl13
          obtain ⟨v14, vs, rfl, hl15⟩ := len_succ hl14
          obtain ⟨v15, vs, rfl, hl16⟩ := len_succ hl15
          obtain ⟨v16, vs, rfl, hl17⟩ := len_succ hl16
          obtain ⟨v17, vs, rfl, hl18⟩ := len_succ hl17
          obtain ⟨v18, vs, rfl, hl19⟩ := len_succ hl18
          obtain ⟨v19, vs, rfl, hl20⟩ := len_succ hl19
          obtain ⟨v20, vs, rfl, hl21⟩ := len_succ hl20
          obtain ⟨v21, vs, rfl, hl22⟩ := len_succ hl21
          obtain ⟨v22, vs, rfl, hl23⟩ := len_succ hl22
          obtain ⟨v23, vs, rfl, hl24⟩ := len_succ hl23
          obtain ⟨v24, vs, rfl, hl25⟩ := len_succ hl24
          obtain ⟨v25, vs, rfl, hl26⟩ := len_succ hl25
          obtain ⟨v26, vs, rfl, hl27⟩ := len_succ hl26
          obtain ⟨v27, vs, rfl, hl28⟩ := len_succ hl27
          obtain rfl := len_zero hl28
          clear hd hl hl1 hl2 hl3 hl4 hl5 hl6 hl7 hl8 hl9 hl10 hl11 hl12 hl13 hl14 hl15 hl16 hl17 hl18 hl19 hl20 hl21 hl22 hl23 hl24 hl25 hl26 hl27 hl28
          replace hK := hK.out
          simp only [puts, List.set_cons_zero, List.set_cons_succ, Act.put, List.setIfInBounds_toArray] at hK ⊢
          have hK' : Shut _ := hK
          clear hK
          have qq := hA0.below hR; have q0 := qq.at.1; have q1 := qq.at.2.1; clear qq
          go_simp
          (try go_wp2_with fail)
          exact hK'.out _ _ (Below.refl _ _) (hR) (fun D hD => by cases hD; rfl)
        · refine ⟨[], by decide, fun vs w hl hR hd K hK => ?_⟩
          obtain ⟨v0, vs, rfl, hl1⟩ := len_succ hl
          obtain ⟨v1, vs, rfl, hl2⟩ := len_succ hl1
          obtain ⟨v2, vs, rfl, hl3⟩ := len_succ hl2
          obtain ⟨v3, vs, rfl, hl4⟩ := len_succ hl3
          obtain ⟨v4, vs, rfl, hl5⟩ := len_succ hl4
          obtain ⟨v5, vs, rfl, hl6⟩ := len_succ hl5
          obtain ⟨v6, vs, rfl, hl7⟩ := len_succ hl6
          obtain ⟨v7, vs, rfl, hl8⟩ := len_succ hl7
          obtain ⟨v8, vs, rfl, hl9⟩ := len_succ hl8
          obtain ⟨v9, vs, rfl, hl10⟩ := len_succ hl9
          obtain ⟨v10, vs, rfl, hl11⟩ := len_succ hl10
          obtain ⟨v11, vs, rfl, hl12⟩ := len_succ hl11
          obtain ⟨v12, vs, rfl, hl13⟩ := len_succ hl12
          obtain ⟨v13, vs, rfl, hl14⟩ := len_succ hl13
          obtain ⟨v14, vs, rfl, hl15⟩ := len_succ hl14
          obtain ⟨v15, vs, rfl, hl16⟩ := len_succ hl15
          obtain ⟨v16, vs, rfl, hl17⟩ := len_succ hl16
          obtain ⟨v17, vs, rfl, hl18⟩ := len_succ hl17
          obtain ⟨v18, vs, rfl, hl19⟩ := len_succ hl18
          obtain ⟨v19, vs, rfl, hl20⟩ := len_succ hl19
          obtain ⟨v20, vs, rfl, hl21⟩ := len_succ hl20
          obtain ⟨v21, vs, rfl, hl22⟩ := len_succ hl21
          obtain ⟨v22, vs, rfl, hl23⟩ := len_succ hl22
          obtain ⟨v23, vs, rfl, hl24⟩ := len_succ hl23
          obtain ⟨v24, vs, rfl, hl25⟩ := len_succ hl24
          obtain ⟨v25, vs, rfl, hl26⟩ := len_succ hl25
          obtain ⟨v26, vs, rfl, hl27⟩ := len_succ hl26
          obtain ⟨v27, vs, rfl, hl28⟩ := len_succ hl27
          obtain rfl := len_zero hl28
          clear hd hl hl1 hl2 hl3 hl4 hl5 hl6 hl7 hl8 hl9 hl10 hl11 hl12 hl13 hl14 hl15 hl16 hl17 hl18 hl19 hl20 hl21 hl22 hl23 hl24 hl25 hl26 hl27 hl28
          replace hK := hK.out
          simp only [puts, List.set_cons_zero, List.set_cons_succ, Act.put, List.setIfInBounds_toArray] at hK ⊢
          have hK' : Shut _ := hK
          clear hK
          have qq := hA1.below hR; have q0 := qq.at.1; have q1 := qq.at.2.1; clear qq
          go_simp
          (try go_wp2_with fail)
          exact hK'.out _ _ (Below.refl _ _) (hR) (fun D hD => by cases hD; rfl)
        · refine ⟨[5, 6], by decide, fun vs w hl hR hd K hK => ?_⟩
          obtain ⟨v0, vs, rfl, hl1⟩ := len_succ hl
          obtain ⟨v1, vs, rfl, hl2⟩ := len_succ hl1
          obtain ⟨v2, vs, rfl, hl3⟩ := len_succ hl2
          obtain ⟨v3, vs, rfl, hl4⟩ := len_succ hl3
          obtain ⟨v4, vs, rfl, hl5⟩ := len_succ hl4
          obtain ⟨v5, vs, rfl, hl6⟩ := len_succ hl5
          obtain ⟨v6, vs, rfl, hl7⟩ := len_succ hl6
          obtain ⟨v7, vs, rfl, hl8⟩ := len_succ hl7
          obtain ⟨v8, vs, rfl, hl9⟩ := len_succ hl8
          obtain ⟨v9, vs, rfl, hl10⟩ := len_succ hl9
          obtain ⟨v10, vs, rfl, hl11⟩ := len_succ hl10
          obtain ⟨v11, vs, rfl, hl12⟩ := len_succ hl11
          obtain ⟨v12, vs, rfl, hl13⟩ := len_succ hl12
          obtain ⟨v13, vs, rfl, hl14⟩ := len_succ hl13
          obtain ⟨v14, vs, rfl, hl15⟩ := len_succ hl14
          obtain ⟨v15, vs, rfl, hl16⟩ := len_succ hl15
          obtain ⟨v16, vs, rfl, hl17⟩ := len_succ hl16
          obtain ⟨v17, vs, rfl, hl18⟩ := len_succ hl17
          obtain ⟨v18, vs, rfl, hl19⟩ := len_succ hl18
          obtain ⟨v19, vs, rfl, hl20⟩ := len_succ hl19
          obtain ⟨v20, vs, rfl, hl21⟩ := len_succ hl20
          obtain ⟨v21, vs, rfl, hl22⟩ := len_succ hl21
          obtain ⟨v22, vs, rfl, hl23⟩ := len_succ hl22
          obtain ⟨v23, vs, rfl, hl24⟩ := len_succ hl23
          obtain ⟨v24, vs, rfl, hl25⟩ := len_succ hl24
          obtain ⟨v25, vs, rfl, hl26⟩ := len_succ hl25
          obtain ⟨v26, vs, rfl, hl27⟩ := len_succ hl26
          obtain ⟨v27, vs, rfl, hl28⟩ := len_succ hl27
          obtain rfl := len_zero hl28
          have dd := hd 5 (by simp) _ rfl; simp only [List.getD_cons_zero, List.getD_cons_succ] at dd; obtain rfl := dd
          have dd := hd 6 (by simp) _ rfl; simp only [List.getD_cons_zero, List.getD_cons_succ] at dd; obtain rfl := dd
          clear hd hl hl1 hl2 hl3 hl4 hl5 hl6 hl7 hl8 hl9 hl10 hl11 hl12 hl13 hl14 hl15 hl16 hl17 hl18 hl19 hl20 hl21 hl22 hl23 hl24 hl25 hl26 hl27 hl28
          replace hK := hK.out
          simp only [puts, List.set_cons_zero, List.set_cons_succ, Act.put, List.setIfInBounds_toArray] at hK ⊢
          have hK' : Shut _ := hK
          clear hK
          go_simp
          go_at_call 38; (with_reducible refine (rwithin_t _ _ _ _ _ _ HC.out HK.out EP2).mono ?_); rintro e w2 ⟨rfl, hb⟩
          (try go_wp2_with fail)
          exact hK'.out _ _ (hb) (step_call hR (hb)) (fun D hD => by cases hD; rfl)
        · refine ⟨[4, 7], by decide, fun vs w hl hR hd K hK => ?_⟩
          obtain ⟨v0, vs, rfl, hl1⟩ := len_succ hl
          obtain ⟨v1, vs, rfl, hl2⟩ := len_succ hl1
          obtain ⟨v2, vs, rfl, hl3⟩ := len_succ hl2
          obtain ⟨v3, vs, rfl, hl4⟩ := len_succ hl3
          obtain ⟨v4, vs, rfl, hl5⟩ := len_succ hl4
          obtain ⟨v5, vs, rfl, hl6⟩ := len_succ hl5
          obtain ⟨v6, vs, rfl, hl7⟩ := len_succ hl6
          obtain ⟨v7, vs, rfl, hl8⟩ := len_succ hl7
          obtain ⟨v8, vs, rfl, hl9⟩ := len_succ hl8
          obtain ⟨v9, vs, rfl, hl10⟩ := len_succ hl9
          obtain ⟨v10, vs, rfl, hl11⟩ := len_succ hl10
          obtain ⟨v11, vs, rfl, hl12⟩ := len_succ hl11
          obtain ⟨v12, vs, rfl, hl13⟩ := len_succ hl12
          obtain ⟨v13, vs, rfl, hl14⟩ := len_succ hl13
          obtain ⟨v14, vs, rfl, hl15⟩ := len_succ hl14
          obtain ⟨v15, vs, rfl, hl16⟩ := len_succ hl15
          obtain ⟨v16, vs, rfl, hl17⟩ := len_succ hl16
          obtain ⟨v17, vs, rfl, hl18⟩ := len_succ hl17
          obtain ⟨v18, vs, rfl, hl19⟩ := len_succ hl18
          obtain ⟨v19, vs, rfl, hl20⟩ := len_succ hl19
          obtain ⟨v20, vs, rfl, hl21⟩ := len_succ hl20
          obtain ⟨v21, vs, rfl, hl22⟩ := len_succ hl21
          obtain ⟨v22, vs, rfl, hl23⟩ := len_succ hl22
          obtain ⟨v23, vs, rfl, hl24⟩ := len_succ hl23
          obtain ⟨v24, vs, rfl, hl25⟩ := len_succ hl24
          obtain ⟨v25, vs, rfl, hl26⟩ := len_succ hl25
          obtain ⟨v26, vs, rfl, hl27⟩ := len_succ hl26
          obtain ⟨v27, vs, rfl, hl28⟩ := len_succ hl27
          obtain rfl := len_zero hl28
          have dd := hd 4 (by simp) _ rfl; simp only [List.getD_cons_zero, List.getD_cons_succ] at dd; obtain rfl := dd
          have dd := hd 7 (by simp) _ rfl; simp only [List.getD_cons_zero, List.getD_cons_succ] at dd; obtain rfl := dd
          clear hd hl hl1 hl2 hl3 hl4 hl5 hl6 hl7 hl8 hl9 hl10 hl11 hl12 hl13 hl14 hl15 hl16 hl17 hl18 hl19 hl20 hl21 hl22 hl23 hl24 hl25 hl26 hl27 hl28
          replace hK := hK.out
          simp only [puts, List.set_cons_zero, List.set_cons_succ, Act.put, List.setIfInBounds_toArray] at hK ⊢
          have hK' : Shut _ := hK
          clear hK
          go_simp
          (try simp only [beq_self_eq_true])
          (try go_wp2_with fail)
          exact hK'.out _ _ (Below.refl _ _) (hR) (fun D hD => by cases hD; rfl)
        · refine ⟨[8], by decide, fun vs w hl hR hd K hK => ?_⟩
          obtain ⟨v0, vs, rfl, hl1⟩ := len_succ hl
          obtain ⟨v1, vs, rfl, hl2⟩ := len_succ hl1
          obtain ⟨v2, vs, rfl, hl3⟩ := len_succ hl2
          obtain ⟨v3, vs, rfl, hl4⟩ := len_succ hl3
          obtain ⟨v4, vs, rfl, hl5⟩ := len_succ hl4
          obtain ⟨v5, vs, rfl, hl6⟩ := len_succ hl5
          obtain ⟨v6, vs, rfl, hl7⟩ := len_succ hl6
          obtain ⟨v7, vs, rfl, hl8⟩ := len_succ hl7
          obtain ⟨v8, vs, rfl, hl9⟩ := len_succ hl8
          obtain ⟨v9, vs, rfl, hl10⟩ := len_succ hl9
          obtain ⟨v10, vs, rfl, hl11⟩ := len_succ hl10
          obtain ⟨v11, vs, rfl, hl12⟩ := len_succ hl11
          obtain ⟨v12, vs, rfl, hl13⟩ := len_succ hl12
          obtain ⟨v13, vs, rfl, hl14⟩ := len_succ hl13
          obtain ⟨v14, vs, rfl, hl15⟩ := len_succ hl14
          obtain ⟨v15, vs, rfl, hl16⟩ := len_succ hl15
          obtain ⟨v16, vs, rfl, hl17⟩ := len_succ hl16
          obtain ⟨v17, vs, rfl, hl18⟩ := len_succ hl17
          obtain ⟨v18, vs, rfl, hl19⟩ := len_succ hl18
          obtain ⟨v19, vs, rfl, hl20⟩ := len_succ hl19
          obtain ⟨v20, vs, rfl, hl21⟩ := len_succ hl20
          obtain ⟨v21, vs, rfl, hl22⟩ := len_succ hl21
          obtain ⟨v22, vs, rfl, hl23⟩ := len_succ hl22
          obtain ⟨v23, vs, rfl, hl24⟩ := len_succ hl23
          obtain ⟨v24, vs, rfl, hl25⟩ := len_succ hl24
          obtain ⟨v25, vs, rfl, hl26⟩ := len_succ hl25
          obtain ⟨v26, vs, rfl, hl27⟩ := len_succ hl26
          obtain ⟨v27, vs, rfl, hl28⟩ := len_succ hl27
          obtain rfl := len_zero hl28
          have dd := hd 8 (by simp) _ rfl; simp only [List.getD_cons_zero, List.getD_cons_succ] at dd; obtain rfl := dd
          clear hd hl hl1 hl2 hl3 hl4 hl5 hl6 hl7 hl8 hl9 hl10 hl11 hl12 hl13 hl14 hl15 hl16 hl17 hl18 hl19 hl20 hl21 hl22 hl23 hl24 hl25 hl26 hl27 hl28
          replace hK := hK.out
          simp only [puts, List.set_cons_zero, List.set_cons_succ, Act.put, List.setIfInBounds_toArray] at hK ⊢
          have hK' : Shut _ := hK
          clear hK
          go_simp
          (try go_wp2_with fail)
          exact hK'.out _ _ (Below.refl _ _) (hR) (fun D hD => by cases hD; rfl)
        · refine ⟨[9], by decide, fun vs w hl hR hd K hK => ?_⟩
          obtain ⟨v0, vs, rfl, hl1⟩ := len_succ hl
          obtain ⟨v1, vs, rfl, hl2⟩ := len_succ hl1
          obtain ⟨v2, vs, rfl, hl3⟩ := len_succ hl2
          obtain ⟨v3, vs, rfl, hl4⟩ := len_succ hl3
          obtain ⟨v4, vs, rfl, hl5⟩ := len_succ hl4
          obtain ⟨v5, vs, rfl, hl6⟩ := len_succ hl5
          obtain ⟨v6, vs, rfl, hl7⟩ := len_succ hl6
          obtain ⟨v7, vs, rfl, hl8⟩ := len_succ hl7
          obtain ⟨v8, vs, rfl, hl9⟩ := len_succ hl8
          obtain ⟨v9, vs, rfl, hl10⟩ := len_succ hl9
          obtain ⟨v10, vs, rfl, hl11⟩ := len_succ hl10
          obtain ⟨v11, vs, rfl, hl12⟩ := len_succ hl11
          obtain ⟨v12, vs, rfl, hl13⟩ := len_succ hl12
          obtain ⟨v13, vs, rfl, hl14⟩ := len_succ hl13
          obtain ⟨v14, vs, rfl, hl15⟩ := len_succ hl14
          obtain ⟨v15, vs, rfl, hl16⟩ := len_succ hl15
          obtain ⟨v16, vs, rfl, hl17⟩ := len_succ hl16
          obtain ⟨v17, vs, rfl, hl18⟩ := len_succ hl17
          obtain ⟨v18, vs, rfl, hl19⟩ := len_succ hl18
          obtain ⟨v19, vs, rfl, hl20⟩ := len_succ hl19
          obtain ⟨v20, vs, rfl, hl21⟩ := len_succ hl20
          obtain ⟨v21, vs, rfl, hl22⟩ := len_succ hl21
          obtain ⟨v22, vs, rfl, hl23⟩ := len_succ hl22
          obtain ⟨v23, vs, rfl, hl24⟩ := len_succ hl23
          obtain ⟨v24, vs, rfl, hl25⟩ := len_succ hl24
          obtain ⟨v25, vs, rfl, hl26⟩ := len_succ hl25
          obtain ⟨v26, vs, rfl, hl27⟩ := len_succ hl26
          obtain ⟨v27, vs, rfl, hl28⟩ := len_succ hl27
          obtain rfl := len_zero hl28
          have dd := hd 9 (by simp) _ rfl; simp only [List.getD_cons_zero, List.getD_cons_succ] at dd; obtain rfl := dd
          clear hd hl hl1 hl2 hl3 hl4 hl5 hl6 hl7 hl8 hl9 hl10 hl11 hl12 hl13 hl14 hl15 hl16 hl17 hl18 hl19 hl20 hl21 hl22 hl23 hl24 hl25 hl26 hl27 hl28
          replace hK := hK.out
          simp only [puts, List.set_cons_zero, List.set_cons_succ, Act.put, List.setIfInBounds_toArray] at hK ⊢
          have hK' : Shut _ := hK
          clear hK
          have qq := hA1.below hR; have q0 := qq.at.1; have q1 := qq.at.2.1; clear qq
          go_simp
          (try go_wp2_with fail)
          exact hK'.out _ _ (Below.refl _ _) (hR) (fun D hD => by cases hD; rfl)
        · refine ⟨[10, 9], by decide, fun vs w hl hR hd K hK => ?_⟩
          obtain ⟨v0, vs, rfl, hl1⟩ := len_succ hl
          obtain ⟨v1, vs, rfl, hl2⟩ := len_succ hl1
          obtain ⟨v2, vs, rfl, hl3⟩ := len_succ hl2
          obtain ⟨v3, vs, rfl, hl4⟩ := len_succ hl3
          obtain ⟨v4, vs, rfl, hl5⟩ := len_succ hl4
          obtain ⟨v5, vs, rfl, hl6⟩ := len_succ hl5
          obtain ⟨v6, vs, rfl, hl7⟩ := len_succ hl6
          obtain ⟨v7, vs, rfl, hl8⟩ := len_succ hl7
          obtain ⟨v8, vs, rfl, hl9⟩ := len_succ hl8
          obtain ⟨v9, vs, rfl, hl10⟩ := len_succ hl9
          obtain ⟨v10, vs, rfl, hl11⟩ := len_succ hl10
          obtain ⟨v11, vs, rfl, hl12⟩ := len_succ hl11
          obtain ⟨v12, vs, rfl, hl13⟩ := len_succ hl12
          obtain ⟨v13, vs, rfl, hl14⟩ := len_succ hl13
          obtain ⟨v14, vs, rfl, hl15⟩ := len_succ hl14
          obtain ⟨v15, vs, rfl, hl16⟩ := len_succ hl15
          obtain ⟨v16, vs, rfl, hl17⟩ := len_succ hl16
          obtain ⟨v17, vs, rfl, hl18⟩ := len_succ hl17
          obtain ⟨v18, vs, rfl, hl19⟩ := len_succ hl18
          obtain ⟨v19, vs, rfl, hl20⟩ := len_succ hl19
          obtain ⟨v20, vs, rfl, hl21⟩ := len_succ hl20
          obtain ⟨v21, vs, rfl, hl22⟩ := len_succ hl21
          obtain ⟨v22, vs, rfl, hl23⟩ := len_succ hl22
          obtain ⟨v23, vs, rfl, hl24⟩ := len_succ hl23
          obtain ⟨v24, vs, rfl, hl25⟩ := len_succ hl24
          obtain ⟨v25, vs, rfl, hl26⟩ := len_succ hl25
          obtain ⟨v26, vs, rfl, hl27⟩ := len_succ hl26
          obtain ⟨v27, vs, rfl, hl28⟩ := len_succ hl27
          obtain rfl := len_zero hl28
          have dd := hd 10 (by simp) _ rfl; simp only [List.getD_cons_zero, List.getD_cons_succ] at dd; obtain rfl := dd
          have dd := hd 9 (by simp) _ rfl; simp only [List.getD_cons_zero, List.getD_cons_succ] at dd; obtain rfl := dd
          clear hd hl hl1 hl2 hl3 hl4 hl5 hl6 hl7 hl8 hl9 hl10 hl11 hl12 hl13 hl14 hl15 hl16 hl17 hl18 hl19 hl20 hl21 hl22 hl23 hl24 hl25 hl26 hl27 hl28
          replace hK := hK.out
          simp only [puts, List.set_cons_zero, List.set_cons_succ, Act.put, List.setIfInBounds_toArray] at hK ⊢
          have hK' : Shut _ := hK
          clear hK
          go_simp
          go_at_call 18; (with_reducible refine (lawmake_c _ _ _ _ HK.out EY).mono ?_); rintro e w2 ⟨a, n, c, b, m, d, rfl, hc, hb⟩
          (try go_wp2_with fail)
          exact hK'.out _ _ (hb) (step_call hR (hb)) (fun D hD => by cases hD; exact ⟨_, _, _, _, _, _, rfl, hc⟩)
        · refine ⟨[9], by decide, fun vs w hl hR hd K hK => ?_⟩
          obtain ⟨v0, vs, rfl, hl1⟩ := len_succ hl
          obtain ⟨v1, vs, rfl, hl2⟩ := len_succ hl1
          obtain ⟨v2, vs, rfl, hl3⟩ := len_succ hl2
          obtain ⟨v3, vs, rfl, hl4⟩ := len_succ hl3
          obtain ⟨v4, vs, rfl, hl5⟩ := len_succ hl4
          obtain ⟨v5, vs, rfl, hl6⟩ := len_succ hl5
          obtain ⟨v6, vs, rfl, hl7⟩ := len_succ hl6
          obtain ⟨v7, vs, rfl, hl8⟩ := len_succ hl7
          obtain ⟨v8, vs, rfl, hl9⟩ := len_succ hl8
          obtain ⟨v9, vs, rfl, hl10⟩ := len_succ hl9
          obtain ⟨v10, vs, rfl, hl11⟩ := len_succ hl10
          obtain ⟨v11, vs, rfl, hl12⟩ := len_succ hl11
          obtain ⟨v12, vs, rfl, hl13⟩ := len_succ hl12
          obtain ⟨v13, vs, rfl, hl14⟩ := len_succ hl13
          obtain ⟨v14, vs, rfl, hl15⟩ := len_succ hl14
          obtain ⟨v15, vs, rfl, hl16⟩ := len_succ hl15
          obtain ⟨v16, vs, rfl, hl17⟩ := len_succ hl16
          obtain ⟨v17, vs, rfl, hl18⟩ := len_succ hl17
          obtain ⟨v18, vs, rfl, hl19⟩ := len_succ hl18
          obtain ⟨v19, vs, rfl, hl20⟩ := len_succ hl19
          obtain ⟨v20, vs, rfl, hl21⟩ := len_succ hl20
          obtain ⟨v21, vs, rfl, hl22⟩ := len_succ hl21
          obtain ⟨v22, vs, rfl, hl23⟩ := len_succ hl22
          obtain ⟨v23, vs, rfl, hl24⟩ := len_succ hl23
          obtain ⟨v24, vs, rfl, hl25⟩ := len_succ hl24
          obtain ⟨v25, vs, rfl, hl26⟩ := len_succ hl25
          obtain ⟨v26, vs, rfl, hl27⟩ := len_succ hl26
          obtain ⟨v27, vs, rfl, hl28⟩ := len_succ hl27
          obtain rfl := len_zero hl28
          have dd := hd 9 (by simp) _ rfl; simp only [List.getD_cons_zero, List.getD_cons_succ] at dd; obtain rfl := dd
          clear hd hl hl1 hl2 hl3 hl4 hl5 hl6 hl7 hl8 hl9 hl10 hl11 hl12 hl13 hl14 hl15 hl16 hl17 hl18 hl19 hl20 hl21 hl22 hl23 hl24 hl25 hl26 hl27 hl28
          replace hK := hK.out
          simp only [puts, List.set_cons_zero, List.set_cons_succ, Act.put, List.setIfInBounds_toArray] at hK ⊢
          have hK' : Shut _ := hK
          clear hK
          have qq := hA0.below hR; have q0 := qq.at.1; have q1 := qq.at.2.1; clear qq
          go_simp
          (try go_wp2_with fail)
          exact hK'.out _ _ (Below.refl _ _) (hR) (fun D hD => by cases hD; rfl)
        · refine ⟨[12, 9], by decide, fun vs w hl hR hd K hK => ?_⟩
          obtain ⟨v0, vs, rfl, hl1⟩ := len_succ hl
          obtain ⟨v1, vs, rfl, hl2⟩ := len_succ hl1
          obtain ⟨v2, vs, rfl, hl3⟩ := len_succ hl2
          obtain ⟨v3, vs, rfl, hl4⟩ := len_succ hl3
          obtain ⟨v4, vs, rfl, hl5⟩ := len_succ hl4
          obtain ⟨v5, vs, rfl, hl6⟩ := len_succ hl5
          obtain ⟨v6, vs, rfl, hl7⟩ := len_succ hl6
          obtain ⟨v7, vs, rfl, hl8⟩ := len_succ hl7
          obtain ⟨v8, vs, rfl, hl9⟩ := len_succ hl8
          obtain ⟨v9, vs, rfl, hl10⟩ := len_succ hl9
          obtain ⟨v10, vs, rfl, hl11⟩ := len_succ hl10
          obtain ⟨v11, vs, rfl, hl12⟩ := len_succ hl11
          obtain ⟨v12, vs, rfl, hl13⟩ := len_succ hl12
          obtain ⟨v13, vs, rfl, hl14⟩ := len_succ hl13
          obtain ⟨v14, vs, rfl, hl15⟩ := len_succ hl14
          obtain ⟨v15, vs, rfl, hl16⟩ := len_succ hl15
          obtain ⟨v16, vs, rfl, hl17⟩ := len_succ hl16
          obtain ⟨v17, vs, rfl, hl18⟩ := len_succ hl17
          obtain ⟨v18, vs, rfl, hl19⟩ := len_succ hl18
          obtain ⟨v19, vs, rfl, hl20⟩ := len_succ hl19
          obtain ⟨v20, vs, rfl, hl21⟩ := len_succ hl20
          obtain ⟨v21, vs, rfl, hl22⟩ := len_succ hl21
          obtain ⟨v22, vs, rfl, hl23⟩ := len_succ hl22
          obtain ⟨v23, vs, rfl, hl24⟩ := len_succ hl23
          obtain ⟨v24, vs, rfl, hl25⟩ := len_succ hl24
          obtain ⟨v25, vs, rfl, hl26⟩ := len_succ hl25
          obtain ⟨v26, vs, rfl, hl27⟩ := len_succ hl26
          obtain ⟨v27, vs, rfl, hl28⟩ := len_succ hl27
          obtain rfl := len_zero hl28
          have dd := hd 12 (by simp) _ rfl; simp only [List.getD_cons_zero, List.getD_cons_succ] at dd; obtain rfl := dd
          have dd := hd 9 (by simp) _ rfl; simp only [List.getD_cons_zero, List.getD_cons_succ] at dd; obtain rfl := dd
          clear hd hl hl1 hl2 hl3 hl4 hl5 hl6 hl7 hl8 hl9 hl10 hl11 hl12 hl13 hl14 hl15 hl16 hl17 hl18 hl19 hl20 hl21 hl22 hl23 hl24 hl25 hl26 hl27 hl28
          replace hK := hK.out
          simp only [puts, List.set_cons_zero, List.set_cons_succ, Act.put, List.setIfInBounds_toArray] at hK ⊢
          have hK' : Shut _ := hK
          clear hK
          go_simp
          go_at_call 18; (with_reducible refine (lawmake_c _ _ _ _ HC.out EX).mono ?_); rintro e w2 ⟨a, n, c, b, m, d, rfl, hc, hb⟩
          (try go_wp2_with fail)
          exact hK'.out _ _ (hb) (step_call hR (hb)) (fun D hD => by cases hD; exact ⟨_, _, _, _, _, _, rfl, hc⟩)
        · refine ⟨[11, 13, 9], by decide, fun vs w hl hR hd K hK => ?_⟩
          obtain ⟨v0, vs, rfl, hl1⟩ := len_succ hl
          obtain ⟨v1, vs, rfl, hl2⟩ := len_succ hl1
          obtain ⟨v2, vs, rfl, hl3⟩ := len_succ hl2
          obtain ⟨v3, vs, rfl, hl4⟩ := len_succ hl3
          obtain ⟨v4, vs, rfl, hl5⟩ := len_succ hl4
          obtain ⟨v5, vs, rfl, hl6⟩ := len_succ hl5
          obtain ⟨v6, vs, rfl, hl7⟩ := len_succ hl6
          obtain ⟨v7, vs, rfl, hl8⟩ := len_succ hl7
          obtain ⟨v8, vs, rfl, hl9⟩ := len_succ hl8
          obtain ⟨v9, vs, rfl, hl10⟩ := len_succ hl9
          obtain ⟨v10, vs, rfl, hl11⟩ := len_succ hl10
          obtain ⟨v11, vs, rfl, hl12⟩ := len_succ hl11
          obtain ⟨v12, vs, rfl, hl13⟩ := len_succ hl12
          obtain ⟨v13, vs, rfl, hl14⟩ := len_succ hl13
          obtain ⟨v14, vs, rfl, hl15⟩ := len_succ hl14
          obtain ⟨v15, vs, rfl, hl16⟩ := len_succ hl15
          obtain ⟨v16, vs, rfl, hl17⟩ := len_succ hl16
          obtain ⟨v17, vs, rfl, hl18⟩ := len_succ hl17
          obtain ⟨v18, vs, rfl, hl19⟩ := len_succ hl18
          obtain ⟨v19, vs, rfl, hl20⟩ := len_succ hl19
          obtain ⟨v20, vs, rfl, hl21⟩ := len_succ hl20
          obtain ⟨v21, vs, rfl, hl22⟩ := len_succ hl21
          obtain ⟨v22, vs, rfl, hl23⟩ := len_succ hl22
          obtain ⟨v23, vs, rfl, hl24⟩ := len_succ hl23
          obtain ⟨v24, vs, rfl, hl25⟩ := len_succ hl24
          obtain ⟨v25, vs, rfl, hl26⟩ := len_succ hl25
          obtain ⟨v26, vs, rfl, hl27⟩ := len_succ hl26
          obtain ⟨v27, vs, rfl, hl28⟩ := len_succ hl27
          obtain rfl := len_zero hl28
          have dd := hd 11 (by simp) _ rfl; simp only [List.getD_cons_zero, List.getD_cons_succ] at dd; refine dd.elim ?_; clear dd; intro a n c b m d e hc; subst e
          have dd := hd 13 (by simp) _ rfl; simp only [List.getD_cons_zero, List.getD_cons_succ] at dd; refine dd.elim ?_; clear dd; intro a' n' c' b' m' d' e hc'; subst e
          have dd := hd 9 (by simp) _ rfl; simp only [List.getD_cons_zero, List.getD_cons_succ] at dd; obtain rfl := dd
          clear hd hl hl1 hl2 hl3 hl4 hl5 hl6 hl7 hl8 hl9 hl10 hl11 hl12 hl13 hl14 hl15 hl16 hl17 hl18 hl19 hl20 hl21 hl22 hl23 hl24 hl25 hl26 hl27 hl28
          replace hK := hK.out
          simp only [puts, List.set_cons_zero, List.set_cons_succ, Act.put, List.setIfInBounds_toArray] at hK ⊢
          have hK' : Shut _ := hK
          clear hK
          go_simp
          go_at_call 37; (with_reducible refine (within_t _ _ _ _ _ _ _ _ _ _ _ _ _ _ _ _ hc hc' EQ).mono ?_); rintro e w2 ⟨rfl, hb⟩
          (try go_wp2_with fail)
          exact hK'.out _ _ (hb) (step_call hR (hb)) (fun D hD => by cases hD; rfl)
        · refine ⟨[9], by decide, fun vs w hl hR hd K hK => ?_⟩
          obtain ⟨v0, vs, rfl, hl1⟩ := len_succ hl
          obtain ⟨v1, vs, rfl, hl2⟩ := len_succ hl1
          obtain ⟨v2, vs, rfl, hl3⟩ := len_succ hl2
          obtain ⟨v3, vs, rfl, hl4⟩ := len_succ hl3
          obtain ⟨v4, vs, rfl, hl5⟩ := len_succ hl4
          obtain ⟨v5, vs, rfl, hl6⟩ := len_succ hl5
          obtain ⟨v6, vs, rfl, hl7⟩ := len_succ hl6
          obtain ⟨v7, vs, rfl, hl8⟩ := len_succ hl7
          obtain ⟨v8, vs, rfl, hl9⟩ := len_succ hl8
          obtain ⟨v9, vs, rfl, hl10⟩ := len_succ hl9
          obtain ⟨v10, vs, rfl, hl11⟩ := len_succ hl10
          obtain ⟨v11, vs, rfl, hl12⟩ := len_succ hl11
          obtain ⟨v12, vs, rfl, hl13⟩ := len_succ hl12
          obtain ⟨v13, vs, rfl, hl14⟩ := len_succ hl13
          obtain ⟨v14, vs, rfl, hl15⟩ := len_succ hl14
          obtain ⟨v15, vs, rfl, hl16⟩ := len_succ hl15
          obtain ⟨v16, vs, rfl, hl17⟩ := len_succ hl16
          obtain ⟨v17, vs, rfl, hl18⟩ := len_succ hl17
          obtain ⟨v18, vs, rfl, hl19⟩ := len_succ hl18
          obtain ⟨v19, vs, rfl, hl20⟩ := len_succ hl19
          obtain ⟨v20, vs, rfl, hl21⟩ := len_succ hl20
          obtain ⟨v21, vs, rfl, hl22⟩ := len_succ hl21
          obtain ⟨v22, vs, rfl, hl23⟩ := len_succ hl22
          obtain ⟨v23, vs, rfl, hl24⟩ := len_succ hl23
          obtain ⟨v24, vs, rfl, hl25⟩ := len_succ hl24
          obtain ⟨v25, vs, rfl, hl26⟩ := len_succ hl25
          obtain ⟨v26, vs, rfl, hl27⟩ := len_succ hl26
          obtain ⟨v27, vs, rfl, hl28⟩ := len_succ hl27
          obtain rfl := len_zero hl28
          have dd := hd 9 (by simp) _ rfl; simp only [List.getD_cons_zero, List.getD_cons_succ] at dd; obtain rfl := dd
          clear hd hl hl1 hl2 hl3 hl4 hl5 hl6 hl7 hl8 hl9 hl10 hl11 hl12 hl13 hl14 hl15 hl16 hl17 hl18 hl19 hl20 hl21 hl22 hl23 hl24 hl25 hl26 hl27 hl28
          replace hK := hK.out
          simp only [puts, List.set_cons_zero, List.set_cons_succ, Act.put, List.setIfInBounds_toArray] at hK ⊢
          have hK' : Shut _ := hK
          clear hK
          have qq := hA1.below hR; have q0 := qq.at.1; have q1 := qq.at.2.1; clear qq
          go_simp
          (try go_wp2_with fail)
          exact hK'.out _ _ (Below.refl _ _) (hR) (fun D hD => by cases hD; rfl)
        · refine ⟨[9], by decide, fun vs w hl hR hd K hK => ?_⟩
          obtain ⟨v0, vs, rfl, hl1⟩ := len_succ hl
          obtain ⟨v1, vs, rfl, hl2⟩ := len_succ hl1
          obtain ⟨v2, vs, rfl, hl3⟩ := len_succ hl2
          obtain ⟨v3, vs, rfl, hl4⟩ := len_succ hl3
          obtain ⟨v4, vs, rfl, hl5⟩ := len_succ hl4
          obtain ⟨v5, vs, rfl, hl6⟩ := len_succ hl5
          obtain ⟨v6, vs, rfl, hl7⟩ := len_succ hl6
          obtain ⟨v7, vs, rfl, hl8⟩ := len_succ hl7
          obtain ⟨v8, vs, rfl, hl9⟩ := len_succ hl8
          obtain ⟨v9, vs, rfl, hl10⟩ := len_succ hl9
          obtain ⟨v10, vs, rfl, hl11⟩ := len_succ hl10
          obtain ⟨v11, vs, rfl, hl12⟩ := len_succ hl11
          obtain ⟨v12, vs, rfl, hl13⟩ := len_succ hl12
          obtain ⟨v13, vs, rfl, hl14⟩ := len_succ hl13
          obtain ⟨v14, vs, rfl, hl15⟩ := len_succ hl14
          obtain ⟨v15, vs, rfl, hl16⟩ := len_succ hl15
          obtain ⟨v16, vs, rfl, hl17⟩ := len_succ hl16
          obtain ⟨v17, vs, rfl, hl18⟩ := len_succ hl17
          obtain ⟨v18, vs, rfl, hl19⟩ := len_succ hl18
          obtain ⟨v19, vs, rfl, hl20⟩ := len_succ hl19
          obtain ⟨v20, vs, rfl, hl21⟩ := len_succ hl20
          obtain ⟨v21, vs, rfl, hl22⟩ := len_succ hl21
          obtain ⟨v22, vs, rfl, hl23⟩ := len_succ hl22
          obtain ⟨v23, vs, rfl, hl24⟩ := len_succ hl23
          obtain ⟨v24, vs, rfl, hl25⟩ := len_succ hl24
          obtain ⟨v25, vs, rfl, hl26⟩ := len_succ hl25
          obtain ⟨v26, vs, rfl, hl27⟩ := len_succ hl26
          obtain ⟨v27, vs, rfl, hl28⟩ := len_succ hl27
          obtain rfl := len_zero hl28
          have dd := hd 9 (by simp) _ rfl; simp only [List.getD_cons_zero, List.getD_cons_succ] at dd; obtain rfl := dd
          clear hd hl hl1 hl2 hl3 hl4 hl5 hl6 hl7 hl8 hl9 hl10 hl11 hl12 hl13 hl14 hl15 hl16 hl17 hl18 hl19 hl20 hl21 hl22 hl23 hl24 hl25 hl26 hl27 hl28
          replace hK := hK.out
          simp only [puts, List.set_cons_zero, List.set_cons_succ, Act.put, List.setIfInBounds_toArray] at hK ⊢
          have hK' : Shut _ := hK
          clear hK
          have qq := hA0.below hR; have q0 := qq.at.1; have q1 := qq.at.2.1; clear qq
          go_simp
          (try go_wp2_with fail)
          exact hK'.out _ _ (Below.refl _ _) (hR) (fun D hD => by cases hD; rfl)
        · refine ⟨[15, 16, 9], by decide, fun vs w hl hR hd K hK => ?_⟩
          obtain ⟨v0, vs, rfl, hl1⟩ := len_succ hl
          obtain ⟨v1, vs, rfl, hl2⟩ := len_succ hl1
          obtain ⟨v2, vs, rfl, hl3⟩ := len_succ hl2
          obtain ⟨v3, vs, rfl, hl4⟩ := len_succ hl3
          obtain ⟨v4, vs, rfl, hl5⟩ := len_succ hl4
          obtain ⟨v5, vs, rfl, hl6⟩ := len_succ hl5
          obtain ⟨v6, vs, rfl, hl7⟩ := len_succ hl6
          obtain ⟨v7, vs, rfl, hl8⟩ := len_succ hl7
          obtain ⟨v8, vs, rfl, hl9⟩ := len_succ hl8
          obtain ⟨v9, vs, rfl, hl10⟩ := len_succ hl9
          obtain ⟨v10, vs, rfl, hl11⟩ := len_succ hl10
          obtain ⟨v11, vs, rfl, hl12⟩ := len_succ hl11
          obtain ⟨v12, vs, rfl, hl13⟩ := len_succ hl12
          obtain ⟨v13, vs, rfl, hl14⟩ := len_succ hl13
          obtain ⟨v14, vs, rfl, hl15⟩ := len_succ hl14
          obtain ⟨v15, vs, rfl, hl16⟩ := len_succ hl15
          obtain ⟨v16, vs, rfl, hl17⟩ := len_succ hl16
          obtain ⟨v17, vs, rfl, hl18⟩ := len_succ hl17
          obtain ⟨v18, vs, rfl, hl19⟩ := len_succ hl18
          obtain ⟨v19, vs, rfl, hl20⟩ := len_succ hl19
          obtain ⟨v20, vs, rfl, hl21⟩ := len_succ hl20
          obtain ⟨v21, vs, rfl, hl22⟩ := len_succ hl21
          obtain ⟨v22, vs, rfl, hl23⟩ := len_succ hl22
          obtain ⟨v23, vs, rfl, hl24⟩ := len_succ hl23
          obtain ⟨v24, vs, rfl, hl25⟩ := len_succ hl24
          obtain ⟨v25, vs, rfl, hl26⟩ := len_succ hl25
          obtain ⟨v26, vs, rfl, hl27⟩ := len_succ hl26
          obtain ⟨v27, vs, rfl, hl28⟩ := len_succ hl27
          obtain rfl := len_zero hl28
          have dd := hd 15 (by simp) _ rfl; simp only [List.getD_cons_zero, List.getD_cons_succ] at dd; obtain rfl := dd
          have dd := hd 16 (by simp) _ rfl; simp only [List.getD_cons_zero, List.getD_cons_succ] at dd; obtain rfl := dd
          have dd := hd 9 (by simp) _ rfl; simp only [List.getD_cons_zero, List.getD_cons_succ] at dd; obtain rfl := dd
          clear hd hl hl1 hl2 hl3 hl4 hl5 hl6 hl7 hl8 hl9 hl10 hl11 hl12 hl13 hl14 hl15 hl16 hl17 hl18 hl19 hl20 hl21 hl22 hl23 hl24 hl25 hl26 hl27 hl28
          replace hK := hK.out
          simp only [puts, List.set_cons_zero, List.set_cons_succ, Act.put, List.setIfInBounds_toArray] at hK ⊢
          have hK' : Shut _ := hK
          clear hK
          go_simp
          go_at_call 38; (with_reducible refine (rwithin_t _ _ _ _ _ _ HK.out HC.out EQ2).mono ?_); rintro e w2 ⟨rfl, hb⟩
          (try go_wp2_with fail)
          exact hK'.out _ _ (hb) (step_call hR (hb)) (fun D hD => by cases hD; rfl)
        · refine ⟨[14, 17, 9], by decide, fun vs w hl hR hd K hK => ?_⟩
          obtain ⟨v0, vs, rfl, hl1⟩ := len_succ hl
          obtain ⟨v1, vs, rfl, hl2⟩ := len_succ hl1
          obtain ⟨v2, vs, rfl, hl3⟩ := len_succ hl2
          obtain ⟨v3, vs, rfl, hl4⟩ := len_succ hl3
          obtain ⟨v4, vs, rfl, hl5⟩ := len_succ hl4
          obtain ⟨v5, vs, rfl, hl6⟩ := len_succ hl5
          obtain ⟨v6, vs, rfl, hl7⟩ := len_succ hl6
          obtain ⟨v7, vs, rfl, hl8⟩ := len_succ hl7
          obtain ⟨v8, vs, rfl, hl9⟩ := len_succ hl8
          obtain ⟨v9, vs, rfl, hl10⟩ := len_succ hl9
          obtain ⟨v10, vs, rfl, hl11⟩ := len_succ hl10
          obtain ⟨v11, vs, rfl, hl12⟩ := len_succ hl11
          obtain ⟨v12, vs, rfl, hl13⟩ := len_succ hl12
          obtain ⟨v13, vs, rfl, hl14⟩ := len_succ hl13
          obtain ⟨v14, vs, rfl, hl15⟩ := len_succ hl14
          obtain ⟨v15, vs, rfl, hl16⟩ := len_succ hl15
          obtain ⟨v16, vs, rfl, hl17⟩ := len_succ hl16
          obtain ⟨v17, vs, rfl, hl18⟩ := len_succ hl17
          obtain ⟨v18, vs, rfl, hl19⟩ := len_succ hl18
          obtain ⟨v19, vs, rfl, hl20⟩ := len_succ hl19
          obtain ⟨v20, vs, rfl, hl21⟩ := len_succ hl20
          obtain ⟨v21, vs, rfl, hl22⟩ := len_succ hl21
          obtain ⟨v22, vs, rfl, hl23⟩ := len_succ hl22
          obtain ⟨v23, vs, rfl, hl24⟩ := len_succ hl23
          obtain ⟨v24, vs, rfl, hl25⟩ := len_succ hl24
          obtain ⟨v25, vs, rfl, hl26⟩ := len_succ hl25
          obtain ⟨v26, vs, rfl, hl27⟩ := len_succ hl26
          obtain ⟨v27, vs, rfl, hl28⟩ := len_succ hl27
          obtain rfl := len_zero hl28
          have dd := hd 14 (by simp) _ rfl; simp only [List.getD_cons_zero, List.getD_cons_succ] at dd; obtain rfl := dd
          have dd := hd 17 (by simp) _ rfl; simp only [List.getD_cons_zero, List.getD_cons_succ] at dd; obtain rfl := dd
          have dd := hd 9 (by simp) _ rfl; simp only [List.getD_cons_zero, List.getD_cons_succ] at dd; obtain rfl := dd
          clear hd hl hl1 hl2 hl3 hl4 hl5 hl6 hl7 hl8 hl9 hl10 hl11 hl12 hl13 hl14 hl15 hl16 hl17 hl18 hl19 hl20 hl21 hl22 hl23 hl24 hl25 hl26 hl27 hl28
          replace hK := hK.out
          simp only [puts, List.set_cons_zero, List.set_cons_succ, Act.put, List.setIfInBounds_toArray] at hK ⊢
          have hK' : Shut _ := hK
          clear hK
          go_simp
          (try simp only [beq_self_eq_true])
          (try go_wp2_with fail)
          exact hK'.out _ _ (Below.refl _ _) (hR) (fun D hD => by cases hD; rfl)
        · refine ⟨[9, 18], by decide, fun vs w hl hR hd K hK => ?_⟩
          obtain ⟨v0, vs, rfl, hl1⟩ := len_succ hl
          obtain ⟨v1, vs, rfl, hl2⟩ := len_succ hl1
          obtain ⟨v2, vs, rfl, hl3⟩ := len_succ hl2
          obtain ⟨v3, vs, rfl, hl4⟩ := len_succ hl3
          obtain ⟨v4, vs, rfl, hl5⟩ := len_succ hl4
          obtain ⟨v5, vs, rfl, hl6⟩ := len_succ hl5
          obtain ⟨v6, vs, rfl, hl7⟩ := len_succ hl6
          obtain ⟨v7, vs, rfl, hl8⟩ := len_succ hl7
          obtain ⟨v8, vs, rfl, hl9⟩ := len_succ hl8
          obtain ⟨v9, vs, rfl, hl10⟩ := len_succ hl9
          obtain ⟨v10, vs, rfl, hl11⟩ := len_succ hl10
          obtain ⟨v11, vs, rfl, hl12⟩ := len_succ hl11
          obtain ⟨v12, vs, rfl, hl13⟩ := len_succ hl12
          obtain ⟨v13, vs, rfl, hl14⟩ := len_succ hl13
          obtain ⟨v14, vs, rfl, hl15⟩ := len_succ hl14
          obtain ⟨v15, vs, rfl, hl16⟩ := len_succ hl15
          obtain ⟨v16, vs, rfl, hl17⟩ := len_succ hl16
          obtain ⟨v17, vs, rfl, hl18⟩ := len_succ hl17
          obtain ⟨v18, vs, rfl, hl19⟩ := len_succ hl18
          obtain ⟨v19, vs, rfl, hl20⟩ := len_succ hl19
          obtain ⟨v20, vs, rfl, hl21⟩ := len_succ hl20
          obtain ⟨v21, vs, rfl, hl22⟩ := len_succ hl21
          obtain ⟨v22, vs, rfl, hl23⟩ := len_succ hl22
          obtain ⟨v23, vs, rfl, hl24⟩ := len_succ hl23
          obtain ⟨v24, vs, rfl, hl25⟩ := len_succ hl24
          obtain ⟨v25, vs, rfl, hl26⟩ := len_succ hl25
          obtain ⟨v26, vs, rfl, hl27⟩ := len_succ hl26
          obtain ⟨v27, vs, rfl, hl28⟩ := len_succ hl27
          obtain rfl := len_zero hl28
          have dd := hd 9 (by simp) _ rfl; simp only [List.getD_cons_zero, List.getD_cons_succ] at dd; obtain rfl := dd
          have dd := hd 18 (by simp) _ rfl; simp only [List.getD_cons_zero, List.getD_cons_succ] at dd; obtain rfl := dd
          clear hd hl hl1 hl2 hl3 hl4 hl5 hl6 hl7 hl8 hl9 hl10 hl11 hl12 hl13 hl14 hl15 hl16 hl17 hl18 hl19 hl20 hl21 hl22 hl23 hl24 hl25 hl26 hl27 hl28
          replace hK := hK.out
          simp only [puts, List.set_cons_zero, List.set_cons_succ, Act.put, List.setIfInBounds_toArray] at hK ⊢
          have hK' : Shut _ := hK
          clear hK
          go_simp
          (try go_wp2_with fail)
          exact hK'.out _ _ (Below.refl _ _) (hR) (fun D hD => by cases hD; rfl)
        · refine ⟨[19], by decide, fun vs w hl hR hd K hK => ?_⟩
          obtain ⟨v0, vs, rfl, hl1⟩ := len_succ hl
          obtain ⟨v1, vs, rfl, hl2⟩ := len_succ hl1
          obtain ⟨v2, vs, rfl, hl3⟩ := len_succ hl2
          obtain ⟨v3, vs, rfl, hl4⟩ := len_succ hl3
          obtain ⟨v4, vs, rfl, hl5⟩ := len_succ hl4
          obtain ⟨v5, vs, rfl, hl6⟩ := len_succ hl5
          obtain ⟨v6, vs, rfl, hl7⟩ := len_succ hl6
          obtain ⟨v7, vs, rfl, hl8⟩ := len_succ hl7
          obtain ⟨v8, vs, rfl, hl9⟩ := len_succ hl8
          obtain ⟨v9, vs, rfl, hl10⟩ := len_succ hl9
          obtain ⟨v10, vs, rfl, hl11⟩ := len_succ hl10
          obtain ⟨v11, vs, rfl, hl12⟩ := len_succ hl11
          obtain ⟨v12, vs, rfl, hl13⟩ := len_succ hl12
          obtain ⟨v13, vs, rfl, hl14⟩ := len_succ hl13
          obtain ⟨v14, vs, rfl, hl15⟩ := len_succ hl14
          obtain ⟨v15, vs, rfl, hl16⟩ := len_succ hl15
          obtain ⟨v16, vs, rfl, hl17⟩ := len_succ hl16
          obtain ⟨v17, vs, rfl, hl18⟩ := len_succ hl17
          obtain ⟨v18, vs, rfl, hl19⟩ := len_succ hl18
          obtain ⟨v19, vs, rfl, hl20⟩ := len_succ hl19
          obtain ⟨v20, vs, rfl, hl21⟩ := len_succ hl20
          obtain ⟨v21, vs, rfl, hl22⟩ := len_succ hl21
          obtain ⟨v22, vs, rfl, hl23⟩ := len_succ hl22
          obtain ⟨v23, vs, rfl, hl24⟩ := len_succ hl23
          obtain ⟨v24, vs, rfl, hl25⟩ := len_succ hl24
          obtain ⟨v25, vs, rfl, hl26⟩ := len_succ hl25
          obtain ⟨v26, vs, rfl, hl27⟩ := len_succ hl26
          obtain ⟨v27, vs, rfl, hl28⟩ := len_succ hl27
          obtain rfl := len_zero hl28
          have dd := hd 19 (by simp) _ rfl; simp only [List.getD_cons_zero, List.getD_cons_succ] at dd; obtain rfl := dd
          clear hd hl hl1 hl2 hl3 hl4 hl5 hl6 hl7 hl8 hl9 hl10 hl11 hl12 hl13 hl14 hl15 hl16 hl17 hl18 hl19 hl20 hl21 hl22 hl23 hl24 hl25 hl26 hl27 hl28
          replace hK := hK.out
          simp only [puts, List.set_cons_zero, List.set_cons_succ, Act.put, List.setIfInBounds_toArray] at hK ⊢
          have hK' : Shut _ := hK
          clear hK
          go_simp
          (try go_wp2_with fail)
          exact hK'.out _ _ (Below.refl _ _) (hR) (fun D hD => by cases hD; rfl)
        · refine ⟨[20], by decide, fun vs w hl hR hd K hK => ?_⟩
          obtain ⟨v0, vs, rfl, hl1⟩ := len_succ hl
          obtain ⟨v1, vs, rfl, hl2⟩ := len_succ hl1
          obtain ⟨v2, vs, rfl, hl3⟩ := len_succ hl2
          obtain ⟨v3, vs, rfl, hl4⟩ := len_succ hl3
          obtain ⟨v4, vs, rfl, hl5⟩ := len_succ hl4
          obtain ⟨v5, vs, rfl, hl6⟩ := len_succ hl5
          obtain ⟨v6, vs, rfl, hl7⟩ := len_succ hl6
          obtain ⟨v7, vs, rfl, hl8⟩ := len_succ hl7
          obtain ⟨v8, vs, rfl, hl9⟩ := len_succ hl8
          obtain ⟨v9, vs, rfl, hl10⟩ := len_succ hl9
          obtain ⟨v10, vs, rfl, hl11⟩ := len_succ hl10
          obtain ⟨v11, vs, rfl, hl12⟩ := len_succ hl11
          obtain ⟨v12, vs, rfl, hl13⟩ := len_succ hl12
          obtain ⟨v13, vs, rfl, hl14⟩ := len_succ hl13
          obtain ⟨v14, vs, rfl, hl15⟩ := len_succ hl14
          obtain ⟨v15, vs, rfl, hl16⟩ := len_succ hl15
          obtain ⟨v16, vs, rfl, hl17⟩ := len_succ hl16
          obtain ⟨v17, vs, rfl, hl18⟩ := len_succ hl17
          obtain ⟨v18, vs, rfl, hl19⟩ := len_succ hl18
          obtain ⟨v19, vs, rfl, hl20⟩ := len_succ hl19
          obtain ⟨v20, vs, rfl, hl21⟩ := len_succ hl20
          obtain ⟨v21, vs, rfl, hl22⟩ := len_succ hl21
          obtain ⟨v22, vs, rfl, hl23⟩ := len_succ hl22
          obtain ⟨v23, vs, rfl, hl24⟩ := len_succ hl23
          obtain ⟨v24, vs, rfl, hl25⟩ := len_succ hl24
          obtain ⟨v25, vs, rfl, hl26⟩ := len_succ hl25
          obtain ⟨v26, vs, rfl, hl27⟩ := len_succ hl26
          obtain ⟨v27, vs, rfl, hl28⟩ := len_succ hl27
          obtain rfl := len_zero hl28
          have dd := hd 20 (by simp) _ rfl; simp only [List.getD_cons_zero, List.getD_cons_succ] at dd; obtain rfl := dd
          clear hd hl hl1 hl2 hl3 hl4 hl5 hl6 hl7 hl8 hl9 hl10 hl11 hl12 hl13 hl14 hl15 hl16 hl17 hl18 hl19 hl20 hl21 hl22 hl23 hl24 hl25 hl26 hl27 hl28
          replace hK := hK.out
          simp only [puts, List.set_cons_zero, List.set_cons_succ, Act.put, List.setIfInBounds_toArray] at hK ⊢
          have hK' : Shut _ := hK
          clear hK
          have qq := hA3.below hR; have q0 := qq.at.1; have q1 := qq.at.2.1; clear qq
          go_simp
          (try go_wp2_with fail)
          exact hK'.out _ _ (Below.refl _ _) (hR) (fun D hD => by cases hD; rfl)
        · refine ⟨[21, 20], by decide, fun vs w hl hR hd K hK => ?_⟩
          obtain ⟨v0, vs, rfl, hl1⟩ := len_succ hl
          obtain ⟨v1, vs, rfl, hl2⟩ := len_succ hl1
          obtain ⟨v2, vs, rfl, hl3⟩ := len_succ hl2
          obtain ⟨v3, vs, rfl, hl4⟩ := len_succ hl3
          obtain ⟨v4, vs, rfl, hl5⟩ := len_succ hl4
          obtain ⟨v5, vs, rfl, hl6⟩ := len_succ hl5
          obtain ⟨v6, vs, rfl, hl7⟩ := len_succ hl6
          obtain ⟨v7, vs, rfl, hl8⟩ := len_succ hl7
          obtain ⟨v8, vs, rfl, hl9⟩ := len_succ hl8
          obtain ⟨v9, vs, rfl, hl10⟩ := len_succ hl9
          obtain ⟨v10, vs, rfl, hl11⟩ := len_succ hl10
          obtain ⟨v11, vs, rfl, hl12⟩ := len_succ hl11
          obtain ⟨v12, vs, rfl, hl13⟩ := len_succ hl12
          obtain ⟨v13, vs, rfl, hl14⟩ := len_succ hl13
          obtain ⟨v14, vs, rfl, hl15⟩ := len_succ hl14
          obtain ⟨v15, vs, rfl, hl16⟩ := len_succ hl15
          obtain ⟨v16, vs, rfl, hl17⟩ := len_succ hl16
          obtain ⟨v17, vs, rfl, hl18⟩ := len_succ hl17
          obtain ⟨v18, vs, rfl, hl19⟩ := len_succ hl18
          obtain ⟨v19, vs, rfl, hl20⟩ := len_succ hl19
          obtain ⟨v20, vs, rfl, hl21⟩ := len_succ hl20
          obtain ⟨v21, vs, rfl, hl22⟩ := len_succ hl21
          obtain ⟨v22, vs, rfl, hl23⟩ := len_succ hl22
          obtain ⟨v23, vs, rfl, hl24⟩ := len_succ hl23
          obtain ⟨v24, vs, rfl, hl25⟩ := len_succ hl24
          obtain ⟨v25, vs, rfl, hl26⟩ := len_succ hl25
          obtain ⟨v26, vs, rfl, hl27⟩ := len_succ hl26
          obtain ⟨v27, vs, rfl, hl28⟩ := len_succ hl27
          obtain rfl := len_zero hl28
          have dd := hd 21 (by simp) _ rfl; simp only [List.getD_cons_zero, List.getD_cons_succ] at dd; obtain rfl := dd
          have dd := hd 20 (by simp) _ rfl; simp only [List.getD_cons_zero, List.getD_cons_succ] at dd; obtain rfl := dd
          clear hd hl hl1 hl2 hl3 hl4 hl5 hl6 hl7 hl8 hl9 hl10 hl11 hl12 hl13 hl14 hl15 hl16 hl17 hl18 hl19 hl20 hl21 hl22 hl23 hl24 hl25 hl26 hl27 hl28
          replace hK := hK.out
          simp only [puts, List.set_cons_zero, List.set_cons_succ, Act.put, List.setIfInBounds_toArray] at hK ⊢
          have hK' : Shut _ := hK
          clear hK
          go_simp
          (try go_wp2_with fail)
          exact hK'.out _ _ ((Below.refl _ _).alloc (Nat.le_refl _) _) (step_call hR ((Below.refl _ _).alloc (Nat.le_refl _) _)) (fun D hD => by cases hD; exact ⟨_, rfl, Cs.one _ _ _ _ _ _ _ _ (hc.below hR) _ rfl⟩)
        · refine ⟨[20], by decide, fun vs w hl hR hd K hK => ?_⟩
          obtain ⟨v0, vs, rfl, hl1⟩ := len_succ hl
          obtain ⟨v1, vs, rfl, hl2⟩ := len_succ hl1
          obtain ⟨v2, vs, rfl, hl3⟩ := len_succ hl2
          obtain ⟨v3, vs, rfl, hl4⟩ := len_succ hl3
          obtain ⟨v4, vs, rfl, hl5⟩ := len_succ hl4
          obtain ⟨v5, vs, rfl, hl6⟩ := len_succ hl5
          obtain ⟨v6, vs, rfl, hl7⟩ := len_succ hl6
          obtain ⟨v7, vs, rfl, hl8⟩ := len_succ hl7
          obtain ⟨v8, vs, rfl, hl9⟩ := len_succ hl8
          obtain ⟨v9, vs, rfl, hl10⟩ := len_succ hl9
          obtain ⟨v10, vs, rfl, hl11⟩ := len_succ hl10
          obtain ⟨v11, vs, rfl, hl12⟩ := len_succ hl11
          obtain ⟨v12, vs, rfl, hl13⟩ := len_succ hl12
          obtain ⟨v13, vs, rfl, hl14⟩ := len_succ hl13
          obtain ⟨v14, vs, rfl, hl15⟩ := len_succ hl14
          obtain ⟨v15, vs, rfl, hl16⟩ := len_succ hl15
          obtain ⟨v16, vs, rfl, hl17⟩ := len_succ hl16
          obtain ⟨v17, vs, rfl, hl18⟩ := len_succ hl17
          obtain ⟨v18, vs, rfl, hl19⟩ := len_succ hl18
          obtain ⟨v19, vs, rfl, hl20⟩ := len_succ hl19
          obtain ⟨v20, vs, rfl, hl21⟩ := len_succ hl20
          obtain ⟨v21, vs, rfl, hl22⟩ := len_succ hl21
          obtain ⟨v22, vs, rfl, hl23⟩ := len_succ hl22
          obtain ⟨v23, vs, rfl, hl24⟩ := len_succ hl23
          obtain ⟨v24, vs, rfl, hl25⟩ := len_succ hl24
          obtain ⟨v25, vs, rfl, hl26⟩ := len_succ hl25
          obtain ⟨v26, vs, rfl, hl27⟩ := len_succ hl26
          obtain ⟨v27, vs, rfl, hl28⟩ := len_succ hl27
          obtain rfl := len_zero hl28
          have dd := hd 20 (by simp) _ rfl; simp only [List.getD_cons_zero, List.getD_cons_succ] at dd; obtain rfl := dd
          clear hd hl hl1 hl2 hl3 hl4 hl5 hl6 hl7 hl8 hl9 hl10 hl11 hl12 hl13 hl14 hl15 hl16 hl17 hl18 hl19 hl20 hl21 hl22 hl23 hl24 hl25 hl26 hl27 hl28
          replace hK := hK.out
          simp only [puts, List.set_cons_zero, List.set_cons_succ, Act.put, List.setIfInBounds_toArray] at hK ⊢
          have hK' : Shut _ := hK
          clear hK
          have qq := hA2.below hR; have q0 := qq.at.1; have q1 := qq.at.2.1; clear qq
          go_simp
          (try go_wp2_with fail)
          exact hK'.out _ _ (Below.refl _ _) (hR) (fun D hD => by cases hD; rfl)
        · refine ⟨[23, 20], by decide, fun vs w hl hR hd K hK => ?_⟩
          obtain ⟨v0, vs, rfl, hl1⟩ := len_succ hl
          obtain ⟨v1, vs, rfl, hl2⟩ := len_succ hl1
          obtain ⟨v2, vs, rfl, hl3⟩ := len_succ hl2
          obtain ⟨v3, vs, rfl, hl4⟩ := len_succ hl3
          obtain ⟨v4, vs, rfl, hl5⟩ := len_succ hl4
          obtain ⟨v5, vs, rfl, hl6⟩ := len_succ hl5
          obtain ⟨v6, vs, rfl, hl7⟩ := len_succ hl6
          obtain ⟨v7, vs, rfl, hl8⟩ := len_succ hl7
          obtain ⟨v8, vs, rfl, hl9⟩ := len_succ hl8
          obtain ⟨v9, vs, rfl, hl10⟩ := len_succ hl9
          obtain ⟨v10, vs, rfl, hl11⟩ := len_succ hl10
          obtain ⟨v11, vs, rfl, hl12⟩ := len_succ hl11
          obtain ⟨v12, vs, rfl, hl13⟩ := len_succ hl12
          obtain ⟨v13, vs, rfl, hl14⟩ := len_succ hl13
          obtain ⟨v14, vs, rfl, hl15⟩ := len_succ hl14
          obtain ⟨v15, vs, rfl, hl16⟩ := len_succ hl15
          obtain ⟨v16, vs, rfl, hl17⟩ := len_succ hl16
          obtain ⟨v17, vs, rfl, hl18⟩ := len_succ hl17
          obtain ⟨v18, vs, rfl, hl19⟩ := len_succ hl18
          obtain ⟨v19, vs, rfl, hl20⟩ := len_succ hl19
          obtain ⟨v20, vs, rfl, hl21⟩ := len_succ hl20
          obtain ⟨v21, vs, rfl, hl22⟩ := len_succ hl21
          obtain ⟨v22, vs, rfl, hl23⟩ := len_succ hl22
          obtain ⟨v23, vs, rfl, hl24⟩ := len_succ hl23
          obtain ⟨v24, vs, rfl, hl25⟩ := len_succ hl24
          obtain ⟨v25, vs, rfl, hl26⟩ := len_succ hl25
          obtain ⟨v26, vs, rfl, hl27⟩ := len_succ hl26
          obtain ⟨v27, vs, rfl, hl28⟩ := len_succ hl27
          obtain rfl := len_zero hl28
          have dd := hd 23 (by simp) _ rfl; simp only [List.getD_cons_zero, List.getD_cons_succ] at dd; obtain rfl := dd
          have dd := hd 20 (by simp) _ rfl; simp only [List.getD_cons_zero, List.getD_cons_succ] at dd; obtain rfl := dd
          clear hd hl hl1 hl2 hl3 hl4 hl5 hl6 hl7 hl8 hl9 hl10 hl11 hl12 hl13 hl14 hl15 hl16 hl17 hl18 hl19 hl20 hl21 hl22 hl23 hl24 hl25 hl26 hl27 hl28
          replace hK := hK.out
          simp only [puts, List.set_cons_zero, List.set_cons_succ, Act.put, List.setIfInBounds_toArray] at hK ⊢
          have hK' : Shut _ := hK
          clear hK
          go_simp
          (try go_wp2_with fail)
          exact hK'.out _ _ ((Below.refl _ _).alloc (Nat.le_refl _) _) (step_call hR ((Below.refl _ _).alloc (Nat.le_refl _) _)) (fun D hD => by cases hD; exact ⟨_, rfl, Ms.one _ (s1, s2) HZ.out _ rfl⟩)
        · refine ⟨[22, 24, 20], by decide, fun vs w hl hR hd K hK => ?_⟩
          obtain ⟨v0, vs, rfl, hl1⟩ := len_succ hl
          obtain ⟨v1, vs, rfl, hl2⟩ := len_succ hl1
          obtain ⟨v2, vs, rfl, hl3⟩ := len_succ hl2
          obtain ⟨v3, vs, rfl, hl4⟩ := len_succ hl3
          obtain ⟨v4, vs, rfl, hl5⟩ := len_succ hl4
          obtain ⟨v5, vs, rfl, hl6⟩ := len_succ hl5
          obtain ⟨v6, vs, rfl, hl7⟩ := len_succ hl6
          obtain ⟨v7, vs, rfl, hl8⟩ := len_succ hl7
          obtain ⟨v8, vs, rfl, hl9⟩ := len_succ hl8
          obtain ⟨v9, vs, rfl, hl10⟩ := len_succ hl9
          obtain ⟨v10, vs, rfl, hl11⟩ := len_succ hl10
          obtain ⟨v11, vs, rfl, hl12⟩ := len_succ hl11
          obtain ⟨v12, vs, rfl, hl13⟩ := len_succ hl12
          obtain ⟨v13, vs, rfl, hl14⟩ := len_succ hl13
          obtain ⟨v14, vs, rfl, hl15⟩ := len_succ hl14
          obtain ⟨v15, vs, rfl, hl16⟩ := len_succ hl15
          obtain ⟨v16, vs, rfl, hl17⟩ := len_succ hl16
          obtain ⟨v17, vs, rfl, hl18⟩ := len_succ hl17
          obtain ⟨v18, vs, rfl, hl19⟩ := len_succ hl18
          obtain ⟨v19, vs, rfl, hl20⟩ := len_succ hl19
          obtain ⟨v20, vs, rfl, hl21⟩ := len_succ hl20
          obtain ⟨v21, vs, rfl, hl22⟩ := len_succ hl21
          obtain ⟨v22, vs, rfl, hl23⟩ := len_succ hl22
          obtain ⟨v23, vs, rfl, hl24⟩ := len_succ hl23
          obtain ⟨v24, vs, rfl, hl25⟩ := len_succ hl24
          obtain ⟨v25, vs, rfl, hl26⟩ := len_succ hl25
          obtain ⟨v26, vs, rfl, hl27⟩ := len_succ hl26
          obtain ⟨v27, vs, rfl, hl28⟩ := len_succ hl27
          obtain rfl := len_zero hl28
          have dd := hd 22 (by simp) _ rfl; simp only [List.getD_cons_zero, List.getD_cons_succ] at dd; have hg := Classical.choose_spec dd; generalize Classical.choose dd = g at hg; clear dd; have e := hg.1; have hs := hg.2; clear hg; subst e
          have dd := hd 24 (by simp) _ rfl; simp only [List.getD_cons_zero, List.getD_cons_succ] at dd; have hg := Classical.choose_spec dd; generalize Classical.choose dd = g' at hg; clear dd; have e := hg.1; have ht := hg.2; clear hg; subst e
          have dd := hd 20 (by simp) _ rfl; simp only [List.getD_cons_zero, List.getD_cons_succ] at dd; obtain rfl := dd
          clear hd hl hl1 hl2 hl3 hl4 hl5 hl6 hl7 hl8 hl9 hl10 hl11 hl12 hl13 hl14 hl15 hl16 hl17 hl18 hl19 hl20 hl21 hl22 hl23 hl24 hl25 hl26 hl27 hl28
          replace hK := hK.out
          simp only [puts, List.set_cons_zero, List.set_cons_succ, Act.put, List.setIfInBounds_toArray] at hK ⊢
          have hK' : Shut _ := hK
          clear hK
          go_simp
          go_at_call 39; (with_reducible refine (same_yes _ _ _ _ _ _ _ _ _ hs ht (HW.out.below (step_call hB hR)).tz EQZ).mono ?_); rintro e w2 ⟨rfl, hb⟩
          (try go_wp2_with fail)
          exact hK'.out _ _ (hb) (step_call hR (hb)) (fun D hD => by cases hD; rfl)
        · refine ⟨[20, 25], by decide, fun vs w hl hR hd K hK => ?_⟩
          obtain ⟨v0, vs, rfl, hl1⟩ := len_succ hl
          obtain ⟨v1, vs, rfl, hl2⟩ := len_succ hl1
          obtain ⟨v2, vs, rfl, hl3⟩ := len_succ hl2
          obtain ⟨v3, vs, rfl, hl4⟩ := len_succ hl3
          obtain ⟨v4, vs, rfl, hl5⟩ := len_succ hl4
          obtain ⟨v5, vs, rfl, hl6⟩ := len_succ hl5
          obtain ⟨v6, vs, rfl, hl7⟩ := len_succ hl6
          obtain ⟨v7, vs, rfl, hl8⟩ := len_succ hl7
          obtain ⟨v8, vs, rfl, hl9⟩ := len_succ hl8
          obtain ⟨v9, vs, rfl, hl10⟩ := len_succ hl9
          obtain ⟨v10, vs, rfl, hl11⟩ := len_succ hl10
          obtain ⟨v11, vs, rfl, hl12⟩ := len_succ hl11
          obtain ⟨v12, vs, rfl, hl13⟩ := len_succ hl12
          obtain ⟨v13, vs, rfl, hl14⟩ := len_succ hl13
          obtain ⟨v14, vs, rfl, hl15⟩ := len_succ hl14
          obtain ⟨v15, vs, rfl, hl16⟩ := len_succ hl15
          obtain ⟨v16, vs, rfl, hl17⟩ := len_succ hl16
          obtain ⟨v17, vs, rfl, hl18⟩ := len_succ hl17
          obtain ⟨v18, vs, rfl, hl19⟩ := len_succ hl18
          obtain ⟨v19, vs, rfl, hl20⟩ := len_succ hl19
          obtain ⟨v20, vs, rfl, hl21⟩ := len_succ hl20
          obtain ⟨v21, vs, rfl, hl22⟩ := len_succ hl21
          obtain ⟨v22, vs, rfl, hl23⟩ := len_succ hl22
          obtain ⟨v23, vs, rfl, hl24⟩ := len_succ hl23
          obtain ⟨v24, vs, rfl, hl25⟩ := len_succ hl24
          obtain ⟨v25, vs, rfl, hl26⟩ := len_succ hl25
          obtain ⟨v26, vs, rfl, hl27⟩ := len_succ hl26
          obtain ⟨v27, vs, rfl, hl28⟩ := len_succ hl27
          obtain rfl := len_zero hl28
          have dd := hd 20 (by simp) _ rfl; simp only [List.getD_cons_zero, List.getD_cons_succ] at dd; obtain rfl := dd
          have dd := hd 25 (by simp) _ rfl; simp only [List.getD_cons_zero, List.getD_cons_succ] at dd; obtain rfl := dd
          clear hd hl hl1 hl2 hl3 hl4 hl5 hl6 hl7 hl8 hl9 hl10 hl11 hl12 hl13 hl14 hl15 hl16 hl17 hl18 hl19 hl20 hl21 hl22 hl23 hl24 hl25 hl26 hl27 hl28
          replace hK := hK.out
          simp only [puts, List.set_cons_zero, List.set_cons_succ, Act.put, List.setIfInBounds_toArray] at hK ⊢
          have hK' : Shut _ := hK
          clear hK
          go_simp
          (try go_wp2_with fail)
          exact hK'.out _ _ (Below.refl _ _) (hR) (fun D hD => by cases hD; rfl)
        · refine ⟨[26], by decide, fun vs w hl hR hd K hK => ?_⟩
          obtain ⟨v0, vs, rfl, hl1⟩ := len_succ hl
          obtain ⟨v1, vs, rfl, hl2⟩ := len_succ hl1
          obtain ⟨v2, vs, rfl, hl3⟩ := len_succ hl2
          obtain ⟨v3, vs, rfl, hl4⟩ := len_succ hl3
          obtain ⟨v4, vs, rfl, hl5⟩ := len_succ hl4
          obtain ⟨v5, vs, rfl, hl6⟩ := len_succ hl5
          obtain ⟨v6, vs, rfl, hl7⟩ := len_succ hl6
          obtain ⟨v7, vs, rfl, hl8⟩ := len_succ hl7
          obtain ⟨v8, vs, rfl, hl9⟩ := len_succ hl8
          obtain ⟨v9, vs, rfl, hl10⟩ := len_succ hl9
          obtain ⟨v10, vs, rfl, hl11⟩ := len_succ hl10
          obtain ⟨v11, vs, rfl, hl12⟩ := len_succ hl11
          obtain ⟨v12, vs, rfl, hl13⟩ := len_succ hl12
          obtain ⟨v13, vs, rfl, hl14⟩ := len_succ hl13
          obtain ⟨v14, vs, rfl, hl15⟩ := len_succ hl14
          obtain ⟨v15, vs, rfl, hl16⟩ := len_succ hl15
          obtain ⟨v16, vs, rfl, hl17⟩ := len_succ hl16
          obtain ⟨v17, vs, rfl, hl18⟩ := len_succ hl17
          obtain ⟨v18, vs, rfl, hl19⟩ := len_succ hl18
          obtain ⟨v19, vs, rfl, hl20⟩ := len_succ hl19
          obtain ⟨v20, vs, rfl, hl21⟩ := len_succ hl20
          obtain ⟨v21, vs, rfl, hl22⟩ := len_succ hl21
          obtain ⟨v22, vs, rfl, hl23⟩ := len_succ hl22
          obtain ⟨v23, vs, rfl, hl24⟩ := len_succ hl23
          obtain ⟨v24, vs, rfl, hl25⟩ := len_succ hl24
          obtain ⟨v25, vs, rfl, hl26⟩ := len_succ hl25
          obtain ⟨v26, vs, rfl, hl27⟩ := len_succ hl26
          obtain ⟨v27, vs, rfl, hl28⟩ := len_succ hl27
          obtain rfl := len_zero hl28
          have dd := hd 26 (by simp) _ rfl; simp only [List.getD_cons_zero, List.getD_cons_succ] at dd; obtain rfl := dd
          clear hd hl hl1 hl2 hl3 hl4 hl5 hl6 hl7 hl8 hl9 hl10 hl11 hl12 hl13 hl14 hl15 hl16 hl17 hl18 hl19 hl20 hl21 hl22 hl23 hl24 hl25 hl26 hl27 hl28
          replace hK := hK.out
          simp only [puts, List.set_cons_zero, List.set_cons_succ, Act.put, List.setIfInBounds_toArray] at hK ⊢
          have hK' : Shut _ := hK
          clear hK
          go_simp
          (try go_wp2_with fail)
          exact hK'.out _ _ (Below.refl _ _) (hR) (fun D hD => by cases hD; rfl)
        · intro vs w4 hl hR hd
          obtain ⟨v0, vs, rfl, hl1⟩ := len_succ hl
          obtain ⟨v1, vs, rfl, hl2⟩ := len_succ hl1
          obtain ⟨v2, vs, rfl, hl3⟩ := len_succ hl2
          obtain ⟨v3, vs, rfl, hl4⟩ := len_succ hl3
          obtain ⟨v4, vs, rfl, hl5⟩ := len_succ hl4
          obtain ⟨v5, vs, rfl, hl6⟩ := len_succ hl5
          obtain ⟨v6, vs, rfl, hl7⟩ := len_succ hl6
          obtain ⟨v7, vs, rfl, hl8⟩ := len_succ hl7
          obtain ⟨v8, vs, rfl, hl9⟩ := len_succ hl8
          obtain ⟨v9, vs, rfl, hl10⟩ := len_succ hl9
          obtain ⟨v10, vs, rfl, hl11⟩ := len_succ hl10
          obtain ⟨v11, vs, rfl, hl12⟩ := len_succ hl11
          obtain ⟨v12, vs, rfl, hl13⟩ := len_succ hl12
          obtain ⟨v13, vs, rfl, hl14⟩ := len_succ hl13
          obtain ⟨v14, vs, rfl, hl15⟩ := len_succ hl14
          obtain ⟨v15, vs, rfl, hl16⟩ := len_succ hl15
          obtain ⟨v16, vs, rfl, hl17⟩ := len_succ hl16
          obtain ⟨v17, vs, rfl, hl18⟩ := len_succ hl17
          obtain ⟨v18, vs, rfl, hl19⟩ := len_succ hl18
          obtain ⟨v19, vs, rfl, hl20⟩ := len_succ hl19
          obtain ⟨v20, vs, rfl, hl21⟩ := len_succ hl20
          obtain ⟨v21, vs, rfl, hl22⟩ := len_succ hl21
          obtain ⟨v22, vs, rfl, hl23⟩ := len_succ hl22
          obtain ⟨v23, vs, rfl, hl24⟩ := len_succ hl23
          obtain ⟨v24, vs, rfl, hl25⟩ := len_succ hl24
          obtain ⟨v25, vs, rfl, hl26⟩ := len_succ hl25
          obtain ⟨v26, vs, rfl, hl27⟩ := len_succ hl26
          obtain ⟨v27, vs, rfl, hl28⟩ := len_succ hl27
          obtain rfl := len_zero hl28
          have dd := hd 27 _ rfl; simp only [List.getD_cons_zero, List.getD_cons_succ] at dd; obtain rfl := dd
          clear hd hl hl1 hl2 hl3 hl4 hl5 hl6 hl7 hl8 hl9 hl10 hl11 hl12 hl13 hl14 hl15 hl16 hl17 hl18 hl19 hl20 hl21 hl22 hl23 hl24 hl25 hl26 hl27 hl28
          simp only [puts, List.set_cons_zero, List.set_cons_succ, Act.put, List.setIfInBounds_toArray]
          go_wp2_with fail
          go_ret
          exact ⟨rfl, step_call hB hR⟩
      · obtain rfl := EO2.out
        obtain ⟨c1, ec1⟩ : ∃ c1 : Nat, 0 = c1 := ⟨0, rfl⟩
        have EQZ : Hid ([Z] = List.map cuM [(c1, c1)]) := by subst ec1; exact congrArg (fun x => [x]) EZ2.out.symm
        have HZ : Hid (McOk (c1, c1)) := by subst ec1; exact ⟨by decide, by decide⟩
        have HC1 := Lib.hid ec1
        clear ec1
        go_wp2_with (go_at_call 22; (with_reducible refine (rempty_t _ _ _ _ HO.out EE).mono ?_); rintro e W3 ⟨rfl, hb⟩; clear q0 q1; replace hA0 := hA0.below hb; replace hA1 := hA1.below hb; replace hA2 := hA2.below hb; replace hA3 := hA3.below hb; replace hc := hc.below hb; replace hB := step_call hB hb; have q0 := hA2.at.1; have q1 := hA2.at.2.1; have q2 := hA2.frz 0; have q3 := hA2.frz 1; clear hb)
        obtain ⟨W4, hW4⟩ : ∃ W4, (W3.setCell ⟨g2, 0, none⟩ (.int .u64 0)).setCell ⟨g2, 1, none⟩ (.int .u64 0) = W4 := ⟨_, rfl⟩
        rw [hW4]
        replace hc := hc.own2 (u := .int .u64 0) (v := .int .u64 0) hA2 (by decide)
        replace hA0 := hA0.other (u := .int .u64 0) (v := .int .u64 0) H02.out
        replace hA1 := hA1.other (u := .int .u64 0) (v := .int .u64 0) H12.out
        replace hA3 := hA3.other (u := .int .u64 0) (v := .int .u64 0) H23.out
        replace hA2 := hA2.own (u := .int .u64 0) (v := .int .u64 0)
        replace hB := (hB.setCell (p := ⟨g2, 0, none⟩) HW2.out (.int .u64 0)).setCell (p := ⟨g2, 1, none⟩) HW2.out (.int .u64 0)
        rw [hW4] at hc hA0 hA1 hA2 hA3 hB
        replace hA2 : At2T W4 g2 (.int .u64 (c1 : Nat)) (.int .u64 (c1 : Nat)) 28 := by rw [← HC1.out]; exact hA2
        clear hW4 q0 q1 q2 q3 W3
        refine region_slots [42, 43, 44, 45, 46, 47, 48, 49, 50, 51, 52, 53, 54, 55, 56, 57, 58, 59, 60, 61, 62, 63, 64, 65, 66, 67, 68, 4]
          [fun v w => v = .agg #[.int .u64 (m1 : Nat), .int .u64 (m2 : Nat)],
           fun v w => CvV w v X,
           fun v w => v = .agg #[.int .u64 (k1 : Nat), .int .u64 (k2 : Nat)],
           fun v w => CvV w v Y,
           fun v w => v = .bool p,
           fun v w => v = .agg #[.int .u64 (m1 : Nat), .int .u64 (m2 : Nat)],
           fun v w => v = .agg #[.int .u64 (k1 : Nat), .int .u64 (k2 : Nat)],
           fun v w => v = .bool p,
           fun v w => v = .bool true,
           fun v w => v = .bool true,
           fun v w => v = .agg #[.int .u64 (k1 : Nat), .int .u64 (k2 : Nat)],
           fun v w => CvV w v Y,
           fun v w => v = .agg #[.int .u64 (m1 : Nat), .int .u64 (m2 : Nat)],
           fun v w => CvV w v X,
           fun v w => v = .bool q,
           fun v w => v = .agg #[.int .u64 (k1 : Nat), .int .u64 (k2 : Nat)],
           fun v w => v = .agg #[.int .u64 (m1 : Nat), .int .u64 (m2 : Nat)],
           fun v w => v = .bool q,
           fun v w => v = .bool true,
           fun v w => v = .bool true,
           fun v w => v = .bool true,
           fun v w => v = .agg #[.slice a n c, .slice b m d],
           fun v w => ∃ g, v = .slice (some ⟨g, 0, none⟩) 1 1 ∧ Cs w (some ⟨g, 0, none⟩) 1 1 [Z],
           fun v w => v = .agg #[.int .u64 (c1 : Nat), .int .u64 (c1 : Nat)],
           fun v w => ∃ g, v = .slice (some ⟨g, 0, none⟩) 1 1 ∧ Ms w (some ⟨g, 0, none⟩) 1 1 [(c1, c1)],
           fun v w => v = .bool true,
           fun v w => v = .bool true,
           fun v w => v = .bool true]
          (fun w' => Below W4.heap.size W4 w') (fun w w' => Below w.heap.size w w') (by kernel_rfl) (by kernel_rfl) rfl [undef, undef, undef, undef, undef, undef, undef, undef, undef, undef, undef, undef, undef, undef, undef, undef, undef, undef, undef, undef, undef, undef, undef, undef, undef, undef, undef, (.bool false)] (by simp only [puts, List.set_cons_zero, List.set_cons_succ, Act.put, List.setIfInBounds_toArray]) rfl ((Below.refl _ _).drew) ?_ ⟨?_, ?_, ?_, ?_, ?_, ?_, ?_, ?_, ?_, ?_, ?_, ?_, ?_, ?_, ?_, ?_, ?_, ?_, ?_, ?_, ?_, ?_, ?_, ?_, ?_, ?_, ?_, ?_, trivial⟩ ?_
        · intro j D hj v w w' hb hD
          match j, hj with
          | 0, hj => cases hj; exact hD
          | 1, hj => cases hj; exact hD.below hb
          | 2, hj => cases hj; exact hD
          | 3, hj => cases hj; exact hD.below hb
          | 4, hj => cases hj; exact hD
          | 5, hj => cases hj; exact hD
          | 6, hj => cases hj; exact hD
          | 7, hj => cases hj; exact hD
          | 8, hj => cases hj; exact hD
          | 9, hj => cases hj; exact hD
          | 10, hj => cases hj; exact hD
          | 11, hj => cases hj; exact hD.below hb
          | 12, hj => cases hj; exact hD
          | 13, hj => cases hj; exact hD.below hb
          | 14, hj => cases hj; exact hD
          | 15, hj => cases hj; exact hD
          | 16, hj => cases hj; exact hD
          | 17, hj => cases hj; exact hD
          | 18, hj => cases hj; exact hD
          | 19, hj => cases hj; exact hD
          | 20, hj => cases hj; exact hD
          | 21, hj => cases hj; exact hD
          | 22, hj => cases hj; obtain ⟨g, rfl, h⟩ := hD; exact ⟨g, rfl, h.below hb⟩
          | 23, hj => cases hj; exact hD
          | 24, hj => cases hj; obtain ⟨g, rfl, h⟩ := hD; exact ⟨g, rfl, h.below hb⟩
          | 25, hj => cases hj; exact hD
          | 26, hj => cases hj; exact hD
          | 27, hj => cases hj; exact hD
          | j + 28, hj => cases hj
        · refine ⟨[], by decide, fun vs w hl hR hd K hK => ?_⟩
          obtain ⟨v0, vs, rfl, hl1⟩ := len_succ hl
          obtain ⟨v1, vs, rfl, hl2⟩ := len_succ hl1
          obtain ⟨v2, vs, rfl, hl3⟩ := len_succ hl2
          obtain ⟨v3, vs, rfl, hl4⟩ := len_succ hl3
          obtain ⟨v4, vs, rfl, hl5⟩ := len_succ hl4
          obtain ⟨v5, vs, rfl, hl6⟩ := len_succ hl5
          obtain ⟨v6, vs, rfl, hl7⟩ := len_succ hl6
          obtain ⟨v7, vs, rfl, hl8⟩ := len_succ hl7
          obtain ⟨v8, vs, rfl, hl9⟩ := len_succ hl8
          obtain ⟨v9, vs, rfl, hl10⟩ := len_succ hl9
          obtain ⟨v10, vs, rfl, hl11⟩ := len_succ hl10
          obtain ⟨v11, vs, rfl, hl12⟩ := len_succ hl11
          obtain ⟨v12, vs, rfl, hl13⟩ := len_succ hl12
          obtain ⟨v13, vs, rfl, hl14⟩ := len_succ hl13
          obtain ⟨v14, vs, rfl, hl15⟩ := len_succ hl14
          obtain ⟨v15, vs, rfl, hl16⟩ := len_succ hl15
          obtain ⟨v16, vs, rfl, hl17⟩ := len_succ hl16
          obtain ⟨v17, vs, rfl, hl18⟩ := len_succ hl17
          obtain ⟨v18, vs, rfl, hl19⟩ := len_succ hl18
          obtain ⟨v19, vs, rfl, hl20⟩ := len_succ hl19
          obtain ⟨v20, vs, rfl, hl21⟩ := len_succ hl20
          obtain ⟨v21, vs, rfl, hl22⟩ := len_succ hl21
          obtain ⟨v22, vs, rfl, hl23⟩ := len_succ hl22
          obtain ⟨v23, vs, rfl, hl24⟩ := len_succ hl23
          obtain ⟨v24, vs, rfl, hl25⟩ := len_succ hl24
          obtain ⟨v25, vs, rfl, hl26⟩ := len_succ hl25
          obtain ⟨v26, vs, rfl, hl27⟩ := len_succ hl26
          obtain ⟨v27, vs, rfl, hl28⟩ := len_succ hl27
          obtain rfl := len_zero hl28
          clear hd hl hl1 hl2 hl3 hl4 hl5 hl6 hl7 hl8 hl9 hl10 hl11 hl12 hl13 hl14 hl15 hl16 hl17 hl18 hl19 hl20 hl21 hl22 hl23 hl24 hl25 hl26 hl27 hl28
          replace hK := hK.out
          simp only [puts, List.set_cons_zero, List.set_cons_succ, Act.put, List.setIfInBounds_toArray] at hK ⊢
          have hK' : Shut _ := hK
          clear hK
          have qq := hA0.below hR; have q0 := qq.at.1; have q1 := qq.at.2.1; clear qq
          go_simp
          (try go_wp2_with fail)
          exact hK'.out _ _ (Below.refl _ _) (hR) (fun D hD => by cases hD; rfl)
        · refine ⟨[0], by decide, fun vs w hl hR hd K hK => ?_⟩
          obtain ⟨v0, vs, rfl, hl1⟩ := len_succ hl
          obtain ⟨v1, vs, rfl, hl2⟩ := len_succ hl1
          obtain ⟨v2, vs, rfl, hl3⟩ := len_succ hl2
          obtain ⟨v3, vs, rfl, hl4⟩ := len_succ hl3
          obtain ⟨v4, vs, rfl, hl5⟩ := len_succ hl4
          obtain ⟨v5, vs, rfl, hl6⟩ := len_succ hl5
          obtain ⟨v6, vs, rfl, hl7⟩ := len_succ hl6
          obtain ⟨v7, vs, rfl, hl8⟩ := len_succ hl7
          obtain ⟨v8, vs, rfl, hl9⟩ := len_succ hl8
          obtain ⟨v9, vs, rfl, hl10⟩ := len_succ hl9
          obtain ⟨v10, vs, rfl, hl11⟩ := len_succ hl10
          obtain ⟨v11, vs, rfl, hl12⟩ := len_succ hl11
          obtain ⟨v12, vs, rfl, hl13⟩ := len_succ hl12
          obtain ⟨v13, vs, rfl, hl14⟩ := len_succ hl13
          obtain ⟨v14, vs, rfl, hl15⟩ := len_succ hl14
          obtain ⟨v15, vs, rfl, hl16⟩ := len_succ hl15
          obtain ⟨v16, vs, rfl, hl17⟩ := len_succ hl16
          obtain ⟨v17, vs, rfl, hl18⟩ := len_succ hl17
          obtain ⟨v18, vs, rfl, hl19⟩ := len_succ hl18
          obtain ⟨v19, vs, rfl, hl20⟩ := len_succ hl19
          obtain ⟨v20, vs, rfl, hl21⟩ := len_succ hl20
          obtain ⟨v21, vs, rfl, hl22⟩ := len_succ hl21
          obtain ⟨v22, vs, rfl, hl23⟩ := len_succ hl22
          obtain ⟨v23, vs, rfl, hl24⟩ := len_succ hl23
          obtain ⟨v24, vs, rfl, hl25⟩ := len_succ hl24
          obtain ⟨v25, vs, rfl, hl26⟩ := len_succ hl25
          obtain ⟨v26, vs, rfl, hl27⟩ := len_succ hl26
          obtain ⟨v27, vs, rfl, hl28⟩ := len_succ hl27
          obtain rfl := len_zero hl28
          have dd := hd 0 (by simp) _ rfl; simp only [List.getD_cons_zero, List.getD_cons_succ] at dd; obtain rfl := dd
          clear hd hl hl1 hl2 hl3 hl4 hl5 hl6 hl7 hl8 hl9 hl10 hl11 hl12 hl13 hl14 hl15 hl16 hl17 hl18 hl19 hl20 hl21 hl22 hl23 hl24 hl25 hl26 hl27 hl28
          replace hK := hK.out
          simp only [puts, List.set_cons_zero, List.set_cons_succ, Act.put, List.setIfInBounds_toArray] at hK ⊢
          have hK' : Shut _ := hK
          clear hK
          go_simp
          go_at_call 18; (with_reducible refine (lawmake_c _ _ _ _ HC.out EX).mono ?_); rintro e w2 ⟨a, n, c, b, m, d, rfl, hc, hb⟩
          (try go_wp2_with fail)
          exact hK'.out _ _ (hb) (step_call hR (hb)) (fun D hD => by cases hD; exact ⟨_, _, _, _, _, _, rfl, hc⟩)
        · refine ⟨[], by decide, fun vs w hl hR hd K hK => ?_⟩
          obtain ⟨v0, vs, rfl, hl1⟩ := len_succ hl
          obtain ⟨v1, vs, rfl, hl2⟩ := len_succ hl1
          obtain ⟨v2, vs, rfl, hl3⟩ := len_succ hl2
          obtain ⟨v3, vs, rfl, hl4⟩ := len_succ hl3
          obtain ⟨v4, vs, rfl, hl5⟩ := len_succ hl4
          obtain ⟨v5, vs, rfl, hl6⟩ := len_succ hl5
          obtain ⟨v6, vs, rfl, hl7⟩ := len_succ hl6
          obtain ⟨v7, vs, rfl, hl8⟩ := len_succ hl7
          obtain ⟨v8, vs, rfl, hl9⟩ := len_succ hl8
          obtain ⟨v9, vs, rfl, hl10⟩ := len_succ hl9
          obtain ⟨v10, vs, rfl, hl11⟩ := len_succ hl10
          obtain ⟨v11, vs, rfl, hl12⟩ := len_succ hl11
          obtain ⟨v12, vs, rfl, hl13⟩ := len_succ hl12
          obtain ⟨v13, vs, rfl, hl14⟩ := len_succ hl13
          obtain ⟨v14, vs, rfl, hl15⟩ := len_succ hl14
          obtain ⟨v15, vs, rfl, hl16⟩ := len_succ hl15
          obtain ⟨v16, vs, rfl, hl17⟩ := len_succ hl16
          obtain ⟨v17, vs, rfl, hl18⟩ := len_succ hl17
          obtain ⟨v18, vs, rfl, hl19⟩ := len_succ hl18
          obtain ⟨v19, vs, rfl, hl20⟩ := len_succ hl19
          obtain ⟨v20, vs, rfl, hl21⟩ := len_succ hl20
          obtain ⟨v21, vs, rfl, hl22⟩ := len_succ hl21
          obtain ⟨v22, vs, rfl, hl23⟩ := len_succ hl22
          obtain ⟨v23, vs, rfl, hl24⟩ := len_succ hl23
          obtain ⟨v24, vs, rfl, hl25⟩ := len_succ hl24
          obtain ⟨v25, vs, rfl, hl26⟩ := len_succ hl25
          obtain ⟨v26, vs, rfl, hl27⟩ := len_succ hl26
          obtain ⟨v27, vs, rfl, hl28⟩ := len_succ hl27
          obtain rfl := len_zero hl28
          clear hd hl hl1 hl2 hl3 hl4 hl5 hl6 hl7 hl8 hl9 hl10 hl11 hl12 hl13 hl14 hl15 hl16 hl17 hl18 hl19 hl20 hl21 hl22 hl23 hl24 hl25 hl26 hl27 hl28
          replace hK := hK.out
          simp only [puts, List.set_cons_zero, List.set_cons_succ, Act.put, List.setIfInBounds_toArray] at hK ⊢
          have hK' : Shut _ := hK
          clear hK
          have qq := hA1.below hR; have q0 := qq.at.1; have q1 := qq.at.2.1; clear qq
          go_simp
          (try go_wp2_with fail)
          exact hK'.out _ _ (Below.refl _ _) (hR) (fun D hD => by cases hD; rfl)
        · refine ⟨[2], by decide, fun vs w hl hR hd K hK => ?_⟩
          obtain ⟨v0, vs, rfl, hl1⟩ := len_succ hl
          obtain ⟨v1, vs, rfl, hl2⟩ := len_succ hl1
          obtain ⟨v2, vs, rfl, hl3⟩ := len_succ hl2
          obtain ⟨v3, vs, rfl, hl4⟩ := len_succ hl3
          obtain ⟨v4, vs, rfl, hl5⟩ := len_succ hl4
          obtain ⟨v5, vs, rfl, hl6⟩ := len_succ hl5
          obtain ⟨v6, vs, rfl, hl7⟩ := len_succ hl6
          obtain ⟨v7, vs, rfl, hl8⟩ := len_succ hl7
          obtain ⟨v8, vs, rfl, hl9⟩ := len_succ hl8
          obtain ⟨v9, vs, rfl, hl10⟩ := len_succ hl9
          obtain ⟨v10, vs, rfl, hl11⟩ := len_succ hl10
          obtain ⟨v11, vs, rfl, hl12⟩ := len_succ hl11
          obtain ⟨v12, vs, rfl, hl13⟩ := len_succ hl12
          obtain ⟨v13, vs, rfl, hl14⟩ := len_succ hl13
          obtain ⟨v14, vs, rfl, hl15⟩ := len_succ hl14
          obtain ⟨v15, vs, rfl, hl16⟩ := len_succ hl15
          obtain ⟨v16, vs, rfl, hl17⟩ := len_succ hl16
          obtain ⟨v17, vs, rfl, hl18⟩ := len_succ hl17
          obtain ⟨v18, vs, rfl, hl19⟩ := len_succ hl18
          obtain ⟨v19, vs, rfl, hl20⟩ := len_succ hl19
          obtain ⟨v20, vs, rfl, hl21⟩ := len_succ hl20
          obtain ⟨v21, vs, rfl, hl22⟩ := len_succ hl21
          obtain ⟨v22, vs, rfl, hl23⟩ := len_succ hl22
          obtain ⟨v23, vs, rfl, hl24⟩ := len_succ hl23
          obtain ⟨v24, vs, rfl, hl25⟩ := len_succ hl24
          obtain ⟨v25, vs, rfl, hl26⟩ := len_succ hl25
          obtain ⟨v26, vs, rfl, hl27⟩ := len_succ hl26
          obtain ⟨v27, vs, rfl, hl28⟩ := len_succ hl27
          obtain rfl := len_zero hl28
          have dd := hd 2 (by simp) _ rfl; simp only [List.getD_cons_zero, List.getD_cons_succ] at dd; obtain rfl := dd
          clear hd hl hl1 hl2 hl3 hl4 hl5 hl6 hl7 hl8 hl9 hl10 hl11 hl12 hl13 hl14 hl15 hl16 hl17 hl18 hl19 hl20 hl21 hl22 hl23 hl24 hl25 hl26 hl27 hl28
          replace hK := hK.out
          simp only [puts, List.set_cons_zero, List.set_cons_succ, Act.put, List.setIfInBounds_toArray] at hK ⊢
          have hK' : Shut _ := hK
          clear hK
          go_simp
          go_at_call 18; (with_reducible refine (lawmake_c _ _ _ _ HK.out EY).mono ?_); rintro e w2 ⟨a, n, c, b, m, d, rfl, hc, hb⟩
          (try go_wp2_with fail)
          exact hK'.out _ _ (hb) (step_call hR (hb)) (fun D hD => by cases hD; exact ⟨_, _, _, _, _, _, rfl, hc⟩)
        · refine ⟨[1, 3], by decide, fun vs w hl hR hd K hK => ?_⟩
          obtain ⟨v0, vs, rfl, hl1⟩ := len_succ hl
          obtain ⟨v1, vs, rfl, hl2⟩ := len_succ hl1
          obtain ⟨v2, vs, rfl, hl3⟩ := len_succ hl2
          obtain ⟨v3, vs, rfl, hl4⟩ := len_succ hl3
          obtain ⟨v4, vs, rfl, hl5⟩ := len_succ hl4
          obtain ⟨v5, vs, rfl, hl6⟩ := len_succ hl5
          obtain ⟨v6, vs, rfl, hl7⟩ := len_succ hl6
          obtain ⟨v7, vs, rfl, hl8⟩ := len_succ hl7
          obtain ⟨v8, vs, rfl, hl9⟩ := len_succ hl8
          obtain ⟨v9, vs, rfl, hl10⟩ := len_succ hl9
          obtain ⟨v10, vs, rfl, hl11⟩ := len_succ hl10
          obtain ⟨v11, vs, rfl, hl12⟩ := len_succ hl11
          obtain ⟨v12, vs, rfl, hl13⟩ := len_succ hl12
          obtain ⟨v13, vs, rfl, hl14⟩ := len_succ hl13
          obtain ⟨v14, vs, rfl, hl15⟩ := len_succ hl14
          obtain ⟨v15, vs, rfl, hl16⟩ := len_succ hl15
          obtain ⟨v16, vs, rfl, hl17⟩ := len_succ hl16
          obtain ⟨v17, vs, rfl, hl18⟩ := len_succ hl17
          obtain ⟨v18, vs, rfl, hl19⟩ := len_succ hl18
          obtain ⟨v19, vs, rfl, hl20⟩ := len_succ hl19
          obtain ⟨v20, vs, rfl, hl21⟩ := len_succ hl20
          obtain ⟨v21, vs, rfl, hl22⟩ := len_succ hl21
          obtain ⟨v22, vs, rfl, hl23⟩ := len_succ hl22
          obtain ⟨v23, vs, rfl, hl24⟩ := len_succ hl23
          obtain ⟨v24, vs, rfl, hl25⟩ := len_succ hl24
          obtain ⟨v25, vs, rfl, hl26⟩ := len_succ hl25
          obtain ⟨v26, vs, rfl, hl27⟩ := len_succ hl26
          obtain ⟨v27, vs, rfl, hl28⟩ := len_succ hl27
          obtain rfl := len_zero hl28
          have dd := hd 1 (by simp) _ rfl; simp only [List.getD_cons_zero, List.getD_cons_succ] at dd; obtain ⟨a, n, c, b, m, d, rfl, hc⟩ := dd
          have dd := hd 3 (by simp) _ rfl; simp only [List.getD_cons_zero, List.getD_cons_succ] at dd; obtain ⟨a', n', c', b', m', d', rfl, hc'⟩ := dd
          clear hd hl hl1 hl2 hl3 hl4 hl5 hl6 hl7 hl8 hl9 hl10 hl11 hl12 hl13 hl14 hl15 hl16 hl17 hl18 hl19 hl20 hl21 hl22 hl23 hl24 hl25 hl26 hl27 hl28
          replace hK := hK.out
          simp only [puts, List.set_cons_zero, List.set_cons_succ, Act.put, List.setIfInBounds_toArray] at hK ⊢
          have hK' : Shut _ := hK
          clear hK
          go_simp
          go_at_call 37; (with_reducible refine (within_t _ _ _ _ _ _ _ _ _ _ _ _ _ _ _ _ hc hc' EP).mono ?_); rintro e w2 ⟨rfl, hb⟩
          (try go_wp2_with fail)
          exact hK'.out _ _ (hb) (step_call hR (hb)) (fun D hD => by cases hD; rfl)
        · refine ⟨[], by decide, fun vs w hl hR hd K hK => ?_⟩
          obtain ⟨v0, vs, rfl, hl1⟩ := len_succ hl
          obtain ⟨v1, vs, rfl, hl2⟩ := len_succ hl1
          obtain ⟨v2, vs, rfl, hl3⟩ := len_succ hl2
          obtain ⟨v3, vs, rfl, hl4⟩ := len_succ hl3
          obtain ⟨v4, vs, rfl, hl5⟩ := len_succ hl4
          obtain ⟨v5, vs, rfl, hl6⟩ := len_succ hl5
          obtain ⟨v6, vs, rfl, hl7⟩ := len_succ hl6
          obtain ⟨v7, vs, rfl, hl8⟩ := len_succ hl7
          obtain ⟨v8, vs, rfl, hl9⟩ := len_succ hl8
          obtain ⟨v9, vs, rfl, hl10⟩ := len_succ hl9
          obtain ⟨v10, vs, rfl, hl11⟩ := len_succ hl10
          obtain ⟨v11, vs, rfl, hl12⟩ := len_succ hl11
          obtain ⟨v12, vs, rfl, hl13⟩ := len_succ hl12
          obtain ⟨v13, vs, rfl, hl14⟩ := len_succ hl13
          obtain ⟨v14, vs, rfl, hl15⟩ := len_succ hl14
          obtain ⟨v15, vs, rfl, hl16⟩ := len_succ hl15
          obtain ⟨v16, vs, rfl, hl17⟩ := len_succ hl16
          obtain ⟨v17, vs, rfl, hl18⟩ := len_succ hl17
          obtain ⟨v18, vs, rfl, hl19⟩ := len_succ hl18
          obtain ⟨v19, vs, rfl, hl20⟩ := len_succ hl19
          obtain ⟨v20, vs, rfl, hl21⟩ := len_succ hl20
          obtain ⟨v21, vs, rfl, hl22⟩ := len_succ hl21
          obtain ⟨v22, vs, rfl, hl23⟩ := len_succ hl22
          obtain ⟨v23, vs, rfl, hl24⟩ := len_succ hl23
          obtain ⟨v24, vs, rfl, hl25⟩ := len_succ hl24
          obtain ⟨v25, vs, rfl, hl26⟩ := len_succ hl25
          obtain ⟨v26, vs, rfl, hl27⟩ := len_succ hl26
          obtain ⟨v27, vs, rfl, hl28⟩ := len_succ hl27
          obtain rfl := len_zero hl28
          clear hd hl hl1 hl2 hl3 hl4 hl5 hl6 hl7 hl8 hl9 hl10 hl11 hl12 hl13 hl14 hl15 hl16 hl17 hl18 hl19 hl20 hl21 hl22 hl23 hl24 hl25 hl26 hl27 hl28
          replace hK := hK.out
          simp only [puts, List.set_cons_zero, List.set_cons_succ, Act.put, List.setIfInBounds_toArray] at hK ⊢
          have hK' : Shut _ := hK
          clear hK
          have qq := hA0.below hR; have q0 := qq.at.1; have q1 := qq.at.2.1; clear qq
          go_simp
          (try go_wp2_with fail)
          exact hK'.out _ _ (Below.refl _ _) (hR) (fun D hD => by cases hD; rfl)
        · refine ⟨[], by decide, fun vs w hl hR hd K hK => ?_⟩
          obtain ⟨v0, vs, rfl, hl1⟩ := len_succ hl
          obtain ⟨v1, vs, rfl, hl2⟩ := len_succ hl1
          obtain ⟨v2, vs, rfl, hl3⟩ := len_succ hl2
          obtain ⟨v3, vs, rfl, hl4⟩ := len_succ hl3
          obtain ⟨v4, vs, rfl, hl5⟩ := len_succ hl4
          obtain ⟨v5, vs, rfl, hl6⟩ := len_succ hl5
          obtain ⟨v6, vs, rfl, hl7⟩ := len_succ hl6
          obtain ⟨v7, vs, rfl, hl8⟩ := len_succ hl7
          obtain ⟨v8, vs, rfl, hl9⟩ := len_succ hl8
          obtain ⟨v9, vs, rfl, hl10⟩ := len_succ hl9
          obtain ⟨v10, vs, rfl, hl11⟩ := len_succ hl10
          obtain ⟨v11, vs, rfl, hl12⟩ := len_succ hl11
          obtain ⟨v12, vs, rfl, hl13⟩ := len_succ hl12
          obtain ⟨v13, vs, rfl, hl14⟩ := len_succ hl13
          obtain ⟨v14, vs, rfl, hl15⟩ := len_succ hl14
          obtain ⟨v15, vs, rfl, hl16⟩ := len_succ hl15
          obtain ⟨v16, vs, rfl, hl17⟩ := len_succ hl16
          obtain ⟨v17, vs, rfl, hl18⟩ := len_succ hl17
          obtain ⟨v18, vs, rfl, hl19⟩ := len_succ hl18
          obtain ⟨v19, vs, rfl, hl20⟩ := len_succ hl19
          obtain ⟨v20, vs, rfl, hl21⟩ := len_succ hl20
          obtain ⟨v21, vs, rfl, hl22⟩ := len_succ hl21
          obtain ⟨v22, vs, rfl, hl23⟩ := len_succ hl22
          obtain ⟨v23, vs, rfl, hl24⟩ := len_succ hl23
          obtain ⟨v24, vs, rfl, hl25⟩ := len_succ hl24
          obtain ⟨v25, vs, rfl, hl26⟩ := len_succ hl25
          obtain ⟨v26, vs, rfl, hl27⟩ := len_succ hl26
          obtain ⟨v27, vs, rfl, hl28⟩ := len_succ hl27
          obtain rfl := len_zero hl28
          clear hd hl hl1 hl2 hl3 hl4 hl5 hl6 hl7 hl8 hl9 hl10 hl11 hl12 hl13 hl14 hl15 hl16 hl17 hl18 hl19 hl20 hl21 hl22 hl23 hl24 hl25 hl26 hl27 hl28
          replace hK := hK.out
          simp only [puts, List.set_cons_zero, List.set_cons_succ, Act.put, List.setIfInBounds_toArray] at hK ⊢
          have hK' : Shut _ := hK
          clear hK
          have qq := hA1.below hR; have q0 := qq.at.1; have q1 := qq.at.2.1; clear qq
          go_simp
          (try go_wp2_with fail)
          exact hK'.out _ _ (Below.refl _ _) (hR) (fun D hD => by cases hD; rfl)
        · refine ⟨[5, 6], by decide, fun vs w hl hR hd K hK => ?_⟩
          obtain ⟨v0, vs, rfl, hl1⟩ := len_succ hl
          obtain ⟨v1, vs, rfl, hl2⟩ := len_succ hl1
          obtain ⟨v2, vs, rfl, hl3⟩ := len_succ hl2
          obtain ⟨v3, vs, rfl, hl4⟩ := len_succ hl3
          obtain ⟨v4, vs, rfl, hl5⟩ := len_succ hl4
          obtain ⟨v5, vs, rfl, hl6⟩ := len_succ hl5
          obtain ⟨v6, vs, rfl, hl7⟩ := len_succ hl6
          obtain ⟨v7, vs, rfl, hl8⟩ := len_succ hl7
          obtain ⟨v8, vs, rfl, hl9⟩ := len_succ hl8
          obtain ⟨v9, vs, rfl, hl10⟩ := len_succ hl9
          obtain ⟨v10, vs, rfl, hl11⟩ := len_succ hl10
          obtain ⟨v11, vs, rfl, hl12⟩ := len_succ hl11
          obtain ⟨v12, vs, rfl, hl13⟩ := len_succ hl12
          obtain ⟨v13, vs, rfl, hl14⟩ := len_succ hl13
          obtain ⟨v14, vs, rfl, hl15⟩ := len_succ hl14
          obtain ⟨v15, vs, rfl, hl16⟩ := len_succ hl15
          obtain ⟨v16, vs, rfl, hl17⟩ := len_succ hl16
          obtain ⟨v17, vs, rfl, hl18⟩ := len_succ hl17
          obtain ⟨v18, vs, rfl, hl19⟩ := len_succ hl18
          obtain ⟨v19, vs, rfl, hl20⟩ := len_succ hl19
          obtain ⟨v20, vs, rfl, hl21⟩ := len_succ hl20
          obtain ⟨v21, vs, rfl, hl22⟩ := len_succ hl21
          obtain ⟨v22, vs, rfl, hl23⟩ := len_succ hl22
          obtain ⟨v23, vs, rfl, hl24⟩ := len_succ hl23
          obtain ⟨v24, vs, rfl, hl25⟩ := len_succ hl24
          obtain ⟨v25, vs, rfl, hl26⟩ := len_succ hl25
          obtain ⟨v26, vs, rfl, hl27⟩ := len_succ hl26
          obtain ⟨v27, vs, rfl, hl28⟩ := len_succ hl27
          obtain rfl := len_zero hl28
          have dd := hd 5 (by simp) _ rfl; simp only [List.getD_cons_zero, List.getD_cons_succ] at dd; obtain rfl := dd
          have dd := hd 6 (by simp) _ rfl; simp only [List.getD_cons_zero, List.getD_cons_succ] at dd; obtain rfl := dd
          clear hd hl hl1 hl2 hl3 hl4 hl5 hl6 hl7 hl8 hl9 hl10 hl11 hl12 hl13 hl14 hl15 hl16 hl17 hl18 hl19 hl20 hl21 hl22 hl23 hl24 hl25 hl26 hl27 hl28
          replace hK := hK.out
          simp only [puts, List.set_cons_zero, List.set_cons_succ, Act.put, List.setIfInBounds_toArray] at hK ⊢
          have hK' : Shut _ := hK
          clear hK
          go_simp
          go_at_call 38; (with_reducible refine (rwithin_t _ _ _ _ _ _ HC.out HK.out EP2).mono ?_); rintro e w2 ⟨rfl, hb⟩
          (try go_wp2_with fail)
          exact hK'.out _ _ (hb) (step_call hR (hb)) (fun D hD => by cases hD; rfl)
        · refine ⟨[4, 7], by decide, fun vs w hl hR hd K hK => ?_⟩
          obtain ⟨v0, vs, rfl, hl1⟩ := len_succ hl
          obtain ⟨v1, vs, rfl, hl2⟩ := len_succ hl1
          obtain ⟨v2, vs, rfl, hl3⟩ := len_succ hl2
          obtain ⟨v3, vs, rfl, hl4⟩ := len_succ hl3
          obtain ⟨v4, vs, rfl, hl5⟩ := len_succ hl4
          obtain ⟨v5, vs, rfl, hl6⟩ := len_succ hl5
          obtain ⟨v6, vs, rfl, hl7⟩ := len_succ hl6
          obtain ⟨v7, vs, rfl, hl8⟩ := len_succ hl7
          obtain ⟨v8, vs, rfl, hl9⟩ := len_succ hl8
          obtain ⟨v9, vs, rfl, hl10⟩ := len_succ hl9
          obtain ⟨v10, vs, rfl, hl11⟩ := len_succ hl10
          obtain ⟨v11, vs, rfl, hl12⟩ := len_succ hl11
          obtain ⟨v12, vs, rfl, hl13⟩ := len_succ hl12
          obtain ⟨v13, vs, rfl, hl14⟩ := len_succ hl13
          obtain ⟨v14, vs, rfl, hl15⟩ := len_succ hl14
          obtain ⟨v15, vs, rfl, hl16⟩ := len_succ hl15
          obtain ⟨v16, vs, rfl, hl17⟩ := len_succ hl16
          obtain ⟨v17, vs, rfl, hl18⟩ := len_succ hl17
          obtain ⟨v18, vs, rfl, hl19⟩ := len_succ hl18
          obtain ⟨v19, vs, rfl, hl20⟩ := len_succ hl19
          obtain ⟨v20, vs, rfl, hl21⟩ := len_succ hl20
          obtain ⟨v21, vs, rfl, hl22⟩ := len_succ hl21
          obtain ⟨v22, vs, rfl, hl23⟩ := len_succ hl22
          obtain ⟨v23, vs, rfl, hl24⟩ := len_succ hl23
          obtain ⟨v24, vs, rfl, hl25⟩ := len_succ hl24
          obtain ⟨v25, vs, rfl, hl26⟩ := len_succ hl25
          obtain ⟨v26, vs, rfl, hl27⟩ := len_succ hl26
          obtain ⟨v27, vs, rfl, hl28⟩ := len_succ hl27
          obtain rfl := len_zero hl28
          have dd := hd 4 (by simp) _ rfl; simp only [List.getD_cons_zero, List.getD_cons_succ] at dd; obtain rfl := dd
          have dd := hd 7 (by simp) _ rfl; simp only [List.getD_cons_zero, List.getD_cons_succ] at dd; obtain rfl := dd
          clear hd hl hl1 hl2 hl3 hl4 hl5 hl6 hl7 hl8 hl9 hl10 hl11 hl12 hl13 hl14 hl15 hl16 hl17 hl18 hl19 hl20 hl21 hl22 hl23 hl24 hl25 hl26 hl27 hl28
          replace hK := hK.out
          simp only [puts, List.set_cons_zero, List.set_cons_succ, Act.put, List.setIfInBounds_toArray] at hK ⊢
          have hK' : Shut _ := hK
          clear hK
          go_simp
          (try simp only [beq_self_eq_true])
          (try go_wp2_with fail)
          exact hK'.out _ _ (Below.refl _ _) (hR) (fun D hD => by cases hD; rfl)
        · refine ⟨[8], by decide, fun vs w hl hR hd K hK => ?_⟩
          obtain ⟨v0, vs, rfl, hl1⟩ := len_succ hl
          obtain ⟨v1, vs, rfl, hl2⟩ := len_succ hl1
          obtain ⟨v2, vs, rfl, hl3⟩ := len_succ hl2
          obtain ⟨v3, vs, rfl, hl4⟩ := len_succ hl3
          obtain ⟨v4, vs, rfl, hl5⟩ := len_succ hl4
          obtain ⟨v5, vs, rfl, hl6⟩ := len_succ hl5
          obtain ⟨v6, vs, rfl, hl7⟩ := len_succ hl6
          obtain ⟨v7, vs, rfl, hl8⟩ := len_succ hl7
          obtain ⟨v8, vs, rfl, hl9⟩ := len_succ hl8
          obtain ⟨v9, vs, rfl, hl10⟩ := len_succ hl9
          obtain ⟨v10, vs, rfl, hl11⟩ := len_succ hl10
          obtain ⟨v11, vs, rfl, hl12⟩ := len_succ hl11
          obtain ⟨v12, vs, rfl, hl13⟩ := len_succ hl12
          obtain ⟨v13, vs, rfl, hl14⟩ := len_succ hl13
          obtain ⟨v14, vs, rfl, hl15⟩ := len_succ hl14
          obtain ⟨v15, vs, rfl, hl16⟩ := len_succ hl15
          obtain ⟨v16, vs, rfl, hl17⟩ := len_succ hl16
          obtain ⟨v17, vs, rfl, hl18⟩ := len_succ hl17
          obtain ⟨v18, vs, rfl, hl19⟩ := len_succ hl18
          obtain ⟨v19, vs, rfl, hl20⟩ := len_succ hl19
          obtain ⟨v20, vs, rfl, hl21⟩ := len_succ hl20
          obtain ⟨v21, vs, rfl, hl22⟩ := len_succ hl21
          obtain ⟨v22, vs, rfl, hl23⟩ := len_succ hl22
          obtain ⟨v23, vs, rfl, hl24⟩ := len_succ hl23
          obtain ⟨v24, vs, rfl, hl25⟩ := len_succ hl24
          obtain ⟨v25, vs, rfl, hl26⟩ := len_succ hl25
          obtain ⟨v26, vs, rfl, hl27⟩ := len_succ hl26
          obtain ⟨v27, vs, rfl, hl28⟩ := len_succ hl27
          obtain rfl := len_zero hl28
          have dd := hd 8 (by simp) _ rfl; simp only [List.getD_cons_zero, List.getD_cons_succ] at dd; obtain rfl := dd
          clear hd hl hl1 hl2 hl3 hl4 hl5 hl6 hl7 hl8 hl9 hl10 hl11 hl12 hl13 hl14 hl15 hl16 hl17 hl18 hl19 hl20 hl21 hl22 hl23 hl24 hl25 hl26 hl27 hl28
          replace hK := hK.out
          simp only [puts, List.set_cons_zero, List.set_cons_succ, Act.put, List.setIfInBounds_toArray] at hK ⊢
          have hK' : Shut _ := hK
          clear hK
          go_simp
          (try go_wp2_with fail)
          exact hK'.out _ _ (Below.refl _ _) (hR) (fun D hD => by cases hD; rfl)
        · refine ⟨[9], by decide, fun vs w hl hR hd K hK => ?_⟩
          obtain ⟨v0, vs, rfl, hl1⟩ := len_succ hl
          obtain ⟨v1, vs, rfl, hl2⟩ := len_succ hl1
          obtain ⟨v2, vs, rfl, hl3⟩ := len_succ hl2
          obtain ⟨v3, vs, rfl, hl4⟩ := len_succ hl3
          obtain ⟨v4, vs, rfl, hl5⟩ := len_succ hl4
          obtain ⟨v5, vs, rfl, hl6⟩ := len_succ hl5
          obtain ⟨v6, vs, rfl, hl7⟩ := len_succ hl6
          obtain ⟨v7, vs, rfl, hl8⟩ := len_succ hl7
          obtain ⟨v8, vs, rfl, hl9⟩ := len_succ hl8
          obtain ⟨v9, vs, rfl, hl10⟩ := len_succ hl9
          obtain ⟨v10, vs, rfl, hl11⟩ := len_succ hl10
          obtain ⟨v11, vs, rfl, hl12⟩ := len_succ hl11
          obtain ⟨v12, vs, rfl, hl13⟩ := len_succ hl12
          obtain ⟨v13, vs, rfl, hl14⟩ := len_succ hl13
          obtain ⟨v14, vs, rfl, hl15⟩ := len_succ hl14
          obtain ⟨v15, vs, rfl, hl16⟩ := len_succ hl15
          obtain ⟨v16, vs, rfl, hl17⟩ := len_succ hl16
          obtain ⟨v17, vs, rfl, hl18⟩ := len_succ hl17
          obtain ⟨v18, vs, rfl, hl19⟩ := len_succ hl18
          obtain ⟨v19, vs, rfl, hl20⟩ := len_succ hl19
          obtain ⟨v20, vs, rfl, hl21⟩ := len_succ hl20
          obtain ⟨v21, vs, rfl, hl22⟩ := len_succ hl21
          obtain ⟨v22, vs, rfl, hl23⟩ := len_succ hl22
          obtain ⟨v23, vs, rfl, hl24⟩ := len_succ hl23
          obtain ⟨v24, vs, rfl, hl25⟩ := len_succ hl24
          obtain ⟨v25, vs, rfl, hl26⟩ := len_succ hl25
          obtain ⟨v26, vs, rfl, hl27⟩ := len_succ hl26
          obtain ⟨v27, vs, rfl, hl28⟩ := len_succ hl27
          obtain rfl := len_zero hl28
          have dd := hd 9 (by simp) _ rfl; simp only [List.getD_cons_zero, List.getD_cons_succ] at dd; obtain rfl := dd
          clear hd hl hl1 hl2 hl3 hl4 hl5 hl6 hl7 hl8 hl9 hl10 hl11 hl12 hl13 hl14 hl15 hl16 hl17 hl18 hl19 hl20 hl21 hl22 hl23 hl24 hl25 hl26 hl27 hl28
          replace hK := hK.out
          simp only [puts, List.set_cons_zero, List.set_cons_succ, Act.put, List.setIfInBounds_toArray] at hK ⊢
          have hK' : Shut _ := hK
          clear hK
          have qq := hA1.below hR; have q0 := qq.at.1; have q1 := qq.at.2.1; clear qq
          go_simp
          (try go_wp2_with fail)
          exact hK'.out _ _ (Below.refl _ _) (hR) (fun D hD => by cases hD; rfl)
        · refine ⟨[10, 9], by decide, fun vs w hl hR hd K hK => ?_⟩
          obtain ⟨v0, vs, rfl, hl1⟩ := len_succ hl
          obtain ⟨v1, vs, rfl, hl2⟩ := len_succ hl1
          obtain ⟨v2, vs, rfl, hl3⟩ := len_succ hl2
          obtain ⟨v3, vs, rfl, hl4⟩ := len_succ hl3
          obtain ⟨v4, vs, rfl, hl5⟩ := len_succ hl4
          obtain ⟨v5, vs, rfl, hl6⟩ := len_succ hl5
          obtain ⟨v6, vs, rfl, hl7⟩ := len_succ hl6
          obtain ⟨v7, vs, rfl, hl8⟩ := len_succ hl7
          obtain ⟨v8, vs, rfl, hl9⟩ := len_succ hl8
          obtain ⟨v9, vs, rfl, hl10⟩ := len_succ hl9
          obtain ⟨v10, vs, rfl, hl11⟩ := len_succ hl10
          obtain ⟨v11, vs, rfl, hl12⟩ := len_succ hl11
          obtain ⟨v12, vs, rfl, hl13⟩ := len_succ hl12
          obtain ⟨v13, vs, rfl, hl14⟩ := len_succ hl13
          obtain ⟨v14, vs, rfl, hl15⟩ := len_succ hl14
          obtain ⟨v15, vs, rfl, hl16⟩ := len_succ hl15
          obtain ⟨v16, vs, rfl, hl17⟩ := len_succ hl16
          obtain ⟨v17, vs, rfl, hl18⟩ := len_succ hl17
          obtain ⟨v18, vs, rfl, hl19⟩ := len_succ hl18
          obtain ⟨v19, vs, rfl, hl20⟩ := len_succ hl19
          obtain ⟨v20, vs, rfl, hl21⟩ := len_succ hl20
          obtain ⟨v21, vs, rfl, hl22⟩ := len_succ hl21
          obtain ⟨v22, vs, rfl, hl23⟩ := len_succ hl22
          obtain ⟨v23, vs, rfl, hl24⟩ := len_succ hl23
          obtain ⟨v24, vs, rfl, hl25⟩ := len_succ hl24
          obtain ⟨v25, vs, rfl, hl26⟩ := len_succ hl25
          obtain ⟨v26, vs, rfl, hl27⟩ := len_succ hl26
          obtain ⟨v27, vs, rfl, hl28⟩ := len_succ hl27
          obtain rfl := len_zero hl28
          have dd := hd 10 (by simp) _ rfl; simp only [List.getD_cons_zero, List.getD_cons_succ] at dd; obtain rfl := dd
          have dd := hd 9 (by simp) _ rfl; simp only [List.getD_cons_zero, List.getD_cons_succ] at dd; obtain rfl := dd
          clear hd hl hl1 hl2 hl3 hl4 hl5 hl6 hl7 hl8 hl9 hl10 hl11 hl12 hl13 hl14 hl15 hl16 hl17 hl18 hl19 hl20 hl21 hl22 hl23 hl24 hl25 hl26 hl27 hl28
          replace hK := hK.out
          simp only [puts, List.set_cons_zero, List.set_cons_succ, Act.put, List.setIfInBounds_toArray] at hK ⊢
          have hK' : Shut _ := hK
          clear hK
          go_simp
          go_at_call 18; (with_reducible refine (lawmake_c _ _ _ _ HK.out EY).mono ?_); rintro e w2 ⟨a, n, c, b, m, d, rfl, hc, hb⟩
          (try go_wp2_with fail)
          exact hK'.out _ _ (hb) (step_call hR (hb)) (fun D hD => by cases hD; exact ⟨_, _, _, _, _, _, rfl, hc⟩)
        · refine ⟨[9], by decide, fun vs w hl hR hd K hK => ?_⟩
          obtain ⟨v0, vs, rfl, hl1⟩ := len_succ hl
          obtain ⟨v1, vs, rfl, hl2⟩ := len_succ hl1
          obtain ⟨v2, vs, rfl, hl3⟩ := len_succ hl2
          obtain ⟨v3, vs, rfl, hl4⟩ := len_succ hl3
          obtain ⟨v4, vs, rfl, hl5⟩ := len_succ hl4
          obtain ⟨v5, vs, rfl, hl6⟩ := len_succ hl5
          obtain ⟨v6, vs, rfl, hl7⟩ := len_succ hl6
          obtain ⟨v7, vs, rfl, hl8⟩ := len_succ hl7
          obtain ⟨v8, vs, rfl, hl9⟩ := len_succ hl8
          obtain ⟨v9, vs, rfl, hl10⟩ := len_succ hl9
          obtain ⟨v10, vs, rfl, hl11⟩ := len_succ hl10
          obtain ⟨v11, vs, rfl, hl12⟩ := len_succ hl11
          obtain ⟨v12, vs, rfl, hl13⟩ := len_succ hl12
          obtain ⟨v13, vs, rfl, hl14⟩ := len_succ hl13
          obtain ⟨v14, vs, rfl, hl15⟩ := len_succ hl14
          obtain ⟨v15, vs, rfl, hl16⟩ := len_succ hl15
          obtain ⟨v16, vs, rfl, hl17⟩ := len_succ hl16
          obtain ⟨v17, vs, rfl, hl18⟩ := len_succ hl17
          obtain ⟨v18, vs, rfl, hl19⟩ := len_succ hl18
          obtain ⟨v19, vs, rfl, hl20⟩ := len_succ hl19
          obtain ⟨v20, vs, rfl, hl21⟩ := len_succ hl20
          obtain ⟨v21, vs, rfl, hl22⟩ := len_succ hl21
          obtain ⟨v22, vs, rfl, hl23⟩ := len_succ hl22
          obtain ⟨v23, vs, rfl, hl24⟩ := len_succ hl23
          obtain ⟨v24, vs, rfl, hl25⟩ := len_succ hl24
          obtain ⟨v25, vs, rfl, hl26⟩ := len_succ hl25
          obtain ⟨v26, vs, rfl, hl27⟩ := len_succ hl26
          obtain ⟨v27, vs, rfl, hl28⟩ := len_succ hl27
          obtain rfl := len_zero hl28
          have dd := hd 9 (by simp) _ rfl; simp only [List.getD_cons_zero, List.getD_cons_succ] at dd; obtain rfl := dd
          clear hd hl hl1 hl2 hl3 hl4 hl5 hl6 hl7 hl8 hl9 hl10 hl11 hl12 hl13 hl14 hl15 hl16 hl17 hl18 hl19 hl20 hl21 hl22 hl23 hl24 hl25 hl26 hl27 hl28
          replace hK := hK.out
          simp only [puts, List.set_cons_zero, List.set_cons_succ, Act.put, List.setIfInBounds_toArray] at hK ⊢
          have hK' : Shut _ := hK
          clear hK
          have qq := hA0.below hR; have q0 := qq.at.1; have q1 := qq.at.2.1; clear qq
          go_simp
          (try go_wp2_with fail)
          exact hK'.out _ _ (Below.refl _ _) (hR) (fun D hD => by cases hD; rfl)
        · refine ⟨[12, 9], by decide, fun vs w hl hR hd K hK => ?_⟩
          obtain ⟨v0, vs, rfl, hl1⟩ := len_succ hl
          obtain ⟨v1, vs, rfl, hl2⟩ := len_succ hl1
          obtain ⟨v2, vs, rfl, hl3⟩ := len_succ hl2
          obtain ⟨v3, vs, rfl, hl4⟩ := len_succ hl3
          obtain ⟨v4, vs, rfl, hl5⟩ := len_succ hl4
          obtain ⟨v5, vs, rfl, hl6⟩ := len_succ hl5
          obtain ⟨v6, vs, rfl, hl7⟩ := len_succ hl6
          obtain ⟨v7, vs, rfl, hl8⟩ := len_succ hl7
          obtain ⟨v8, vs, rfl, hl9⟩ := len_succ hl8
          obtain ⟨v9, vs, rfl, hl10⟩ := len_succ hl9
          obtain ⟨v10, vs, rfl, hl11⟩ := len_succ hl10
          obtain ⟨v11, vs, rfl, hl12⟩ := len_succ hl11
          obtain ⟨v12, vs, rfl, hl13⟩ := len_succ hl12
          obtain ⟨v13, vs, rfl, hl14⟩ := len_succ hl13
          obtain ⟨v14, vs, rfl, hl15⟩ := len_succ hl14
          obtain ⟨v15, vs, rfl, hl16⟩ := len_succ hl15
          obtain ⟨v16, vs, rfl, hl17⟩ := len_succ hl16
          obtain ⟨v17, vs, rfl, hl18⟩ := len_succ hl17
          obtain ⟨v18, vs, rfl, hl19⟩ := len_succ hl18
          obtain ⟨v19, vs, rfl, hl20⟩ := len_succ hl19
          obtain ⟨v20, vs, rfl, hl21⟩ := len_succ hl20
          obtain ⟨v21, vs, rfl, hl22⟩ := len_succ hl21
          obtain ⟨v22, vs, rfl, hl23⟩ := len_succ hl22
          obtain ⟨v23, vs, rfl, hl24⟩ := len_succ hl23
          obtain ⟨v24, vs, rfl, hl25⟩ := len_succ hl24
          obtain ⟨v25, vs, rfl, hl26⟩ := len_succ hl25
          obtain ⟨v26, vs, rfl, hl27⟩ := len_succ hl26
          obtain ⟨v27, vs, rfl, hl28⟩ := len_succ hl27
          obtain rfl := len_zero hl28
          have dd := hd 12 (by simp) _ rfl; simp only [List.getD_cons_zero, List.getD_cons_succ] at dd; obtain rfl := dd
          have dd := hd 9 (by simp) _ rfl; simp only [List.getD_cons_zero, List.getD_cons_succ] at dd; obtain rfl := dd
          clear hd hl hl1 hl2 hl3 hl4 hl5 hl6 hl7 hl8 hl9 hl10 hl11 hl12 hl13 hl14 hl15 hl16 hl17 hl18 hl19 hl20 hl21 hl22 hl23 hl24 hl25 hl26 hl27 hl28
          replace hK := hK.out
          simp only [puts, List.set_cons_zero, List.set_cons_succ, Act.put, List.setIfInBounds_toArray] at hK ⊢
          have hK' : Shut _ := hK
          clear hK
          go_simp
          go_at_call 18; (with_reducible refine (lawmake_c _ _ _ _ HC.out EX).mono ?_); rintro e w2 ⟨a, n, c, b, m, d, rfl, hc, hb⟩
          (try go_wp2_with fail)
          exact hK'.out _ _ (hb) (step_call hR (hb)) (fun D hD => by cases hD; exact ⟨_, _, _, _, _, _, rfl, hc⟩)
        · refine ⟨[11, 13, 9], by decide, fun vs w hl hR hd K hK => ?_⟩
          obtain ⟨v0, vs, rfl, hl1⟩ := len_succ hl
          obtain ⟨v1, vs, rfl, hl2⟩ := len_succ hl1
          obtain ⟨v2, vs, rfl, hl3⟩ := len_succ hl2
          obtain ⟨v3, vs, rfl, hl4⟩ := len_succ hl3
          obtain ⟨v4, vs, rfl, hl5⟩ := len_succ hl4
          obtain ⟨v5, vs, rfl, hl6⟩ := len_succ hl5
          obtain ⟨v6, vs, rfl, hl7⟩ := len_succ hl6
          obtain ⟨v7, vs, rfl, hl8⟩ := len_succ hl7
          obtain ⟨v8, vs, rfl, hl9⟩ := len_succ hl8
          obtain ⟨v9, vs, rfl, hl10⟩ := len_succ hl9
          obtain ⟨v10, vs, rfl, hl11⟩ := len_succ hl10
          obtain ⟨v11, vs, rfl, hl12⟩ := len_succ hl11
          obtain ⟨v12, vs, rfl, hl13⟩ := len_succ hl12
          obtain ⟨v13, vs, rfl, hl14⟩ := len_succ hl13
          obtain ⟨v14, vs, rfl, hl15⟩ := len_succ hl14
          obtain ⟨v15, vs, rfl, hl16⟩ := len_succ hl15
          obtain ⟨v16, vs, rfl, hl17⟩ := len_succ hl16
          obtain ⟨v17, vs, rfl, hl18⟩ := len_succ hl17
          obtain ⟨v18, vs, rfl, hl19⟩ := len_succ hl18
          obtain ⟨v19, vs, rfl, hl20⟩ := len_succ hl19
          obtain ⟨v20, vs, rfl, hl21⟩ := len_succ hl20
          obtain ⟨v21, vs, rfl, hl22⟩ := len_succ hl21
          obtain ⟨v22, vs, rfl, hl23⟩ := len_succ hl22
          obtain ⟨v23, vs, rfl, hl24⟩ := len_succ hl23
          obtain ⟨v24, vs, rfl, hl25⟩ := len_succ hl24
          obtain ⟨v25, vs, rfl, hl26⟩ := len_succ hl25
          obtain ⟨v26, vs, rfl, hl27⟩ := len_succ hl26
          obtain ⟨v27, vs, rfl, hl28⟩ := len_succ hl27
          obtain rfl := len_zero hl28
          have dd := hd 11 (by simp) _ rfl; simp only [List.getD_cons_zero, List.getD_cons_succ] at dd; refine dd.elim ?_; clear dd; intro a n c b m d e hc; subst e
          have dd := hd 13 (by simp) _ rfl; simp only [List.getD_cons_zero, List.getD_cons_succ] at dd; refine dd.elim ?_; clear dd; intro a' n' c' b' m' d' e hc'; subst e
          have dd := hd 9 (by simp) _ rfl; simp only [List.getD_cons_zero, List.getD_cons_succ] at dd; obtain rfl := dd
          clear hd hl hl1 hl2 hl3 hl4 hl5 hl6 hl7 hl8 hl9 hl10 hl11 hl12 hl13 hl14 hl15 hl16 hl17 hl18 hl19 hl20 hl21 hl22 hl23 hl24 hl25 hl26 hl27 hl28
          replace hK := hK.out
          simp only [puts, List.set_cons_zero, List.set_cons_succ, Act.put, List.setIfInBounds_toArray] at hK ⊢
          have hK' : Shut _ := hK
          clear hK
          go_simp
          go_at_call 37; (with_reducible refine (within_t _ _ _ _ _ _ _ _ _ _ _ _ _ _ _ _ hc hc' EQ).mono ?_); rintro e w2 ⟨rfl, hb⟩
          (try go_wp2_with fail)
          exact hK'.out _ _ (hb) (step_call hR (hb)) (fun D hD => by cases hD; rfl)
        · refine ⟨[9], by decide, fun vs w hl hR hd K hK => ?_⟩
          obtain ⟨v0, vs, rfl, hl1⟩ := len_succ hl
          obtain ⟨v1, vs, rfl, hl2⟩ := len_succ hl1
          obtain ⟨v2, vs, rfl, hl3⟩ := len_succ hl2
          obtain ⟨v3, vs, rfl, hl4⟩ := len_succ hl3
          obtain ⟨v4, vs, rfl, hl5⟩ := len_succ hl4
          obtain ⟨v5, vs, rfl, hl6⟩ := len_succ hl5
          obtain ⟨v6, vs, rfl, hl7⟩ := len_succ hl6
          obtain ⟨v7, vs, rfl, hl8⟩ := len_succ hl7
          obtain ⟨v8, vs, rfl, hl9⟩ := len_succ hl8
          obtain ⟨v9, vs, rfl, hl10⟩ := len_succ hl9
          obtain ⟨v10, vs, rfl, hl11⟩ := len_succ hl10
          obtain ⟨v11, vs, rfl, hl12⟩ := len_succ hl11
          obtain ⟨v12, vs, rfl, hl13⟩ := len_succ hl12
          obtain ⟨v13, vs, rfl, hl14⟩ := len_succ hl13
          obtain ⟨v14, vs, rfl, hl15⟩ := len_succ hl14
          obtain ⟨v15, vs, rfl, hl16⟩ := len_succ hl15
          obtain ⟨v16, vs, rfl, hl17⟩ := len_succ hl16
          obtain ⟨v17, vs, rfl, hl18⟩ := len_succ hl17
          obtain ⟨v18, vs, rfl, hl19⟩ := len_succ hl18
          obtain ⟨v19, vs, rfl, hl20⟩ := len_succ hl19
          obtain ⟨v20, vs, rfl, hl21⟩ := len_succ hl20
          obtain ⟨v21, vs, rfl, hl22⟩ := len_succ hl21
          obtain ⟨v22, vs, rfl, hl23⟩ := len_succ hl22
          obtain ⟨v23, vs, rfl, hl24⟩ := len_succ hl23
          obtain ⟨v24, vs, rfl, hl25⟩ := len_succ hl24
          obtain ⟨v25, vs, rfl, hl26⟩ := len_succ hl25
          obtain ⟨v26, vs, rfl, hl27⟩ := len_succ hl26
          obtain ⟨v27, vs, rfl, hl28⟩ := len_succ hl27
          obtain rfl := len_zero hl28
          have dd := hd 9 (by simp) _ rfl; simp only [List.getD_cons_zero, List.getD_cons_succ] at dd; obtain rfl := dd
          clear hd hl hl1 hl2 hl3 hl4 hl5 hl6 hl7 hl8 hl9 hl10 hl11 hl12 hl13 hl14 hl15 hl16 hl17 hl18 hl19 hl20 hl21 hl22 hl23 hl24 hl25 hl26 hl27 hl28
          replace hK := hK.out
          simp only [puts, List.set_cons_zero, List.set_cons_succ, Act.put, List.setIfInBounds_toArray] at hK ⊢
          have hK' : Shut _ := hK
          clear hK
          have qq := hA1.below hR; have q0 := qq.at.1; have q1 := qq.at.2.1; clear qq
          go_simp
          (try go_wp2_with fail)
          exact hK'.out _ _ (Below.refl _ _) (hR) (fun D hD => by cases hD; rfl)
        · refine ⟨[9], by decide, fun vs w hl hR hd K hK => ?_⟩
          obtain ⟨v0, vs, rfl, hl1⟩ := len_succ hl
          obtain ⟨v1, vs, rfl, hl2⟩ := len_succ hl1
          obtain ⟨v2, vs, rfl, hl3⟩ := len_succ hl2
          obtain ⟨v3, vs, rfl, hl4⟩ := len_succ hl3
          obtain ⟨v4, vs, rfl, hl5⟩ := len_succ hl4
          obtain ⟨v5, vs, rfl, hl6⟩ := len_succ hl5
          obtain ⟨v6, vs, rfl, hl7⟩ := len_succ hl6
          obtain ⟨v7, vs, rfl, hl8⟩ := len_succ hl7
          obtain ⟨v8, vs, rfl, hl9⟩ := len_succ hl8
          obtain ⟨v9, vs, rfl, hl10⟩ := len_succ hl9
          obtain ⟨v10, vs, rfl, hl11⟩ := len_succ hl10
          obtain ⟨v11, vs, rfl, hl12⟩ := len_succ hl11
          obtain ⟨v12, vs, rfl, hl13⟩ := len_succ hl12
          obtain ⟨v13, vs, rfl, hl14⟩ := len_succ hl13
          obtain ⟨v14, vs, rfl, hl15⟩ := len_succ hl14
          obtain ⟨v15, vs, rfl, hl16⟩ := len_succ hl15
          obtain ⟨v16, vs, rfl, hl17⟩ := len_succ hl16
          obtain ⟨v17, vs, rfl, hl18⟩ := len_succ hl17
          obtain ⟨v18, vs, rfl, hl19⟩ := len_succ hl18
          obtain ⟨v19, vs, rfl, hl20⟩ := len_succ hl19
          obtain ⟨v20, vs, rfl, hl21⟩ := len_succ hl20
          obtain ⟨v21, vs, rfl, hl22⟩ := len_succ hl21
          obtain ⟨v22, vs, rfl, hl23⟩ := len_succ hl22
          obtain ⟨v23, vs, rfl, hl24⟩ := len_succ hl23
          obtain ⟨v24, vs, rfl, hl25⟩ := len_succ hl24
          obtain ⟨v25, vs, rfl, hl26⟩ := len_succ hl25
          obtain ⟨v26, vs, rfl, hl27⟩ := len_succ hl26
          obtain ⟨v27, vs, rfl, hl28⟩ := len_succ hl27
          obtain rfl := len_zero hl28
          have dd := hd 9 (by simp) _ rfl; simp only [List.getD_cons_zero, List.getD_cons_succ] at dd; obtain rfl := dd
          clear hd hl hl1 hl2 hl3 hl4 hl5 hl6 hl7 hl8 hl9 hl10 hl11 hl12 hl13 hl14 hl15 hl16 hl17 hl18 hl19 hl20 hl21 hl22 hl23 hl24 hl25 hl26 hl27 hl28
          replace hK := hK.out
          simp only [puts, List.set_cons_zero, List.set_cons_succ, Act.put, List.setIfInBounds_toArray] at hK ⊢
          have hK' : Shut _ := hK
          clear hK
          have qq := hA0.below hR; have q0 := qq.at.1; have q1 := qq.at.2.1; clear qq
          go_simp
          (try go_wp2_with fail)
          exact hK'.out _ _ (Below.refl _ _) (hR) (fun D hD => by cases hD; rfl)
        · refine ⟨[15, 16, 9], by decide, fun vs w hl hR hd K hK => ?_⟩
          obtain ⟨v0, vs, rfl, hl1⟩ := len_succ hl
          obtain ⟨v1, vs, rfl, hl2⟩ := len_succ hl1
          obtain ⟨v2, vs, rfl, hl3⟩ := len_succ hl2
          obtain ⟨v3, vs, rfl, hl4⟩ := len_succ hl3
          obtain ⟨v4, vs, rfl, hl5⟩ := len_succ hl4
          obtain ⟨v5, vs, rfl, hl6⟩ := len_succ hl5
          obtain ⟨v6, vs, rfl, hl7⟩ := len_succ hl6
          obtain ⟨v7, vs, rfl, hl8⟩ := len_succ hl7
          obtain ⟨v8, vs, rfl, hl9⟩ := len_succ hl8
          obtain ⟨v9, vs, rfl, hl10⟩ := len_succ hl9
          obtain ⟨v10, vs, rfl, hl11⟩ := len_succ hl10
          obtain ⟨v11, vs, rfl, hl12⟩ := len_succ hl11
          obtain ⟨v12, vs, rfl, hl13⟩ := len_succ hl12
          obtain ⟨v13, vs, rfl, hl14⟩ := len_succ hl13
          obtain ⟨v14, vs, rfl, hl15⟩ := len_succ hl14
          obtain ⟨v15, vs, rfl, hl16⟩ := len_succ hl15
          obtain ⟨v16, vs, rfl, hl17⟩ := len_succ hl16
          obtain ⟨v17, vs, rfl, hl18⟩ := len_succ hl17
          obtain ⟨v18, vs, rfl, hl19⟩ := len_succ hl18
          obtain ⟨v19, vs, rfl, hl20⟩ := len_succ hl19
          obtain ⟨v20, vs, rfl, hl21⟩ := len_succ hl20
          obtain ⟨v21, vs, rfl, hl22⟩ := len_succ hl21
          obtain ⟨v22, vs, rfl, hl23⟩ := len_succ hl22
          obtain ⟨v23, vs, rfl, hl24⟩ := len_succ hl23
          obtain ⟨v24, vs, rfl, hl25⟩ := len_succ hl24
          obtain ⟨v25, vs, rfl, hl26⟩ := len_succ hl25
          obtain ⟨v26, vs, rfl, hl27⟩ := len_succ hl26
          obtain ⟨v27, vs, rfl, hl28⟩ := len_succ hl27
          obtain rfl := len_zero hl28
          have dd := hd 15 (by simp) _ rfl; simp only [List.getD_cons_zero, List.getD_cons_succ] at dd; obtain rfl := dd
          have dd := hd 16 (by simp) _ rfl; simp only [List.getD_cons_zero, List.getD_cons_succ] at dd; obtain rfl := dd
          have dd := hd 9 (by simp) _ rfl; simp only [List.getD_cons_zero, List.getD_cons_succ] at dd; obtain rfl := dd
          clear hd hl hl1 hl2 hl3 hl4 hl5 hl6 hl7 hl8 hl9 hl10 hl11 hl12 hl13 hl14 hl15 hl16 hl17 hl18 hl19 hl20 hl21 hl22 hl23 hl24 hl25 hl26 hl27 hl28
          replace hK := hK.out
          simp only [puts, List.set_cons_zero, List.set_cons_succ, Act.put, List.setIfInBounds_toArray] at hK ⊢
          have hK' : Shut _ := hK
          clear hK
          go_simp
          go_at_call 38; (with_reducible refine (rwithin_t _ _ _ _ _ _ HK.out HC.out EQ2).mono ?_); rintro e w2 ⟨rfl, hb⟩
          (try go_wp2_with fail)
          exact hK'.out _ _ (hb) (step_call hR (hb)) (fun D hD => by cases hD; rfl)
        · refine ⟨[14, 17, 9], by decide, fun vs w hl hR hd K hK => ?_⟩
          obtain ⟨v0, vs, rfl, hl1⟩ := len_succ hl
          obtain ⟨v1, vs, rfl, hl2⟩ := len_succ hl1
          obtain ⟨v2, vs, rfl, hl3⟩ := len_succ hl2
          obtain ⟨v3, vs, rfl, hl4⟩ := len_succ hl3
          obtain ⟨v4, vs, rfl, hl5⟩ := len_succ hl4
          obtain ⟨v5, vs, rfl, hl6⟩ := len_succ hl5
          obtain ⟨v6, vs, rfl, hl7⟩ := len_succ hl6
          obtain ⟨v7, vs, rfl, hl8⟩ := len_succ hl7
          obtain ⟨v8, vs, rfl, hl9⟩ := len_succ hl8
          obtain ⟨v9, vs, rfl, hl10⟩ := len_succ hl9
          obtain ⟨v10, vs, rfl, hl11⟩ := len_succ hl10
          obtain ⟨v11, vs, rfl, hl12⟩ := len_succ hl11
          obtain ⟨v12, vs, rfl, hl13⟩ := len_succ hl12
          obtain ⟨v13, vs, rfl, hl14⟩ := len_succ hl13
          obtain ⟨v14, vs, rfl, hl15⟩ := len_succ hl14
          obtain ⟨v15, vs, rfl, hl16⟩ := len_succ hl15
          obtain ⟨v16, vs, rfl, hl17⟩ := len_succ hl16
          obtain ⟨v17, vs, rfl, hl18⟩ := len_succ hl17
          obtain ⟨v18, vs, rfl, hl19⟩ := len_succ hl18
          obtain ⟨v19, vs, rfl, hl20⟩ := len_succ hl19
          obtain ⟨v20, vs, rfl, hl21⟩ := len_succ hl20
          obtain ⟨v21, vs, rfl, hl22⟩ := len_succ hl21
          obtain ⟨v22, vs, rfl, hl23⟩ := len_succ hl22
          obtain ⟨v23, vs, rfl, hl24⟩ := len_succ hl23
          obtain ⟨v24, vs, rfl, hl25⟩ := len_succ hl24
          obtain ⟨v25, vs, rfl, hl26⟩ := len_succ hl25
          obtain ⟨v26, vs, rfl, hl27⟩ := len_succ hl26
          obtain ⟨v27, vs, rfl, hl28⟩ := len_succ hl27
          obtain rfl := len_zero hl28
          have dd := hd 14 (by simp) _ rfl; simp only [List.getD_cons_zero, List.getD_cons_succ] at dd; obtain rfl := dd
          have dd := hd 17 (by simp) _ rfl; simp only [List.getD_cons_zero, List.getD_cons_succ] at dd; obtain rfl := dd
          have dd := hd 9 (by simp) _ rfl; simp only [List.getD_cons_zero, List.getD_cons_succ] at dd; obtain rfl := dd
          clear hd hl hl1 hl2 hl3 hl4 hl5 hl6 hl7 hl8 hl9 hl10 hl11 hl12 hl13 hl14 hl15 hl16 hl17 hl18 hl19 hl20 hl21 hl22 hl23 hl24 hl25 hl26 hl27 hl28
          replace hK := hK.out
          simp only [puts, List.set_cons_zero, List.set_cons_succ, Act.put, List.setIfInBounds_toArray] at hK ⊢
          have hK' : Shut _ := hK
          clear hK
          go_simp
          (try simp only [beq_self_eq_true])
          (try go_wp2_with fail)
          exact hK'.out _ _ (Below.refl _ _) (hR) (fun D hD => by cases hD; rfl)
        · refine ⟨[9, 18], by decide, fun vs w hl hR hd K hK => ?_⟩
          obtain ⟨v0, vs, rfl, hl1⟩ := len_succ hl
          obtain ⟨v1, vs, rfl, hl2⟩ := len_succ hl1
          obtain ⟨v2, vs, rfl, hl3⟩ := len_succ hl2
          obtain ⟨v3, vs, rfl, hl4⟩ := len_succ hl3
          obtain ⟨v4, vs, rfl, hl5⟩ := len_succ hl4
          obtain ⟨v5, vs, rfl, hl6⟩ := len_succ hl5
          obtain ⟨v6, vs, rfl, hl7⟩ := len_succ hl6
          obtain ⟨v7, vs, rfl, hl8⟩ := len_succ hl7
          obtain ⟨v8, vs, rfl, hl9⟩ := len_succ hl8
          obtain ⟨v9, vs, rfl, hl10⟩ := len_succ hl9
          obtain ⟨v10, vs, rfl, hl11⟩ := len_succ hl10
          obtain ⟨v11, vs, rfl, hl12⟩ := len_succ hl11
          obtain ⟨v12, vs, rfl, hl13⟩ := len_succ hl12
          obtain ⟨v13, vs, rfl, hl14⟩ := len_succ hl13
          obtain ⟨v14, vs, rfl, hl15⟩ := len_succ hl14
          obtain ⟨v15, vs, rfl, hl16⟩ := len_succ hl15
          obtain ⟨v16, vs, rfl, hl17⟩ := len_succ hl16
          obtain ⟨v17, vs, rfl, hl18⟩ := len_succ hl17
          obtain ⟨v18, vs, rfl, hl19⟩ := len_succ hl18
          obtain ⟨v19, vs, rfl, hl20⟩ := len_succ hl19
          obtain ⟨v20, vs, rfl, hl21⟩ := len_succ hl20
          obtain ⟨v21, vs, rfl, hl22⟩ := len_succ hl21
          obtain ⟨v22, vs, rfl, hl23⟩ := len_succ hl22
          obtain ⟨v23, vs, rfl, hl24⟩ := len_succ hl23
          obtain ⟨v24, vs, rfl, hl25⟩ := len_succ hl24
          obtain ⟨v25, vs, rfl, hl26⟩ := len_succ hl25
          obtain ⟨v26, vs, rfl, hl27⟩ := len_succ hl26
          obtain ⟨v27, vs, rfl, hl28⟩ := len_succ hl27
          obtain rfl := len_zero hl28
          have dd := hd 9 (by simp) _ rfl; simp only [List.getD_cons_zero, List.getD_cons_succ] at dd; obtain rfl := dd
          have dd := hd 18 (by simp) _ rfl; simp only [List.getD_cons_zero, List.getD_cons_succ] at dd; obtain rfl := dd
          clear hd hl hl1 hl2 hl3 hl4 hl5 hl6 hl7 hl8 hl9 hl10 hl11 hl12 hl13 hl14 hl15 hl16 hl17 hl18 hl19 hl20 hl21 hl22 hl23 hl24 hl25 hl26 hl27 hl28
          replace hK := hK.out
          simp only [puts, List.set_cons_zero, List.set_cons_succ, Act.put, List.setIfInBounds_toArray] at hK ⊢
          have hK' : Shut _ := hK
          clear hK
          go_simp
          (try go_wp2_with fail)
          exact hK'.out _ _ (Below.refl _ _) (hR) (fun D hD => by cases hD; rfl)
        · refine ⟨[19], by decide, fun vs w hl hR hd K hK => ?_⟩
          obtain ⟨v0, vs, rfl, hl1⟩ := len_succ hl
          obtain ⟨v1, vs, rfl, hl2⟩ := len_succ hl1
          obtain ⟨v2, vs, rfl, hl3⟩ := len_succ hl2
          obtain ⟨v3, vs, rfl, hl4⟩ := len_succ hl3
          obtain ⟨v4, vs, rfl, hl5⟩ := len_succ hl4
          obtain ⟨v5, vs, rfl, hl6⟩ := len_succ hl5
          obtain ⟨v6, vs, rfl, hl7⟩ := len_succ hl6
          obtain ⟨v7, vs, rfl, hl8⟩ := len_succ hl7
          obtain ⟨v8, vs, rfl, hl9⟩ := len_succ hl8
          obtain ⟨v9, vs, rfl, hl10⟩ := len_succ hl9
          obtain ⟨v10, vs, rfl, hl11⟩ := len_succ hl10
          obtain ⟨v11, vs, rfl, hl12⟩ := len_succ hl11
          obtain ⟨v12, vs, rfl, hl13⟩ := len_succ hl12
          obtain ⟨v13, vs, rfl, hl14⟩ := len_succ hl13
          obtain ⟨v14, vs, rfl, hl15⟩ := len_succ hl14
          obtain ⟨v15, vs, rfl, hl16⟩ := len_succ hl15
          obtain ⟨v16, vs, rfl, hl17⟩ := len_succ hl16
          obtain ⟨v17, vs, rfl, hl18⟩ := len_succ hl17
          obtain ⟨v18, vs, rfl, hl19⟩ := len_succ hl18
          obtain ⟨v19, vs, rfl, hl20⟩ := len_succ hl19
          obtain ⟨v20, vs, rfl, hl21⟩ := len_succ hl20
          obtain ⟨v21, vs, rfl, hl22⟩ := len_succ hl21
          obtain ⟨v22, vs, rfl, hl23⟩ := len_succ hl22
          obtain ⟨v23, vs, rfl, hl24⟩ := len_succ hl23
          obtain ⟨v24, vs, rfl, hl25⟩ := len_succ hl24
          obtain ⟨v25, vs, rfl, hl26⟩ := len_succ hl25
          obtain ⟨v26, vs, rfl, hl27⟩ := len_succ hl26
          obtain ⟨v27, vs, rfl, hl28⟩ := len_succ hl27
          obtain rfl := len_zero hl28
          have dd := hd 19 (by simp) _ rfl; simp only [List.getD_cons_zero, List.getD_cons_succ] at dd; obtain rfl := dd
          clear hd hl hl1 hl2 hl3 hl4 hl5 hl6 hl7 hl8 hl9 hl10 hl11 hl12 hl13 hl14 hl15 hl16 hl17 hl18 hl19 hl20 hl21 hl22 hl23 hl24 hl25 hl26 hl27 hl28
          replace hK := hK.out
          simp only [puts, List.set_cons_zero, List.set_cons_succ, Act.put, List.setIfInBounds_toArray] at hK ⊢
          have hK' : Shut _ := hK
          clear hK
          go_simp
          (try go_wp2_with fail)
          exact hK'.out _ _ (Below.refl _ _) (hR) (fun D hD => by cases hD; rfl)
        · refine ⟨[20], by decide, fun vs w hl hR hd K hK => ?_⟩
          obtain ⟨v0, vs, rfl, hl1⟩ := len_succ hl
          obtain ⟨v1, vs, rfl, hl2⟩ := len_succ hl1
          obtain ⟨v2, vs, rfl, hl3⟩ := len_succ hl2
          obtain ⟨v3, vs, rfl, hl4⟩ := len_succ hl3
          obtain ⟨v4, vs, rfl, hl5⟩ := len_succ hl4
          obtain ⟨v5, vs, rfl, hl6⟩ := len_succ hl5
          obtain ⟨v6, vs, rfl, hl7⟩ := len_succ hl6
          obtain ⟨v7, vs, rfl, hl8⟩ := len_succ hl7
          obtain ⟨v8, vs, rfl, hl9⟩ := len_succ hl8
          obtain ⟨v9, vs, rfl, hl10⟩ := len_succ hl9
          obtain ⟨v10, vs, rfl, hl11⟩ := len_succ hl10
          obtain ⟨v11, vs, rfl, hl12⟩ := len_succ hl11
          obtain ⟨v12, vs, rfl, hl13⟩ := len_succ hl12
          obtain ⟨v13, vs, rfl, hl14⟩ := len_succ hl13
          obtain ⟨v14, vs, rfl, hl15⟩ := len_succ hl14
          obtain ⟨v15, vs, rfl, hl16⟩ := len_succ hl15
          obtain ⟨v16, vs, rfl, hl17⟩ := len_succ hl16
          obtain ⟨v17, vs, rfl, hl18⟩ := len_succ hl17
          obtain ⟨v18, vs, rfl, hl19⟩ := len_succ hl18
          obtain ⟨v19, vs, rfl, hl20⟩ := len_succ hl19
          obtain ⟨v20, vs, rfl, hl21⟩ := len_succ hl20
          obtain ⟨v21, vs, rfl, hl22⟩ := len_succ hl21
          obtain ⟨v22, vs, rfl, hl23⟩ := len_succ hl22
          obtain ⟨v23, vs, rfl, hl24⟩ := len_succ hl23
          obtain ⟨v24, vs, rfl, hl25⟩ := len_succ hl24
          obtain ⟨v25, vs, rfl, hl26⟩ := len_succ hl25
          obtain ⟨v26, vs, rfl, hl27⟩ := len_succ hl26
          obtain ⟨v27, vs, rfl, hl28⟩ := len_succ hl27
          obtain rfl := len_zero hl28
          have dd := hd 20 (by simp) _ rfl; simp only [List.getD_cons_zero, List.getD_cons_succ] at dd; obtain rfl := dd
          clear hd hl hl1 hl2 hl3 hl4 hl5 hl6 hl7 hl8 hl9 hl10 hl11 hl12 hl13 hl14 hl15 hl16 hl17 hl18 hl19 hl20 hl21 hl22 hl23 hl24 hl25 hl26 hl27 hl28
          replace hK := hK.out
          simp only [puts, List.set_cons_zero, List.set_cons_succ, Act.put, List.setIfInBounds_toArray] at hK ⊢
          have hK' : Shut _ := hK
          clear hK
          have qq := hA3.below hR; have q0 := qq.at.1; have q1 := qq.at.2.1; clear qq
          go_simp
          (try go_wp2_with fail)
          exact hK'.out _ _ (Below.refl _ _) (hR) (fun D hD => by cases hD; rfl)
        · refine ⟨[21, 20], by decide, fun vs w hl hR hd K hK => ?_⟩
          obtain ⟨v0, vs, rfl, hl1⟩ := len_succ hl
          obtain ⟨v1, vs, rfl, hl2⟩ := len_succ hl1
          obtain ⟨v2, vs, rfl, hl3⟩ := len_succ hl2
          obtain ⟨v3, vs, rfl, hl4⟩ := len_succ hl3
          obtain ⟨v4, vs, rfl, hl5⟩ := len_succ hl4
          obtain ⟨v5, vs, rfl, hl6⟩ := len_succ hl5
          obtain ⟨v6, vs, rfl, hl7⟩ := len_succ hl6
          obtain ⟨v7, vs, rfl, hl8⟩ := len_succ hl7
          obtain ⟨v8, vs, rfl, hl9⟩ := len_succ hl8
          obtain ⟨v9, vs, rfl, hl10⟩ := len_succ hl9
          obtain ⟨v10, vs, rfl, hl11⟩ := len_succ hl10
          obtain ⟨v11, vs, rfl, hl12⟩ := len_succ hl11
          obtain ⟨v12, vs, rfl, hl13⟩ := len_succ hl12
          obtain ⟨v13, vs, rfl, hl14⟩ := len_succ hl13
          obtain ⟨v14, vs, rfl, hl15⟩ := len_succ hl14
          obtain ⟨v15, vs, rfl, hl16⟩ := len_succ hl15
          obtain ⟨v16, vs, rfl, hl17⟩ := len_succ hl16
          obtain ⟨v17, vs, rfl, hl18⟩ := len_succ hl17
          obtain ⟨v18, vs, rfl, hl19⟩ := len_succ hl18
          obtain ⟨v19, vs, rfl, hl20⟩ := len_succ hl19
          obtain ⟨v20, vs, rfl, hl21⟩ := len_succ hl20
          obtain ⟨v21, vs, rfl, hl22⟩ := len_succ hl21
          obtain ⟨v22, vs, rfl, hl23⟩ := len_succ hl22
          obtain ⟨v23, vs, rfl, hl24⟩ := len_succ hl23
          obtain ⟨v24, vs, rfl, hl25⟩ := len_succ hl24
          obtain ⟨v25, vs, rfl, hl26⟩ := len_succ hl25
          obtain ⟨v26, vs, rfl, hl27⟩ := len_succ hl26
          obtain ⟨v27, vs, rfl, hl28⟩ := len_succ hl27
          obtain rfl := len_zero hl28
          have dd := hd 21 (by simp) _ rfl; simp only [List.getD_cons_zero, List.getD_cons_succ] at dd; obtain rfl := dd
          have dd := hd 20 (by simp) _ rfl; simp only [List.getD_cons_zero, List.getD_cons_succ] at dd; obtain rfl := dd
          clear hd hl hl1 hl2 hl3 hl4 hl5 hl6 hl7 hl8 hl9 hl10 hl11 hl12 hl13 hl14 hl15 hl16 hl17 hl18 hl19 hl20 hl21 hl22 hl23 hl24 hl25 hl26 hl27 hl28
          replace hK := hK.out
          simp only [puts, List.set_cons_zero, List.set_cons_succ, Act.put, List.setIfInBounds_toArray] at hK ⊢
          have hK' : Shut _ := hK
          clear hK
          go_simp
          (try go_wp2_with fail)
          exact hK'.out _ _ ((Below.refl _ _).alloc (Nat.le_refl _) _) (step_call hR ((Below.refl _ _).alloc (Nat.le_refl _) _)) (fun D hD => by cases hD; exact ⟨_, rfl, Cs.one _ _ _ _ _ _ _ _ (hc.below hR) _ rfl⟩)
        · refine ⟨[20], by decide, fun vs w hl hR hd K hK => ?_⟩
          obtain ⟨v0, vs, rfl, hl1⟩ := len_succ hl
          obtain ⟨v1, vs, rfl, hl2⟩ := len_succ hl1
          obtain ⟨v2, vs, rfl, hl3⟩ := len_succ hl2
          obtain ⟨v3, vs, rfl, hl4⟩ := len_succ hl3
          obtain ⟨v4, vs, rfl, hl5⟩ := len_succ hl4
          obtain ⟨v5, vs, rfl, hl6⟩ := len_succ hl5
          obtain ⟨v6, vs, rfl, hl7⟩ := len_succ hl6
          obtain ⟨v7, vs, rfl, hl8⟩ := len_succ hl7
          obtain ⟨v8, vs, rfl, hl9⟩ := len_succ hl8
          obtain ⟨v9, vs, rfl, hl10⟩ := len_succ hl9
          obtain ⟨v10, vs, rfl, hl11⟩ := len_succ hl10
          obtain ⟨v11, vs, rfl, hl12⟩ := len_succ hl11
          obtain ⟨v12, vs, rfl, hl13⟩ := len_succ hl12
          obtain ⟨v13, vs, rfl, hl14⟩ := len_succ hl13
          obtain ⟨v14, vs, rfl, hl15⟩ := len_succ hl14
          obtain ⟨v15, vs, rfl, hl16⟩ := len_succ hl15
          obtain ⟨v16, vs, rfl, hl17⟩ := len_succ hl16
          obtain ⟨v17, vs, rfl, hl18⟩ := len_succ hl17
          obtain ⟨v18, vs, rfl, hl19⟩ := len_succ hl18
          obtain ⟨v19, vs, rfl, hl20⟩ := len_succ hl19
          obtain ⟨v20, vs, rfl, hl21⟩ := len_succ hl20
          obtain ⟨v21, vs, rfl, hl22⟩ := len_succ hl21
          obtain ⟨v22, vs, rfl, hl23⟩ := len_succ hl22
          obtain ⟨v23, vs, rfl, hl24⟩ := len_succ hl23
          obtain ⟨v24, vs, rfl, hl25⟩ := len_succ hl24
          obtain ⟨v25, vs, rfl, hl26⟩ := len_succ hl25
          obtain ⟨v26, vs, rfl, hl27⟩ := len_succ hl26
          obtain ⟨v27, vs, rfl, hl28⟩ := len_succ hl27
          obtain rfl := len_zero hl28
          have dd := hd 20 (by simp) _ rfl; simp only [List.getD_cons_zero, List.getD_cons_succ] at dd; obtain rfl := dd
          clear hd hl hl1 hl2 hl3 hl4 hl5 hl6 hl7 hl8 hl9 hl10 hl11 hl12 hl13 hl14 hl15 hl16 hl17 hl18 hl19 hl20 hl21 hl22 hl23 hl24 hl25 hl26 hl27 hl28
          replace hK := hK.out
          simp only [puts, List.set_cons_zero, List.set_cons_succ, Act.put, List.setIfInBounds_toArray] at hK ⊢
          have hK' : Shut _ := hK
          clear hK
          have qq := hA2.below hR; have q0 := qq.at.1; have q1 := qq.at.2.1; clear qq
          go_simp
          (try go_wp2_with fail)
          exact hK'.out _ _ (Below.refl _ _) (hR) (fun D hD => by cases hD; rfl)
        · refine ⟨[23, 20], by decide, fun vs w hl hR hd K hK => ?_⟩
          obtain ⟨v0, vs, rfl, hl1⟩ := len_succ hl
          obtain ⟨v1, vs, rfl, hl2⟩ := len_succ hl1
          obtain ⟨v2, vs, rfl, hl3⟩ := len_succ hl2
          obtain ⟨v3, vs, rfl, hl4⟩ := len_succ hl3
          obtain ⟨v4, vs, rfl, hl5⟩ := len_succ hl4
          obtain ⟨v5, vs, rfl, hl6⟩ := len_succ hl5
          obtain ⟨v6, vs, rfl, hl7⟩ := len_succ hl6
          obtain ⟨v7, vs, rfl, hl8⟩ := len_succ hl7
          obtain ⟨v8, vs, rfl, hl9⟩ := len_succ hl8
          obtain ⟨v9, vs, rfl, hl10⟩ := len_succ hl9
          obtain ⟨v10, vs, rfl, hl11⟩ := len_succ hl10
          obtain ⟨v11, vs, rfl, hl12⟩ := len_succ hl11
          obtain ⟨v12, vs, rfl, hl13⟩ := len_succ hl12
          obtain ⟨v13, vs, rfl, hl14⟩ := len_succ hl13
          obtain ⟨v14, vs, rfl, hl15⟩ := len_succ hl14
          obtain ⟨v15, vs, rfl, hl16⟩ := len_succ hl15
          obtain ⟨v16, vs, rfl, hl17⟩ := len_succ hl16
          obtain ⟨v17, vs, rfl, hl18⟩ := len_succ hl17
          obtain ⟨v18, vs, rfl, hl19⟩ := len_succ hl18
          obtain ⟨v19, vs, rfl, hl20⟩ := len_succ hl19
          obtain ⟨v20, vs, rfl, hl21⟩ := len_succ hl20
          obtain ⟨v21, vs, rfl, hl22⟩ := len_succ hl21
          obtain ⟨v22, vs, rfl, hl23⟩ := len_succ hl22
          obtain ⟨v23, vs, rfl, hl24⟩ := len_succ hl23
          obtain ⟨v24, vs, rfl, hl25⟩ := len_succ hl24
          obtain ⟨v25, vs, rfl, hl26⟩ := len_succ hl25
          obtain ⟨v26, vs, rfl, hl27⟩ := len_succ hl26
          obtain ⟨v27, vs, rfl, hl28⟩ := len_succ hl27
          obtain rfl := len_zero hl28
          have dd := hd 23 (by simp) _ rfl; simp only [List.getD_cons_zero, List.getD_cons_succ] at dd; obtain rfl := dd
          have dd := hd 20 (by simp) _ rfl; simp only [List.getD_cons_zero, List.getD_cons_succ] at dd; obtain rfl := dd
          clear hd hl hl1 hl2 hl3 hl4 hl5 hl6 hl7 hl8 hl9 hl10 hl11 hl12 hl13 hl14 hl15 hl16 hl17 hl18 hl19 hl20 hl21 hl22 hl23 hl24 hl25 hl26 hl27 hl28
          replace hK := hK.out
          simp only [puts, List.set_cons_zero, List.set_cons_succ, Act.put, List.setIfInBounds_toArray] at hK ⊢
          have hK' : Shut _ := hK
          clear hK
          go_simp
          (try go_wp2_with fail)
          exact hK'.out _ _ ((Below.refl _ _).alloc (Nat.le_refl _) _) (step_call hR ((Below.refl _ _).alloc (Nat.le_refl _) _)) (fun D hD => by cases hD; exact ⟨_, rfl, Ms.one _ (c1, c1) HZ.out _ rfl⟩)
        · refine ⟨[22, 24, 20], by decide, fun vs w hl hR hd K hK => ?_⟩
          obtain ⟨v0, vs, rfl, hl1⟩ := len_succ hl
          obtain ⟨v1, vs, rfl, hl2⟩ := len_succ hl1
          obtain ⟨v2, vs, rfl, hl3⟩ := len_succ hl2
          obtain ⟨v3, vs, rfl, hl4⟩ := len_succ hl3
          obtain ⟨v4, vs, rfl, hl5⟩ := len_succ hl4
          obtain ⟨v5, vs, rfl, hl6⟩ := len_succ hl5
          obtain ⟨v6, vs, rfl, hl7⟩ := len_succ hl6
          obtain ⟨v7, vs, rfl, hl8⟩ := len_succ hl7
          obtain ⟨v8, vs, rfl, hl9⟩ := len_succ hl8
          obtain ⟨v9, vs, rfl, hl10⟩ := len_succ hl9
          obtain ⟨v10, vs, rfl, hl11⟩ := len_succ hl10
          obtain ⟨v11, vs, rfl, hl12⟩ := len_succ hl11
          obtain ⟨v12, vs, rfl, hl13⟩ := len_succ hl12
          obtain ⟨v13, vs, rfl, hl14⟩ := len_succ hl13
          obtain ⟨v14, vs, rfl, hl15⟩ := len_succ hl14
          obtain ⟨v15, vs, rfl, hl16⟩ := len_succ hl15
          obtain ⟨v16, vs, rfl, hl17⟩ := len_succ hl16
          obtain ⟨v17, vs, rfl, hl18⟩ := len_succ hl17
          obtain ⟨v18, vs, rfl, hl19⟩ := len_succ hl18
          obtain ⟨v19, vs, rfl, hl20⟩ := len_succ hl19
          obtain ⟨v20, vs, rfl, hl21⟩ := len_succ hl20
          obtain ⟨v21, vs, rfl, hl22⟩ := len_succ hl21
          obtain ⟨v22, vs, rfl, hl23⟩ := len_succ hl22
          obtain ⟨v23, vs, rfl, hl24⟩ := len_succ hl23
          obtain ⟨v24, vs, rfl, hl25⟩ := len_succ hl24
          obtain ⟨v25, vs, rfl, hl26⟩ := len_succ hl25
          obtain ⟨v26, vs, rfl, hl27⟩ := len_succ hl26
          obtain ⟨v27, vs, rfl, hl28⟩ := len_succ hl27
          obtain rfl := len_zero hl28
          have dd := hd 22 (by simp) _ rfl; simp only [List.getD_cons_zero, List.getD_cons_succ] at dd; have hg := Classical.choose_spec dd; generalize Classical.choose dd = g at hg; clear dd; have e := hg.1; have hs := hg.2; clear hg; subst e
          have dd := hd 24 (by simp) _ rfl; simp only [List.getD_cons_zero, List.getD_cons_succ] at dd; have hg := Classical.choose_spec dd; generalize Classical.choose dd = g' at hg; clear dd; have e := hg.1; have ht := hg.2; clear hg; subst e
          have dd := hd 20 (by simp) _ rfl; simp only [List.getD_cons_zero, List.getD_cons_succ] at dd; obtain rfl := dd
          clear hd hl hl1 hl2 hl3 hl4 hl5 hl6 hl7 hl8 hl9 hl10 hl11 hl12 hl13 hl14 hl15 hl16 hl17 hl18 hl19 hl20 hl21 hl22 hl23 hl24 hl25 hl26 hl27 hl28
          replace hK := hK.out
          simp only [puts, List.set_cons_zero, List.set_cons_succ, Act.put, List.setIfInBounds_toArray] at hK ⊢
          have hK' : Shut _ := hK
          clear hK
          go_simp
          go_at_call 39; (with_reducible refine (same_yes _ _ _ _ _ _ _ _ _ hs ht (HW.out.below (step_call hB hR)).tz EQZ).mono ?_); rintro e w2 ⟨rfl, hb⟩
          (try go_wp2_with fail)
          exact hK'.out _ _ (hb) (step_call hR (hb)) (fun D hD => by cases hD; rfl)
        · refine ⟨[20, 25], by decide, fun vs w hl hR hd K hK => ?_⟩
          obtain ⟨v0, vs, rfl, hl1⟩ := len_succ hl
          obtain ⟨v1, vs, rfl, hl2⟩ := len_succ hl1
          obtain ⟨v2, vs, rfl, hl3⟩ := len_succ hl2
          obtain ⟨v3, vs, rfl, hl4⟩ := len_succ hl3
          obtain ⟨v4, vs, rfl, hl5⟩ := len_succ hl4
          obtain ⟨v5, vs, rfl, hl6⟩ := len_succ hl5
          obtain ⟨v6, vs, rfl, hl7⟩ := len_succ hl6
          obtain ⟨v7, vs, rfl, hl8⟩ := len_succ hl7
          obtain ⟨v8, vs, rfl, hl9⟩ := len_succ hl8
          obtain ⟨v9, vs, rfl, hl10⟩ := len_succ hl9
          obtain ⟨v10, vs, rfl, hl11⟩ := len_succ hl10
          obtain ⟨v11, vs, rfl, hl12⟩ := len_succ hl11
          obtain ⟨v12, vs, rfl, hl13⟩ := len_succ hl12
          obtain ⟨v13, vs, rfl, hl14⟩ := len_succ hl13
          obtain ⟨v14, vs, rfl, hl15⟩ := len_succ hl14
          obtain ⟨v15, vs, rfl, hl16⟩ := len_succ hl15
          obtain ⟨v16, vs, rfl, hl17⟩ := len_succ hl16
          obtain ⟨v17, vs, rfl, hl18⟩ := len_succ hl17
          obtain ⟨v18, vs, rfl, hl19⟩ := len_succ hl18
          obtain ⟨v19, vs, rfl, hl20⟩ := len_succ hl19
          obtain ⟨v20, vs, rfl, hl21⟩ := len_succ hl20
          obtain ⟨v21, vs, rfl, hl22⟩ := len_succ hl21
          obtain ⟨v22, vs, rfl, hl23⟩ := len_succ hl22
          obtain ⟨v23, vs, rfl, hl24⟩ := len_succ hl23
          obtain ⟨v24, vs, rfl, hl25⟩ := len_succ hl24
          obtain ⟨v25, vs, rfl, hl26⟩ := len_succ hl25
          obtain ⟨v26, vs, rfl, hl27⟩ := len_succ hl26
          obtain ⟨v27, vs, rfl, hl28⟩ := len_succ hl27
          obtain rfl := len_zero hl28
          have dd := hd 20 (by simp) _ rfl; simp only [List.getD_cons_zero, List.getD_cons_succ] at dd; obtain rfl := dd
          have dd := hd 25 (by simp) _ rfl; simp only [List.getD_cons_zero, List.getD_cons_succ] at dd; obtain rfl := dd
          clear hd hl hl1 hl2 hl3 hl4 hl5 hl6 hl7 hl8 hl9 hl10 hl11 hl12 hl13 hl14 hl15 hl16 hl17 hl18 hl19 hl20 hl21 hl22 hl23 hl24 hl25 hl26 hl27 hl28
          replace hK := hK.out
          simp only [puts, List.set_cons_zero, List.set_cons_succ, Act.put, List.setIfInBounds_toArray] at hK ⊢
          have hK' : Shut _ := hK
          clear hK
          go_simp
          (try go_wp2_with fail)
          exact hK'.out _ _ (Below.refl _ _) (hR) (fun D hD => by cases hD; rfl)
        · refine ⟨[26], by decide, fun vs w hl hR hd K hK => ?_⟩
          obtain ⟨v0, vs, rfl, hl1⟩ := len_succ hl
          obtain ⟨v1, vs, rfl, hl2⟩ := len_succ hl1
          obtain ⟨v2, vs, rfl, hl3⟩ := len_succ hl2
          obtain ⟨v3, vs, rfl, hl4⟩ := len_succ hl3
          obtain ⟨v4, vs, rfl, hl5⟩ := len_succ hl4
          obtain ⟨v5, vs, rfl, hl6⟩ := len_succ hl5
          obtain ⟨v6, vs, rfl, hl7⟩ := len_succ hl6
          obtain ⟨v7, vs, rfl, hl8⟩ := len_succ hl7
          obtain ⟨v8, vs, rfl, hl9⟩ := len_succ hl8
          obtain ⟨v9, vs, rfl, hl10⟩ := len_succ hl9
          obtain ⟨v10, vs, rfl, hl11⟩ := len_succ hl10
          obtain ⟨v11, vs, rfl, hl12⟩ := len_succ hl11
          obtain ⟨v12, vs, rfl, hl13⟩ := len_succ hl12
          obtain ⟨v13, vs, rfl, hl14⟩ := len_succ hl13
          obtain ⟨v14, vs, rfl, hl15⟩ := len_succ hl14
          obtain ⟨v15, vs, rfl, hl16⟩ := len_succ hl15
          obtain ⟨v16, vs, rfl, hl17⟩ := len_succ hl16
          obtain ⟨v17, vs, rfl, hl18⟩ := len_succ hl17
          obtain ⟨v18, vs, rfl, hl19⟩ := len_succ hl18
          obtain ⟨v19, vs, rfl, hl20⟩ := len_succ hl19
          obtain ⟨v20, vs, rfl, hl21⟩ := len_succ hl20
          obtain ⟨v21, vs, rfl, hl22⟩ := len_succ hl21
          obtain ⟨v22, vs, rfl, hl23⟩ := len_succ hl22
          obtain ⟨v23, vs, rfl, hl24⟩ := len_succ hl23
          obtain ⟨v24, vs, rfl, hl25⟩ := len_succ hl24
          obtain ⟨v25, vs, rfl, hl26⟩ := len_succ hl25
          obtain ⟨v26, vs, rfl, hl27⟩ := len_succ hl26
          obtain ⟨v27, vs, rfl, hl28⟩ := len_succ hl27
          obtain rfl := len_zero hl28
          have dd := hd 26 (by simp) _ rfl; simp only [List.getD_cons_zero, List.getD_cons_succ] at dd; obtain rfl := dd
          clear hd hl hl1 hl2 hl3 hl4 hl5 hl6 hl7 hl8 hl9 hl10 hl11 hl12 hl13 hl14 hl15 hl16 hl17 hl18 hl19 hl20 hl21 hl22 hl23 hl24 hl25 hl26 hl27 hl28
          replace hK := hK.out
          simp only [puts, List.set_cons_zero, List.set_cons_succ, Act.put, List.setIfInBounds_toArray] at hK ⊢
          have hK' : Shut _ := hK
          clear hK
          go_simp
          (try go_wp2_with fail)
          exact hK'.out _ _ (Below.refl _ _) (hR) (fun D hD => by cases hD; rfl)
        · intro vs w4 hl hR hd
          obtain ⟨v0, vs, rfl, hl1⟩ := len_succ hl
          obtain ⟨v1, vs, rfl, hl2⟩ := len_succ hl1
          obtain ⟨v2, vs, rfl, hl3⟩ := len_succ hl2
          obtain ⟨v3, vs, rfl, hl4⟩ := len_succ hl3
          obtain ⟨v4, vs, rfl, hl5⟩ := len_succ hl4
          obtain ⟨v5, vs, rfl, hl6⟩ := len_succ hl5
          obtain ⟨v6, vs, rfl, hl7⟩ := len_succ hl6
          obtain ⟨v7, vs, rfl, hl8⟩ := len_succ hl7
          obtain ⟨v8, vs, rfl, hl9⟩ := len_succ hl8
          obtain ⟨v9, vs, rfl, hl10⟩ := len_succ hl9
          obtain ⟨v10, vs, rfl, hl11⟩ := len_succ hl10
          obtain ⟨v11, vs, rfl, hl12⟩ := len_succ hl11
          obtain ⟨v12, vs, rfl, hl13⟩ := len_succ hl12
          obtain ⟨v13, vs, rfl, hl14⟩ := len_succ hl13
          obtain ⟨v14, vs, rfl, hl15⟩ := len_succ hl14
          obtain ⟨v15, vs, rfl, hl16⟩ := len_succ hl15
          obtain ⟨v16, vs, rfl, hl17⟩ := len_succ hl16
          obtain ⟨v17, vs, rfl, hl18⟩ := len_succ hl17
          obtain ⟨v18, vs, rfl, hl19⟩ := len_succ hl18
          obtain ⟨v19, vs, rfl, hl20⟩ := len_succ hl19
          obtain ⟨v20, vs, rfl, hl21⟩ := len_succ hl20
          obtain ⟨v21, vs, rfl, hl22⟩ := len_succ hl21
          obtain ⟨v22, vs, rfl, hl23⟩ := len_succ hl22
          obtain ⟨v23, vs, rfl, hl24⟩ := len_succ hl23
          obtain ⟨v24, vs, rfl, hl25⟩ := len_succ hl24
          obtain ⟨v25, vs, rfl, hl26⟩ := len_succ hl25
          obtain ⟨v26, vs, rfl, hl27⟩ := len_succ hl26
          obtain ⟨v27, vs, rfl, hl28⟩ := len_succ hl27
          obtain rfl := len_zero hl28
          have dd := hd 27 _ rfl; simp only [List.getD_cons_zero, List.getD_cons_succ] at dd; obtain rfl := dd
          clear hd hl hl1 hl2 hl3 hl4 hl5 hl6 hl7 hl8 hl9 hl10 hl11 hl12 hl13 hl14 hl15 hl16 hl17 hl18 hl19 hl20 hl21 hl22 hl23 hl24 hl25 hl26 hl27 hl28
          simp only [puts, List.set_cons_zero, List.set_cons_succ, Act.put, List.setIfInBounds_toArray]
          go_wp2_with fail
          go_ret
          exact ⟨rfl, step_call hB hR⟩
end Go.Proofs.YtadomogbakcokaaGreatDoor
