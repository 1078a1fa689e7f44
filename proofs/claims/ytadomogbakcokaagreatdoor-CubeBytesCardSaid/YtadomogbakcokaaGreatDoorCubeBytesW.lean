/- The walk of CubeBytes. -/
import Derived.Test.YtadomogbakcokaaGreatDoorCwJ
namespace Go.Proofs.YtadomogbakcokaaGreatDoor
open Go.RowKit Go.PlainAid
set_option linter.unusedVariables false
set_option linter.unusedSimpArgs false
set_option maxHeartbeats 4000000
set_option maxRecDepth 20000

theorem cbytes_n (a b : Option Addr) (n c m d : Nat) (x : Cu) (p q bs : List Nat) (w : World) (h : Cb w ⟨a, n, c, b, m, d⟩ x) (hp : BytesOf p x.1) (hq : BytesOf q x.2) (h1 : p.length < 128) (h2 : q.length < 128) (hbs : Hid (bytesC p q = bs)) :
    Calls Tryz.prog 56 #[.agg #[.slice a n c, .slice b m d]] w fun e w' => ∃ t : Option Addr × Nat, e = .returned (.slice t.1 bs.length t.2) ∧ Bw w' t.1 bs.length t.2 bs ∧ Nz t.1 bs.length t.2 ∧ Below w.heap.size w w' := by
  refine (bytesC_any a b n c m d x p q w h hp hq h1 h2).mono ?_
  rintro e w' ⟨v, rfl, hr, hb⟩
  rw [hbs.out] at hr
  obtain ⟨t, rfl, h3, h4⟩ := rowY_bwv hr (by rw [← hbs.out]; exact bytesC_lt hp.lt hq.lt h1 h2)
  exact ⟨t, rfl, h3, h4, hb⟩
theorem cubeBytes_walk (r : Rx) (a0 : Option Addr) (n0 c0 : Nat) (ps : List Nat) (w : World) (hW : Wld w) (hr : RxOk r) (hsh : a0 = none ∧ n0 = 0 ∧ c0 = 0 ∨ ∃ b o, a0 = some ⟨b, o, none⟩) (h : Bw w a0 n0 c0 ps) :
    Calls Tryz.prog 14 #[.agg #[.int .u8 (r.1 : Nat), .int .u8 (r.2.1 : Nat), .bool r.2.2], .slice a0 n0 c0] w fun e w' => e = .returned (.bool true) ∧ Below w.heap.size w w' := by
  obtain ⟨r1, r2, r3⟩ := r
  have HW := Lib.hid hW
  have HRX := Lib.hid hr
  have hc8 := fitM_ok (r1, r2, r3)
  obtain ⟨⟨m1, m2⟩, em⟩ : ∃ m, fitM (r1, r2, r3) = m := ⟨_, rfl⟩
  rw [em] at hc8
  have EF := Lib.hid em
  have HC := Lib.hid hc8.ok
  obtain ⟨X, eX⟩ : ∃ X, cuM (m1, m2) = X := ⟨_, rfl⟩
  have EX := Lib.hid eX
  obtain ⟨P, hp1, hp2, hp3, hp4⟩ := bytes_of_bits m1 hc8.1
  obtain ⟨Q, hq1, hq2, hq3, hq4⟩ := bytes_of_bits m2 hc8.2
  have HBM := Lib.hid hp1
  have HBN := Lib.hid hq1
  have HXX : Hid ((readL P, readL Q) = X) := by show _ = _; rw [hp3, hq3, ← eX]; rfl
  have HBP : Hid (BytesOf P X.1) := by rw [← eX]; exact hp1
  have HBQ : Hid (BytesOf Q X.2) := by rw [← eX]; exact hq1
  have HP8 : Hid (P.length < 128) := by show _ < _; omega
  have HQ8 : Hid (Q.length < 128) := by show _ < _; omega
  obtain ⟨hf1, hf2⟩ := front_two HP8.out HQ8.out hp2 hq2
  obtain ⟨bs, ebs⟩ : ∃ bs, bytesC P Q = bs := ⟨_, rfl⟩
  have HN100 : Hid (bs.length ≤ 100) := by show _ ≤ _; rw [← ebs]; simp [bytesC]; omega
  rw [ebs] at hf1
  have HF1 := Lib.hid hf1
  have HF2 := Lib.hid hf2
  have HBS := Lib.hid ebs
  obtain ⟨tt, ett⟩ : ∃ tt : ByteArray, tt = ⟨(textC X).toArray⟩ := ⟨_, rfl⟩
  have HTX := Lib.hid ett
  have HTT : Hid (tt = ⟨(textC (cuM (m1, m2))).toArray⟩) := by rw [eX]; exact ett
  obtain ⟨k, hk⟩ : ∃ k : Nat, min n0 100 = k := ⟨_, rfl⟩
  have HKK : Hid (min (n0 : Int) 100 = (k : Nat)) := by show _ = _; omega
  have hkc : k ≤ c0 := by have := h.2.1; omega
  have hkn : k ≤ n0 := by omega
  have hkk := h.pre hkn
  obtain ⟨us, eus⟩ : ∃ us, ps.take k = us := ⟨_, rfl⟩
  rw [eus] at hkk
  have HP2 := Lib.hid hkk
  have HK100 : Hid (k ≤ 100) := by show _ ≤ _; omega
  clear hW hr em hc8 eX hp1 hp2 hp3 hp4 hq1 hq2 hq3 hq4 hf1 hf2 ebs ett hk h hkk eus
  dsimp only
  go_enter Tryz.func14, Tryz.ntmps14
  go_upto_region 5 with (first
    | (go_at_call 15; (with_reducible refine (awake_any _ (HW.out.below (bel1 (Below.refl _ _)))).mono ?_); rintro e w0 ⟨rfl, hB⟩; obtain ⟨q0, q1, q2, -⟩ := boxR hB)
    | (go_at_call 26; (with_reducible refine (rfit_c _ _ _ _ _ _ HRX.out EF).mono ?_); rintro e w1 ⟨rfl, hb⟩; have hB := hB.trans (hb.mono hB.size); clear hb; have hbx := (Below.refl w1.heap.size w1).alloc (Nat.le_refl _) (.cells #[.int .u64 (m1 : Nat), .int .u64 (m2 : Nat)] 28); have hA5 := At2T.new w1 (.int .u64 (m1 : Nat)) (.int .u64 (m2 : Nat)) 28; have hB := hB.trans (hbx.mono hB.size); clear hbx q0 q1 q2; have q0 := hA5.at.1; have q1 := hA5.at.2.1)
    | (go_at_call 54; (with_reducible refine (refbytes_c _ _ P Q bs _ HC.out HBM.out HBN.out HBS).mono ?_); rintro e w2 ⟨t2, rfl, hbw, hnz, hb⟩; have hB := hB.trans (hb.mono hB.size); replace hA5 := hA5.below hb; clear hb q0 q1)
    | (go_at_call 53; (with_reducible refine (cread_y _ _ _ bs P (Q.length :: Q) Q X _ hbw hnz HN100.out HF1.out HF2.out HXX).mono ?_); rintro e w3 ⟨a, n, c, b, m, d, rfl, hc, hb⟩; have hB := hB.trans (hb.mono hB.size); replace hA5 := hA5.below hb; clear hb; have hbx := (Below.refl w3.heap.size w3).alloc (Nat.le_refl _) (.cells #[.slice a n c, .slice b m d] 34); have hA6 := At2T.new w3 (.slice a n c) (.slice b m d) 34; have hB := hB.trans (hbx.mono hB.size); replace hA5 := hA5.below hbx; replace hc := hc.below hbx; clear hbx hbw hnz))
  replace hB := bel1 hB
  obtain ⟨W3, hW3⟩ : ∃ W3, w3.alloc (.cells #[.slice a n c, .slice b m d] 34) = W3 := ⟨_, rfl⟩
  rw [hW3] at hA5 hA6 hc hB ⊢
  clear hW3
  generalize w3.heap.size = g6 at hA6 ⊢
  generalize w1.heap.size = g5 at hA5 ⊢
  refine region_slots [20, 21, 22, 23, 24, 25, 26, 27, 28, 29, 30, 31, 32, 33, 34, 35, 36, 37, 38, 39, 40, 41, 42, 43]
    [fun v w => v = .int .i64 0,
     fun v w => v = .bool false,
     fun v w => v = .bool false,
     fun v w => v = .agg #[.slice a n c, .slice b m d],
     fun v w => v = .agg #[.int .u64 (m1 : Nat), .int .u64 (m2 : Nat)],
     fun v w => CvV w v X,
     fun v w => v = .bool true,
     fun v w => v = .bool false,
     fun v w => v = .bool false,
     fun v w => v = .bool false,
     fun v w => v = .agg #[.slice a n c, .slice b m d],
     fun v w => BwV w v bs,
     fun v w => v = .agg #[.int .u64 (m1 : Nat), .int .u64 (m2 : Nat)],
     fun v w => BwV w v bs,
     fun v w => v = .bool true,
     fun v w => v = .bool false,
     fun v w => v = .bool false,
     fun v w => v = .bool false,
     fun v w => v = .agg #[.slice a n c, .slice b m d],
     fun v w => v = .string tt,
     fun v w => v = .agg #[.int .u64 (m1 : Nat), .int .u64 (m2 : Nat)],
     fun v w => v = .string tt,
     fun v w => v = .bool false,
     fun v w => v = .bool false]
    (fun w' => Below W3.heap.size W3 w') (fun w w' => Below w.heap.size w w') (by kernel_rfl) (by kernel_rfl) rfl [undef, undef, undef, undef, undef, undef, undef, undef, undef, undef, undef, undef, undef, undef, undef, undef, undef, undef, undef, undef, undef, undef, undef, undef] (by simp only [puts, List.set_cons_zero, List.set_cons_succ, Act.put, List.setIfInBounds_toArray]) rfl ((Below.refl _ _).drew) ?_ ⟨?_, ?_, ?_, ?_, ?_, ?_, ?_, ?_, ?_, ?_, ?_, ?_, ?_, ?_, ?_, ?_, ?_, ?_, ?_, ?_, ?_, ?_, ?_, ?_, trivial⟩ ?_
  · intro j D hj v w w' hb hD
    match j, hj with
    | 0, hj => cases hj; exact hD
    | 1, hj => cases hj; exact hD
    | 2, hj => cases hj; exact hD
    | 3, hj => cases hj; exact hD
    | 4, hj => cases hj; exact hD
    | 5, hj => cases hj; exact hD.below hb
    | 6, hj => cases hj; exact hD
    | 7, hj => cases hj; exact hD
    | 8, hj => cases hj; exact hD
    | 9, hj => cases hj; exact hD
    | 10, hj => cases hj; exact hD
    | 11, hj => cases hj; exact hD.below hb
    | 12, hj => cases hj; exact hD
    | 13, hj => cases hj; exact hD.below hb
    | 14, hj => cases hj; exact hD
    | 15, hj => cases hj; exact hD
    | 16, hj => cases hj; exact hD
    | 17, hj => cases hj; exact hD
    | 18, hj => cases hj; exact hD
    | 19, hj => cases hj; exact hD
    | 20, hj => cases hj; exact hD
    | 21, hj => cases hj; exact hD
    | 22, hj => cases hj; exact hD
    | 23, hj => cases hj; exact hD
    | j + 24, hj => cases hj
  · refine ⟨[], by decide, fun vs w hl hR hd K hK => ?_⟩
    obtain ⟨v0, vs, rfl, hl1⟩ := len_succ hl
    obtain ⟨v1, vs, rfl, hl2⟩ := len_succ hl1
    obtain ⟨v2, vs, rfl, hl3⟩ := len_succ hl2
    obtain ⟨v3, vs, rfl, hl4⟩ := len_succ hl3
    obtain ⟨v4, vs, rfl, hl5⟩ := len_succ hl4
    obtain ⟨v5, vs, rfl, hl6⟩ := len_succ hl5
    obtain ⟨v6, vs, rfl, hl7⟩ := len_succ hl6
    obtain ⟨v7, vs, rfl, hl8⟩ := len_succ hl7
    obtain ⟨v8, vs, rfl, hl9⟩ := len_succ hl8
    obtain ⟨v9, vs, rfl, hl10⟩ := len_succ hl9
    obtain ⟨v10, vs, rfl, hl11⟩ := len_succ hl10
    obtain ⟨v11, vs, rfl, hl12⟩ := len_succ hl11
    obtain ⟨v12, vs, rfl, hl13⟩ := len_succ hl12
    obtain ⟨v13, vs, rfl, hl14⟩ := len_succ hl13
    obtain ⟨v14, vs, rfl, hl15⟩ := len_succ hl14
    obtain ⟨v15, vs, rfl, hl16⟩ := len_succ hl15
    obtain ⟨v16, vs, rfl, hl17⟩ := len_succ hl16
    obtain ⟨v17, vs, rfl, hl18⟩ := len_succ hl17
    obtain ⟨v18, vs, rfl, hl19⟩ := len_succ hl18
    obtain ⟨v19, vs, rfl, hl20⟩ := len_succ hl19
    obtain ⟨v20, vs, rfl, hl21⟩ := len_succ hl20
    obtain ⟨v21, vs, rfl, hl22⟩ := len_succ hl21
    obtain ⟨v22, vs, rfl, hl23⟩ := len_succ hl22
    obtain ⟨v23, vs, rfl, hl24⟩ := len_succ hl23
    obtain rfl := len_zero hl24
    clear hd hl hl1 hl2 hl3 hl4 hl5 hl6 hl7 hl8 hl9 hl10 hl11 hl12 hl13 hl14 hl15 hl16 hl17 hl18 hl19 hl20 hl21 hl22 hl23 hl24
    replace hK := hK.out
    simp only [puts, List.set_cons_zero, List.set_cons_succ, Act.put, List.setIfInBounds_toArray] at hK ⊢
    have hK' : Shut _ := hK
    clear hK
    go_simp
    (try go_wp2_with fail)
    exact hK'.out _ _ (Below.refl _ _) (hR) (fun D hD => by cases hD; rfl)
  · refine ⟨[0], by decide, fun vs w hl hR hd K hK => ?_⟩
    obtain ⟨v0, vs, rfl, hl1⟩ := len_succ hl
    obtain ⟨v1, vs, rfl, hl2⟩ := len_succ hl1
    obtain ⟨v2, vs, rfl, hl3⟩ := len_succ hl2
    obtain ⟨v3, vs, rfl, hl4⟩ := len_succ hl3
    obtain ⟨v4, vs, rfl, hl5⟩ := len_succ hl4
    obtain ⟨v5, vs, rfl, hl6⟩ := len_succ hl5
    obtain ⟨v6, vs, rfl, hl7⟩ := len_succ hl6
    obtain ⟨v7, vs, rfl, hl8⟩ := len_succ hl7
    obtain ⟨v8, vs, rfl, hl9⟩ := len_succ hl8
    obtain ⟨v9, vs, rfl, hl10⟩ := len_succ hl9
    obtain ⟨v10, vs, rfl, hl11⟩ := len_succ hl10
    obtain ⟨v11, vs, rfl, hl12⟩ := len_succ hl11
    obtain ⟨v12, vs, rfl, hl13⟩ := len_succ hl12
    obtain ⟨v13, vs, rfl, hl14⟩ := len_succ hl13
    obtain ⟨v14, vs, rfl, hl15⟩ := len_succ hl14
    obtain ⟨v15, vs, rfl, hl16⟩ := len_succ hl15
    obtain ⟨v16, vs, rfl, hl17⟩ := len_succ hl16
    obtain ⟨v17, vs, rfl, hl18⟩ := len_succ hl17
    obtain ⟨v18, vs, rfl, hl19⟩ := len_succ hl18
    obtain ⟨v19, vs, rfl, hl20⟩ := len_succ hl19
    obtain ⟨v20, vs, rfl, hl21⟩ := len_succ hl20
    obtain ⟨v21, vs, rfl, hl22⟩ := len_succ hl21
    obtain ⟨v22, vs, rfl, hl23⟩ := len_succ hl22
    obtain ⟨v23, vs, rfl, hl24⟩ := len_succ hl23
    obtain rfl := len_zero hl24
    have dd := hd 0 (by simp) _ rfl; simp only [List.getD_cons_zero, List.getD_cons_succ] at dd; obtain rfl := dd
    clear hd hl hl1 hl2 hl3 hl4 hl5 hl6 hl7 hl8 hl9 hl10 hl11 hl12 hl13 hl14 hl15 hl16 hl17 hl18 hl19 hl20 hl21 hl22 hl23 hl24
    replace hK := hK.out
    simp only [puts, List.set_cons_zero, List.set_cons_succ, Act.put, List.setIfInBounds_toArray] at hK ⊢
    have hK' : Shut _ := hK
    clear hK
    go_simp
    (try go_wp2_with fail)
    exact hK'.out _ _ (Below.refl _ _) (hR) (fun D hD => by cases hD; rfl)
  · refine ⟨[1], by decide, fun vs w hl hR hd K hK => ?_⟩
    obtain ⟨v0, vs, rfl, hl1⟩ := len_succ hl
    obtain ⟨v1, vs, rfl, hl2⟩ := len_succ hl1
    obtain ⟨v2, vs, rfl, hl3⟩ := len_succ hl2
    obtain ⟨v3, vs, rfl, hl4⟩ := len_succ hl3
    obtain ⟨v4, vs, rfl, hl5⟩ := len_succ hl4
    obtain ⟨v5, vs, rfl, hl6⟩ := len_succ hl5
    obtain ⟨v6, vs, rfl, hl7⟩ := len_succ hl6
    obtain ⟨v7, vs, rfl, hl8⟩ := len_succ hl7
    obtain ⟨v8, vs, rfl, hl9⟩ := len_succ hl8
    obtain ⟨v9, vs, rfl, hl10⟩ := len_succ hl9
    obtain ⟨v10, vs, rfl, hl11⟩ := len_succ hl10
    obtain ⟨v11, vs, rfl, hl12⟩ := len_succ hl11
    obtain ⟨v12, vs, rfl, hl13⟩ := len_succ hl12
    obtain ⟨v13, vs, rfl, hl14⟩ := len_succ hl13
    obtain ⟨v14, vs, rfl, hl15⟩ := len_succ hl14
    obtain ⟨v15, vs, rfl, hl16⟩ := len_succ hl15
    obtain ⟨v16, vs, rfl, hl17⟩ := len_succ hl16
    obtain ⟨v17, vs, rfl, hl18⟩ := len_succ hl17
    obtain ⟨v18, vs, rfl, hl19⟩ := len_succ hl18
    obtain ⟨v19, vs, rfl, hl20⟩ := len_succ hl19
    obtain ⟨v20, vs, rfl, hl21⟩ := len_succ hl20
    obtain ⟨v21, vs, rfl, hl22⟩ := len_succ hl21
    obtain ⟨v22, vs, rfl, hl23⟩ := len_succ hl22
    obtain ⟨v23, vs, rfl, hl24⟩ := len_succ hl23
    obtain rfl := len_zero hl24
    have dd := hd 1 (by simp) _ rfl; simp only [List.getD_cons_zero, List.getD_cons_succ] at dd; obtain rfl := dd
    clear hd hl hl1 hl2 hl3 hl4 hl5 hl6 hl7 hl8 hl9 hl10 hl11 hl12 hl13 hl14 hl15 hl16 hl17 hl18 hl19 hl20 hl21 hl22 hl23 hl24
    replace hK := hK.out
    simp only [puts, List.set_cons_zero, List.set_cons_succ, Act.put, List.setIfInBounds_toArray] at hK ⊢
    have hK' : Shut _ := hK
    clear hK
    go_simp
    (try go_wp2_with fail)
    exact hK'.out _ _ (Below.refl _ _) (hR) (fun D hD => by cases hD; rfl)
  · refine ⟨[2], by decide, fun vs w hl hR hd K hK => ?_⟩
    obtain ⟨v0, vs, rfl, hl1⟩ := len_succ hl
    obtain ⟨v1, vs, rfl, hl2⟩ := len_succ hl1
    obtain ⟨v2, vs, rfl, hl3⟩ := len_succ hl2
    obtain ⟨v3, vs, rfl, hl4⟩ := len_succ hl3
    obtain ⟨v4, vs, rfl, hl5⟩ := len_succ hl4
    obtain ⟨v5, vs, rfl, hl6⟩ := len_succ hl5
    obtain ⟨v6, vs, rfl, hl7⟩ := len_succ hl6
    obtain ⟨v7, vs, rfl, hl8⟩ := len_succ hl7
    obtain ⟨v8, vs, rfl, hl9⟩ := len_succ hl8
    obtain ⟨v9, vs, rfl, hl10⟩ := len_succ hl9
    obtain ⟨v10, vs, rfl, hl11⟩ := len_succ hl10
    obtain ⟨v11, vs, rfl, hl12⟩ := len_succ hl11
    obtain ⟨v12, vs, rfl, hl13⟩ := len_succ hl12
    obtain ⟨v13, vs, rfl, hl14⟩ := len_succ hl13
    obtain ⟨v14, vs, rfl, hl15⟩ := len_succ hl14
    obtain ⟨v15, vs, rfl, hl16⟩ := len_succ hl15
    obtain ⟨v16, vs, rfl, hl17⟩ := len_succ hl16
    obtain ⟨v17, vs, rfl, hl18⟩ := len_succ hl17
    obtain ⟨v18, vs, rfl, hl19⟩ := len_succ hl18
    obtain ⟨v19, vs, rfl, hl20⟩ := len_succ hl19
    obtain ⟨v20, vs, rfl, hl21⟩ := len_succ hl20
    obtain ⟨v21, vs, rfl, hl22⟩ := len_succ hl21
    obtain ⟨v22, vs, rfl, hl23⟩ := len_succ hl22
    obtain ⟨v23, vs, rfl, hl24⟩ := len_succ hl23
    obtain rfl := len_zero hl24
    have dd := hd 2 (by simp) _ rfl; simp only [List.getD_cons_zero, List.getD_cons_succ] at dd; obtain rfl := dd
    clear hd hl hl1 hl2 hl3 hl4 hl5 hl6 hl7 hl8 hl9 hl10 hl11 hl12 hl13 hl14 hl15 hl16 hl17 hl18 hl19 hl20 hl21 hl22 hl23 hl24
    replace hK := hK.out
    simp only [puts, List.set_cons_zero, List.set_cons_succ, Act.put, List.setIfInBounds_toArray] at hK ⊢
    have hK' : Shut _ := hK
    clear hK
    have qq := hA6.below hR; have q0 := qq.at.1; have q1 := qq.at.2.1; clear qq
    go_simp
    (try go_wp2_with fail)
    exact hK'.out _ _ (Below.refl _ _) (hR) (fun D hD => by cases hD; rfl)
  · refine ⟨[2], by decide, fun vs w hl hR hd K hK => ?_⟩
    obtain ⟨v0, vs, rfl, hl1⟩ := len_succ hl
    obtain ⟨v1, vs, rfl, hl2⟩ := len_succ hl1
    obtain ⟨v2, vs, rfl, hl3⟩ := len_succ hl2
    obtain ⟨v3, vs, rfl, hl4⟩ := len_succ hl3
    obtain ⟨v4, vs, rfl, hl5⟩ := len_succ hl4
    obtain ⟨v5, vs, rfl, hl6⟩ := len_succ hl5
    obtain ⟨v6, vs, rfl, hl7⟩ := len_succ hl6
    obtain ⟨v7, vs, rfl, hl8⟩ := len_succ hl7
    obtain ⟨v8, vs, rfl, hl9⟩ := len_succ hl8
    obtain ⟨v9, vs, rfl, hl10⟩ := len_succ hl9
    obtain ⟨v10, vs, rfl, hl11⟩ := len_succ hl10
    obtain ⟨v11, vs, rfl, hl12⟩ := len_succ hl11
    obtain ⟨v12, vs, rfl, hl13⟩ := len_succ hl12
    obtain ⟨v13, vs, rfl, hl14⟩ := len_succ hl13
    obtain ⟨v14, vs, rfl, hl15⟩ := len_succ hl14
    obtain ⟨v15, vs, rfl, hl16⟩ := len_succ hl15
    obtain ⟨v16, vs, rfl, hl17⟩ := len_succ hl16
    obtain ⟨v17, vs, rfl, hl18⟩ := len_succ hl17
    obtain ⟨v18, vs, rfl, hl19⟩ := len_succ hl18
    obtain ⟨v19, vs, rfl, hl20⟩ := len_succ hl19
    obtain ⟨v20, vs, rfl, hl21⟩ := len_succ hl20
    obtain ⟨v21, vs, rfl, hl22⟩ := len_succ hl21
    obtain ⟨v22, vs, rfl, hl23⟩ := len_succ hl22
    obtain ⟨v23, vs, rfl, hl24⟩ := len_succ hl23
    obtain rfl := len_zero hl24
    have dd := hd 2 (by simp) _ rfl; simp only [List.getD_cons_zero, List.getD_cons_succ] at dd; obtain rfl := dd
    clear hd hl hl1 hl2 hl3 hl4 hl5 hl6 hl7 hl8 hl9 hl10 hl11 hl12 hl13 hl14 hl15 hl16 hl17 hl18 hl19 hl20 hl21 hl22 hl23 hl24
    replace hK := hK.out
    simp only [puts, List.set_cons_zero, List.set_cons_succ, Act.put, List.setIfInBounds_toArray] at hK ⊢
    have hK' : Shut _ := hK
    clear hK
    have qq := hA5.below hR; have q0 := qq.at.1; have q1 := qq.at.2.1; clear qq
    go_simp
    (try go_wp2_with fail)
    exact hK'.out _ _ (Below.refl _ _) (hR) (fun D hD => by cases hD; rfl)
  · refine ⟨[4, 2], by decide, fun vs w hl hR hd K hK => ?_⟩
    obtain ⟨v0, vs, rfl, hl1⟩ := len_succ hl
    obtain ⟨v1, vs, rfl, hl2⟩ := len_succ hl1
    obtain ⟨v2, vs, rfl, hl3⟩ := len_succ hl2
    obtain ⟨v3, vs, rfl, hl4⟩ := len_succ hl3
    obtain ⟨v4, vs, rfl, hl5⟩ := len_succ hl4
    obtain ⟨v5, vs, rfl, hl6⟩ := len_succ hl5
    obtain ⟨v6, vs, rfl, hl7⟩ := len_succ hl6
    obtain ⟨v7, vs, rfl, hl8⟩ := len_succ hl7
    obtain ⟨v8, vs, rfl, hl9⟩ := len_succ hl8
    obtain ⟨v9, vs, rfl, hl10⟩ := len_succ hl9
    obtain ⟨v10, vs, rfl, hl11⟩ := len_succ hl10
    obtain ⟨v11, vs, rfl, hl12⟩ := len_succ hl11
    obtain ⟨v12, vs, rfl, hl13⟩ := len_succ hl12
    obtain ⟨v13, vs, rfl, hl14⟩ := len_succ hl13
    obtain ⟨v14, vs, rfl, hl15⟩ := len_succ hl14
    obtain ⟨v15, vs, rfl, hl16⟩ := len_succ hl15
    obtain ⟨v16, vs, rfl, hl17⟩ := len_succ hl16
    obtain ⟨v17, vs, rfl, hl18⟩ := len_succ hl17
    obtain ⟨v18, vs, rfl, hl19⟩ := len_succ hl18
    obtain ⟨v19, vs, rfl, hl20⟩ := len_succ hl19
    obtain ⟨v20, vs, rfl, hl21⟩ := len_succ hl20
    obtain ⟨v21, vs, rfl, hl22⟩ := len_succ hl21
    obtain ⟨v22, vs, rfl, hl23⟩ := len_succ hl22
    obtain ⟨v23, vs, rfl, hl24⟩ := len_succ hl23
    obtain rfl := len_zero hl24
    have dd := hd 4 (by simp) _ rfl; simp only [List.getD_cons_zero, List.getD_cons_succ] at dd; obtain rfl := dd
    have dd := hd 2 (by simp) _ rfl; simp only [List.getD_cons_zero, List.getD_cons_succ] at dd; obtain rfl := dd
    clear hd hl hl1 hl2 hl3 hl4 hl5 hl6 hl7 hl8 hl9 hl10 hl11 hl12 hl13 hl14 hl15 hl16 hl17 hl18 hl19 hl20 hl21 hl22 hl23 hl24
    replace hK := hK.out
    simp only [puts, List.set_cons_zero, List.set_cons_succ, Act.put, List.setIfInBounds_toArray] at hK ⊢
    have hK' : Shut _ := hK
    clear hK
    go_simp
    go_at_call 18; (with_reducible refine (lawmake_c _ _ _ _ HC.out EX).mono ?_); rintro e w2 ⟨a2, n2, c2, b2, m2, d2, rfl, hc2, hb⟩
    (try go_wp2_with fail)
    exact hK'.out _ _ (hb) (step_call hR (hb)) (fun D hD => by cases hD; exact ⟨_, _, _, _, _, _, rfl, hc2⟩)
  · refine ⟨[3, 5, 2], by decide, fun vs w hl hR hd K hK => ?_⟩
    obtain ⟨v0, vs, rfl, hl1⟩ := len_succ hl
    obtain ⟨v1, vs, rfl, hl2⟩ := len_succ hl1
    obtain ⟨v2, vs, rfl, hl3⟩ := len_succ hl2
    obtain ⟨v3, vs, rfl, hl4⟩ := len_succ hl3
    obtain ⟨v4, vs, rfl, hl5⟩ := len_succ hl4
    obtain ⟨v5, vs, rfl, hl6⟩ := len_succ hl5
    obtain ⟨v6, vs, rfl, hl7⟩ := len_succ hl6
    obtain ⟨v7, vs, rfl, hl8⟩ := len_succ hl7
    obtain ⟨v8, vs, rfl, hl9⟩ := len_succ hl8
    obtain ⟨v9, vs, rfl, hl10⟩ := len_succ hl9
    obtain ⟨v10, vs, rfl, hl11⟩ := len_succ hl10
    obtain ⟨v11, vs, rfl, hl12⟩ := len_succ hl11
    obtain ⟨v12, vs, rfl, hl13⟩ := len_succ hl12
    obtain ⟨v13, vs, rfl, hl14⟩ := len_succ hl13
    obtain ⟨v14, vs, rfl, hl15⟩ := len_succ hl14
    obtain ⟨v15, vs, rfl, hl16⟩ := len_succ hl15
    obtain ⟨v16, vs, rfl, hl17⟩ := len_succ hl16
    obtain ⟨v17, vs, rfl, hl18⟩ := len_succ hl17
    obtain ⟨v18, vs, rfl, hl19⟩ := len_succ hl18
    obtain ⟨v19, vs, rfl, hl20⟩ := len_succ hl19
    obtain ⟨v20, vs, rfl, hl21⟩ := len_succ hl20
    obtain ⟨v21, vs, rfl, hl22⟩ := len_succ hl21
    obtain ⟨v22, vs, rfl, hl23⟩ := len_succ hl22
    obtain ⟨v23, vs, rfl, hl24⟩ := len_succ hl23
    obtain rfl := len_zero hl24
    have dd := hd 3 (by simp) _ rfl; simp only [List.getD_cons_zero, List.getD_cons_succ] at dd; obtain rfl := dd
    have dd := hd 5 (by simp) _ rfl; simp only [List.getD_cons_zero, List.getD_cons_succ] at dd; refine dd.elim ?_; clear dd; intro a' n' c' b' m' d' e hc'; subst e
    have dd := hd 2 (by simp) _ rfl; simp only [List.getD_cons_zero, List.getD_cons_succ] at dd; obtain rfl := dd
    clear hd hl hl1 hl2 hl3 hl4 hl5 hl6 hl7 hl8 hl9 hl10 hl11 hl12 hl13 hl14 hl15 hl16 hl17 hl18 hl19 hl20 hl21 hl22 hl23 hl24
    replace hK := hK.out
    simp only [puts, List.set_cons_zero, List.set_cons_succ, Act.put, List.setIfInBounds_toArray] at hK ⊢
    have hK' : Shut _ := hK
    clear hK
    go_simp
    go_at_call 29; (with_reducible refine (equalC_yes _ _ _ _ _ _ _ _ _ _ _ _ X _ (hc.below hR) hc').mono ?_); rintro e w2 ⟨rfl, hb⟩
    (try go_wp2_with fail)
    exact hK'.out _ _ (hb) (step_call hR (hb)) (fun D hD => by cases hD; rfl)
  · refine ⟨[6, 2], by decide, fun vs w hl hR hd K hK => ?_⟩
    obtain ⟨v0, vs, rfl, hl1⟩ := len_succ hl
    obtain ⟨v1, vs, rfl, hl2⟩ := len_succ hl1
    obtain ⟨v2, vs, rfl, hl3⟩ := len_succ hl2
    obtain ⟨v3, vs, rfl, hl4⟩ := len_succ hl3
    obtain ⟨v4, vs, rfl, hl5⟩ := len_succ hl4
    obtain ⟨v5, vs, rfl, hl6⟩ := len_succ hl5
    obtain ⟨v6, vs, rfl, hl7⟩ := len_succ hl6
    obtain ⟨v7, vs, rfl, hl8⟩ := len_succ hl7
    obtain ⟨v8, vs, rfl, hl9⟩ := len_succ hl8
    obtain ⟨v9, vs, rfl, hl10⟩ := len_succ hl9
    obtain ⟨v10, vs, rfl, hl11⟩ := len_succ hl10
    obtain ⟨v11, vs, rfl, hl12⟩ := len_succ hl11
    obtain ⟨v12, vs, rfl, hl13⟩ := len_succ hl12
    obtain ⟨v13, vs, rfl, hl14⟩ := len_succ hl13
    obtain ⟨v14, vs, rfl, hl15⟩ := len_succ hl14
    obtain ⟨v15, vs, rfl, hl16⟩ := len_succ hl15
    obtain ⟨v16, vs, rfl, hl17⟩ := len_succ hl16
    obtain ⟨v17, vs, rfl, hl18⟩ := len_succ hl17
    obtain ⟨v18, vs, rfl, hl19⟩ := len_succ hl18
    obtain ⟨v19, vs, rfl, hl20⟩ := len_succ hl19
    obtain ⟨v20, vs, rfl, hl21⟩ := len_succ hl20
    obtain ⟨v21, vs, rfl, hl22⟩ := len_succ hl21
    obtain ⟨v22, vs, rfl, hl23⟩ := len_succ hl22
    obtain ⟨v23, vs, rfl, hl24⟩ := len_succ hl23
    obtain rfl := len_zero hl24
    have dd := hd 6 (by simp) _ rfl; simp only [List.getD_cons_zero, List.getD_cons_succ] at dd; obtain rfl := dd
    have dd := hd 2 (by simp) _ rfl; simp only [List.getD_cons_zero, List.getD_cons_succ] at dd; obtain rfl := dd
    clear hd hl hl1 hl2 hl3 hl4 hl5 hl6 hl7 hl8 hl9 hl10 hl11 hl12 hl13 hl14 hl15 hl16 hl17 hl18 hl19 hl20 hl21 hl22 hl23 hl24
    replace hK := hK.out
    simp only [puts, List.set_cons_zero, List.set_cons_succ, Act.put, List.setIfInBounds_toArray] at hK ⊢
    have hK' : Shut _ := hK
    clear hK
    go_simp
    (try go_wp2_with fail)
    exact hK'.out _ _ (Below.refl _ _) (hR) (fun D hD => by cases hD; rfl)
  · refine ⟨[2, 7], by decide, fun vs w hl hR hd K hK => ?_⟩
    obtain ⟨v0, vs, rfl, hl1⟩ := len_succ hl
    obtain ⟨v1, vs, rfl, hl2⟩ := len_succ hl1
    obtain ⟨v2, vs, rfl, hl3⟩ := len_succ hl2
    obtain ⟨v3, vs, rfl, hl4⟩ := len_succ hl3
    obtain ⟨v4, vs, rfl, hl5⟩ := len_succ hl4
    obtain ⟨v5, vs, rfl, hl6⟩ := len_succ hl5
    obtain ⟨v6, vs, rfl, hl7⟩ := len_succ hl6
    obtain ⟨v7, vs, rfl, hl8⟩ := len_succ hl7
    obtain ⟨v8, vs, rfl, hl9⟩ := len_succ hl8
    obtain ⟨v9, vs, rfl, hl10⟩ := len_succ hl9
    obtain ⟨v10, vs, rfl, hl11⟩ := len_succ hl10
    obtain ⟨v11, vs, rfl, hl12⟩ := len_succ hl11
    obtain ⟨v12, vs, rfl, hl13⟩ := len_succ hl12
    obtain ⟨v13, vs, rfl, hl14⟩ := len_succ hl13
    obtain ⟨v14, vs, rfl, hl15⟩ := len_succ hl14
    obtain ⟨v15, vs, rfl, hl16⟩ := len_succ hl15
    obtain ⟨v16, vs, rfl, hl17⟩ := len_succ hl16
    obtain ⟨v17, vs, rfl, hl18⟩ := len_succ hl17
    obtain ⟨v18, vs, rfl, hl19⟩ := len_succ hl18
    obtain ⟨v19, vs, rfl, hl20⟩ := len_succ hl19
    obtain ⟨v20, vs, rfl, hl21⟩ := len_succ hl20
    obtain ⟨v21, vs, rfl, hl22⟩ := len_succ hl21
    obtain ⟨v22, vs, rfl, hl23⟩ := len_succ hl22
    obtain ⟨v23, vs, rfl, hl24⟩ := len_succ hl23
    obtain rfl := len_zero hl24
    have dd := hd 2 (by simp) _ rfl; simp only [List.getD_cons_zero, List.getD_cons_succ] at dd; obtain rfl := dd
    have dd := hd 7 (by simp) _ rfl; simp only [List.getD_cons_zero, List.getD_cons_succ] at dd; obtain rfl := dd
    clear hd hl hl1 hl2 hl3 hl4 hl5 hl6 hl7 hl8 hl9 hl10 hl11 hl12 hl13 hl14 hl15 hl16 hl17 hl18 hl19 hl20 hl21 hl22 hl23 hl24
    replace hK := hK.out
    simp only [puts, List.set_cons_zero, List.set_cons_succ, Act.put, List.setIfInBounds_toArray] at hK ⊢
    have hK' : Shut _ := hK
    clear hK
    go_simp
    (try go_wp2_with fail)
    exact hK'.out _ _ (Below.refl _ _) (hR) (fun D hD => by cases hD; rfl)
  · refine ⟨[8], by decide, fun vs w hl hR hd K hK => ?_⟩
    obtain ⟨v0, vs, rfl, hl1⟩ := len_succ hl
    obtain ⟨v1, vs, rfl, hl2⟩ := len_succ hl1
    obtain ⟨v2, vs, rfl, hl3⟩ := len_succ hl2
    obtain ⟨v3, vs, rfl, hl4⟩ := len_succ hl3
    obtain ⟨v4, vs, rfl, hl5⟩ := len_succ hl4
    obtain ⟨v5, vs, rfl, hl6⟩ := len_succ hl5
    obtain ⟨v6, vs, rfl, hl7⟩ := len_succ hl6
    obtain ⟨v7, vs, rfl, hl8⟩ := len_succ hl7
    obtain ⟨v8, vs, rfl, hl9⟩ := len_succ hl8
    obtain ⟨v9, vs, rfl, hl10⟩ := len_succ hl9
    obtain ⟨v10, vs, rfl, hl11⟩ := len_succ hl10
    obtain ⟨v11, vs, rfl, hl12⟩ := len_succ hl11
    obtain ⟨v12, vs, rfl, hl13⟩ := len_succ hl12
    obtain ⟨v13, vs, rfl, hl14⟩ := len_succ hl13
    obtain ⟨v14, vs, rfl, hl15⟩ := len_succ hl14
    obtain ⟨v15, vs, rfl, hl16⟩ := len_succ hl15
    obtain ⟨v16, vs, rfl, hl17⟩ := len_succ hl16
    obtain ⟨v17, vs, rfl, hl18⟩ := len_succ hl17
    obtain ⟨v18, vs, rfl, hl19⟩ := len_succ hl18
    obtain ⟨v19, vs, rfl, hl20⟩ := len_succ hl19
    obtain ⟨v20, vs, rfl, hl21⟩ := len_succ hl20
    obtain ⟨v21, vs, rfl, hl22⟩ := len_succ hl21
    obtain ⟨v22, vs, rfl, hl23⟩ := len_succ hl22
    obtain ⟨v23, vs, rfl, hl24⟩ := len_succ hl23
    obtain rfl := len_zero hl24
    have dd := hd 8 (by simp) _ rfl; simp only [List.getD_cons_zero, List.getD_cons_succ] at dd; obtain rfl := dd
    clear hd hl hl1 hl2 hl3 hl4 hl5 hl6 hl7 hl8 hl9 hl10 hl11 hl12 hl13 hl14 hl15 hl16 hl17 hl18 hl19 hl20 hl21 hl22 hl23 hl24
    replace hK := hK.out
    simp only [puts, List.set_cons_zero, List.set_cons_succ, Act.put, List.setIfInBounds_toArray] at hK ⊢
    have hK' : Shut _ := hK
    clear hK
    go_simp
    (try go_wp2_with fail)
    exact hK'.out _ _ (Below.refl _ _) (hR) (fun D hD => by cases hD; rfl)
  · refine ⟨[9], by decide, fun vs w hl hR hd K hK => ?_⟩
    obtain ⟨v0, vs, rfl, hl1⟩ := len_succ hl
    obtain ⟨v1, vs, rfl, hl2⟩ := len_succ hl1
    obtain ⟨v2, vs, rfl, hl3⟩ := len_succ hl2
    obtain ⟨v3, vs, rfl, hl4⟩ := len_succ hl3
    obtain ⟨v4, vs, rfl, hl5⟩ := len_succ hl4
    obtain ⟨v5, vs, rfl, hl6⟩ := len_succ hl5
    obtain ⟨v6, vs, rfl, hl7⟩ := len_succ hl6
    obtain ⟨v7, vs, rfl, hl8⟩ := len_succ hl7
    obtain ⟨v8, vs, rfl, hl9⟩ := len_succ hl8
    obtain ⟨v9, vs, rfl, hl10⟩ := len_succ hl9
    obtain ⟨v10, vs, rfl, hl11⟩ := len_succ hl10
    obtain ⟨v11, vs, rfl, hl12⟩ := len_succ hl11
    obtain ⟨v12, vs, rfl, hl13⟩ := len_succ hl12
    obtain ⟨v13, vs, rfl, hl14⟩ := len_succ hl13
    obtain ⟨v14, vs, rfl, hl15⟩ := len_succ hl14
    obtain ⟨v15, vs, rfl, hl16⟩ := len_succ hl15
    obtain ⟨v16, vs, rfl, hl17⟩ := len_succ hl16
    obtain ⟨v17, vs, rfl, hl18⟩ := len_succ hl17
    obtain ⟨v18, vs, rfl, hl19⟩ := len_succ hl18
    obtain ⟨v19, vs, rfl, hl20⟩ := len_succ hl19
    obtain ⟨v20, vs, rfl, hl21⟩ := len_succ hl20
    obtain ⟨v21, vs, rfl, hl22⟩ := len_succ hl21
    obtain ⟨v22, vs, rfl, hl23⟩ := len_succ hl22
    obtain ⟨v23, vs, rfl, hl24⟩ := len_succ hl23
    obtain rfl := len_zero hl24
    have dd := hd 9 (by simp) _ rfl; simp only [List.getD_cons_zero, List.getD_cons_succ] at dd; obtain rfl := dd
    clear hd hl hl1 hl2 hl3 hl4 hl5 hl6 hl7 hl8 hl9 hl10 hl11 hl12 hl13 hl14 hl15 hl16 hl17 hl18 hl19 hl20 hl21 hl22 hl23 hl24
    replace hK := hK.out
    simp only [puts, List.set_cons_zero, List.set_cons_succ, Act.put, List.setIfInBounds_toArray] at hK ⊢
    have hK' : Shut _ := hK
    clear hK
    have qq := hA6.below hR; have q0 := qq.at.1; have q1 := qq.at.2.1; clear qq
    go_simp
    (try go_wp2_with fail)
    exact hK'.out _ _ (Below.refl _ _) (hR) (fun D hD => by cases hD; rfl)
  · refine ⟨[10, 9], by decide, fun vs w hl hR hd K hK => ?_⟩
    obtain ⟨v0, vs, rfl, hl1⟩ := len_succ hl
    obtain ⟨v1, vs, rfl, hl2⟩ := len_succ hl1
    obtain ⟨v2, vs, rfl, hl3⟩ := len_succ hl2
    obtain ⟨v3, vs, rfl, hl4⟩ := len_succ hl3
    obtain ⟨v4, vs, rfl, hl5⟩ := len_succ hl4
    obtain ⟨v5, vs, rfl, hl6⟩ := len_succ hl5
    obtain ⟨v6, vs, rfl, hl7⟩ := len_succ hl6
    obtain ⟨v7, vs, rfl, hl8⟩ := len_succ hl7
    obtain ⟨v8, vs, rfl, hl9⟩ := len_succ hl8
    obtain ⟨v9, vs, rfl, hl10⟩ := len_succ hl9
    obtain ⟨v10, vs, rfl, hl11⟩ := len_succ hl10
    obtain ⟨v11, vs, rfl, hl12⟩ := len_succ hl11
    obtain ⟨v12, vs, rfl, hl13⟩ := len_succ hl12
    obtain ⟨v13, vs, rfl, hl14⟩ := len_succ hl13
    obtain ⟨v14, vs, rfl, hl15⟩ := len_succ hl14
    obtain ⟨v15, vs, rfl, hl16⟩ := len_succ hl15
    obtain ⟨v16, vs, rfl, hl17⟩ := len_succ hl16
    obtain ⟨v17, vs, rfl, hl18⟩ := len_succ hl17
    obtain ⟨v18, vs, rfl, hl19⟩ := len_succ hl18
    obtain ⟨v19, vs, rfl, hl20⟩ := len_succ hl19
    obtain ⟨v20, vs, rfl, hl21⟩ := len_succ hl20
    obtain ⟨v21, vs, rfl, hl22⟩ := len_succ hl21
    obtain ⟨v22, vs, rfl, hl23⟩ := len_succ hl22
    obtain ⟨v23, vs, rfl, hl24⟩ := len_succ hl23
    obtain rfl := len_zero hl24
    have dd := hd 10 (by simp) _ rfl; simp only [List.getD_cons_zero, List.getD_cons_succ] at dd; obtain rfl := dd
    have dd := hd 9 (by simp) _ rfl; simp only [List.getD_cons_zero, List.getD_cons_succ] at dd; obtain rfl := dd
    clear hd hl hl1 hl2 hl3 hl4 hl5 hl6 hl7 hl8 hl9 hl10 hl11 hl12 hl13 hl14 hl15 hl16 hl17 hl18 hl19 hl20 hl21 hl22 hl23 hl24
    replace hK := hK.out
    simp only [puts, List.set_cons_zero, List.set_cons_succ, Act.put, List.setIfInBounds_toArray] at hK ⊢
    have hK' : Shut _ := hK
    clear hK
    go_simp
    go_at_call 56; (with_reducible refine (cbytes_n _ _ _ _ _ _ X P Q bs _ (hc.below hR) HBP.out HBQ.out HP8.out HQ8.out HBS).mono ?_); rintro e w2 ⟨t, rfl, ht, hnz, hb⟩
    (try go_wp2_with fail)
    exact hK'.out _ _ (hb) (step_call hR (hb)) (fun D hD => by cases hD; exact ⟨t, rfl, ht, fun e => hnz e⟩)
  · refine ⟨[9], by decide, fun vs w hl hR hd K hK => ?_⟩
    obtain ⟨v0, vs, rfl, hl1⟩ := len_succ hl
    obtain ⟨v1, vs, rfl, hl2⟩ := len_succ hl1
    obtain ⟨v2, vs, rfl, hl3⟩ := len_succ hl2
    obtain ⟨v3, vs, rfl, hl4⟩ := len_succ hl3
    obtain ⟨v4, vs, rfl, hl5⟩ := len_succ hl4
    obtain ⟨v5, vs, rfl, hl6⟩ := len_succ hl5
    obtain ⟨v6, vs, rfl, hl7⟩ := len_succ hl6
    obtain ⟨v7, vs, rfl, hl8⟩ := len_succ hl7
    obtain ⟨v8, vs, rfl, hl9⟩ := len_succ hl8
    obtain ⟨v9, vs, rfl, hl10⟩ := len_succ hl9
    obtain ⟨v10, vs, rfl, hl11⟩ := len_succ hl10
    obtain ⟨v11, vs, rfl, hl12⟩ := len_succ hl11
    obtain ⟨v12, vs, rfl, hl13⟩ := len_succ hl12
    obtain ⟨v13, vs, rfl, hl14⟩ := len_succ hl13
    obtain ⟨v14, vs, rfl, hl15⟩ := len_succ hl14
    obtain ⟨v15, vs, rfl, hl16⟩ := len_succ hl15
    obtain ⟨v16, vs, rfl, hl17⟩ := len_succ hl16
    obtain ⟨v17, vs, rfl, hl18⟩ := len_succ hl17
    obtain ⟨v18, vs, rfl, hl19⟩ := len_succ hl18
    obtain ⟨v19, vs, rfl, hl20⟩ := len_succ hl19
    obtain ⟨v20, vs, rfl, hl21⟩ := len_succ hl20
    obtain ⟨v21, vs, rfl, hl22⟩ := len_succ hl21
    obtain ⟨v22, vs, rfl, hl23⟩ := len_succ hl22
    obtain ⟨v23, vs, rfl, hl24⟩ := len_succ hl23
    obtain rfl := len_zero hl24
    have dd := hd 9 (by simp) _ rfl; simp only [List.getD_cons_zero, List.getD_cons_succ] at dd; obtain rfl := dd
    clear hd hl hl1 hl2 hl3 hl4 hl5 hl6 hl7 hl8 hl9 hl10 hl11 hl12 hl13 hl14 hl15 hl16 hl17 hl18 hl19 hl20 hl21 hl22 hl23 hl24
    replace hK := hK.out
    simp only [puts, List.set_cons_zero, List.set_cons_succ, Act.put, List.setIfInBounds_toArray] at hK ⊢
    have hK' : Shut _ := hK
    clear hK
    have qq := hA5.below hR; have q0 := qq.at.1; have q1 := qq.at.2.1; clear qq
    go_simp
    (try go_wp2_with fail)
    exact hK'.out _ _ (Below.refl _ _) (hR) (fun D hD => by cases hD; rfl)
  · refine ⟨[12, 9], by decide, fun vs w hl hR hd K hK => ?_⟩
    obtain ⟨v0, vs, rfl, hl1⟩ := len_succ hl
    obtain ⟨v1, vs, rfl, hl2⟩ := len_succ hl1
    obtain ⟨v2, vs, rfl, hl3⟩ := len_succ hl2
    obtain ⟨v3, vs, rfl, hl4⟩ := len_succ hl3
    obtain ⟨v4, vs, rfl, hl5⟩ := len_succ hl4
    obtain ⟨v5, vs, rfl, hl6⟩ := len_succ hl5
    obtain ⟨v6, vs, rfl, hl7⟩ := len_succ hl6
    obtain ⟨v7, vs, rfl, hl8⟩ := len_succ hl7
    obtain ⟨v8, vs, rfl, hl9⟩ := len_succ hl8
    obtain ⟨v9, vs, rfl, hl10⟩ := len_succ hl9
    obtain ⟨v10, vs, rfl, hl11⟩ := len_succ hl10
    obtain ⟨v11, vs, rfl, hl12⟩ := len_succ hl11
    obtain ⟨v12, vs, rfl, hl13⟩ := len_succ hl12
    obtain ⟨v13, vs, rfl, hl14⟩ := len_succ hl13
    obtain ⟨v14, vs, rfl, hl15⟩ := len_succ hl14
    obtain ⟨v15, vs, rfl, hl16⟩ := len_succ hl15
    obtain ⟨v16, vs, rfl, hl17⟩ := len_succ hl16
    obtain ⟨v17, vs, rfl, hl18⟩ := len_succ hl17
    obtain ⟨v18, vs, rfl, hl19⟩ := len_succ hl18
    obtain ⟨v19, vs, rfl, hl20⟩ := len_succ hl19
    obtain ⟨v20, vs, rfl, hl21⟩ := len_succ hl20
    obtain ⟨v21, vs, rfl, hl22⟩ := len_succ hl21
    obtain ⟨v22, vs, rfl, hl23⟩ := len_succ hl22
    obtain ⟨v23, vs, rfl, hl24⟩ := len_succ hl23
    obtain rfl := len_zero hl24
    have dd := hd 12 (by simp) _ rfl; simp only [List.getD_cons_zero, List.getD_cons_succ] at dd; obtain rfl := dd
    have dd := hd 9 (by simp) _ rfl; simp only [List.getD_cons_zero, List.getD_cons_succ] at dd; obtain rfl := dd
    clear hd hl hl1 hl2 hl3 hl4 hl5 hl6 hl7 hl8 hl9 hl10 hl11 hl12 hl13 hl14 hl15 hl16 hl17 hl18 hl19 hl20 hl21 hl22 hl23 hl24
    replace hK := hK.out
    simp only [puts, List.set_cons_zero, List.set_cons_succ, Act.put, List.setIfInBounds_toArray] at hK ⊢
    have hK' : Shut _ := hK
    clear hK
    go_simp
    go_at_call 54; (with_reducible refine (refbytes_c _ _ P Q bs _ HC.out HBM.out HBN.out HBS).mono ?_); rintro e w2 ⟨t, rfl, ht, hnz, hb⟩
    (try go_wp2_with fail)
    exact hK'.out _ _ (hb) (step_call hR (hb)) (fun D hD => by cases hD; exact ⟨t, rfl, ht, hnz⟩)
  · refine ⟨[11, 13, 9], by decide, fun vs w hl hR hd K hK => ?_⟩
    obtain ⟨v0, vs, rfl, hl1⟩ := len_succ hl
    obtain ⟨v1, vs, rfl, hl2⟩ := len_succ hl1
    obtain ⟨v2, vs, rfl, hl3⟩ := len_succ hl2
    obtain ⟨v3, vs, rfl, hl4⟩ := len_succ hl3
    obtain ⟨v4, vs, rfl, hl5⟩ := len_succ hl4
    obtain ⟨v5, vs, rfl, hl6⟩ := len_succ hl5
    obtain ⟨v6, vs, rfl, hl7⟩ := len_succ hl6
    obtain ⟨v7, vs, rfl, hl8⟩ := len_succ hl7
    obtain ⟨v8, vs, rfl, hl9⟩ := len_succ hl8
    obtain ⟨v9, vs, rfl, hl10⟩ := len_succ hl9
    obtain ⟨v10, vs, rfl, hl11⟩ := len_succ hl10
    obtain ⟨v11, vs, rfl, hl12⟩ := len_succ hl11
    obtain ⟨v12, vs, rfl, hl13⟩ := len_succ hl12
    obtain ⟨v13, vs, rfl, hl14⟩ := len_succ hl13
    obtain ⟨v14, vs, rfl, hl15⟩ := len_succ hl14
    obtain ⟨v15, vs, rfl, hl16⟩ := len_succ hl15
    obtain ⟨v16, vs, rfl, hl17⟩ := len_succ hl16
    obtain ⟨v17, vs, rfl, hl18⟩ := len_succ hl17
    obtain ⟨v18, vs, rfl, hl19⟩ := len_succ hl18
    obtain ⟨v19, vs, rfl, hl20⟩ := len_succ hl19
    obtain ⟨v20, vs, rfl, hl21⟩ := len_succ hl20
    obtain ⟨v21, vs, rfl, hl22⟩ := len_succ hl21
    obtain ⟨v22, vs, rfl, hl23⟩ := len_succ hl22
    obtain ⟨v23, vs, rfl, hl24⟩ := len_succ hl23
    obtain rfl := len_zero hl24
    have dd := hd 11 (by simp) _ rfl; simp only [List.getD_cons_zero, List.getD_cons_succ] at dd; have hg := Classical.choose_spec dd; generalize Classical.choose dd = t1 at hg; clear dd; have e := hg.1; have ht1 := hg.2.1; clear hg; subst e
    have dd := hd 13 (by simp) _ rfl; simp only [List.getD_cons_zero, List.getD_cons_succ] at dd; have hg := Classical.choose_spec dd; generalize Classical.choose dd = t2 at hg; clear dd; have e := hg.1; have ht2 := hg.2.1; clear hg; subst e
    have dd := hd 9 (by simp) _ rfl; simp only [List.getD_cons_zero, List.getD_cons_succ] at dd; obtain rfl := dd
    clear hd hl hl1 hl2 hl3 hl4 hl5 hl6 hl7 hl8 hl9 hl10 hl11 hl12 hl13 hl14 hl15 hl16 hl17 hl18 hl19 hl20 hl21 hl22 hl23 hl24
    replace hK := hK.out
    simp only [puts, List.set_cons_zero, List.set_cons_succ, Act.put, List.setIfInBounds_toArray] at hK ⊢
    have hK' : Shut _ := hK
    clear hK
    go_simp
    go_at_call 55; (with_reducible refine (equalB_yes _ _ _ _ _ _ bs _ ht1 ht2).mono ?_); rintro e w2 ⟨rfl, hb⟩
    (try go_wp2_with fail)
    exact hK'.out _ _ (hb) (step_call hR (hb)) (fun D hD => by cases hD; rfl)
  · refine ⟨[14, 9], by decide, fun vs w hl hR hd K hK => ?_⟩
    obtain ⟨v0, vs, rfl, hl1⟩ := len_succ hl
    obtain ⟨v1, vs, rfl, hl2⟩ := len_succ hl1
    obtain ⟨v2, vs, rfl, hl3⟩ := len_succ hl2
    obtain ⟨v3, vs, rfl, hl4⟩ := len_succ hl3
    obtain ⟨v4, vs, rfl, hl5⟩ := len_succ hl4
    obtain ⟨v5, vs, rfl, hl6⟩ := len_succ hl5
    obtain ⟨v6, vs, rfl, hl7⟩ := len_succ hl6
    obtain ⟨v7, vs, rfl, hl8⟩ := len_succ hl7
    obtain ⟨v8, vs, rfl, hl9⟩ := len_succ hl8
    obtain ⟨v9, vs, rfl, hl10⟩ := len_succ hl9
    obtain ⟨v10, vs, rfl, hl11⟩ := len_succ hl10
    obtain ⟨v11, vs, rfl, hl12⟩ := len_succ hl11
    obtain ⟨v12, vs, rfl, hl13⟩ := len_succ hl12
    obtain ⟨v13, vs, rfl, hl14⟩ := len_succ hl13
    obtain ⟨v14, vs, rfl, hl15⟩ := len_succ hl14
    obtain ⟨v15, vs, rfl, hl16⟩ := len_succ hl15
    obtain ⟨v16, vs, rfl, hl17⟩ := len_succ hl16
    obtain ⟨v17, vs, rfl, hl18⟩ := len_succ hl17
    obtain ⟨v18, vs, rfl, hl19⟩ := len_succ hl18
    obtain ⟨v19, vs, rfl, hl20⟩ := len_succ hl19
    obtain ⟨v20, vs, rfl, hl21⟩ := len_succ hl20
    obtain ⟨v21, vs, rfl, hl22⟩ := len_succ hl21
    obtain ⟨v22, vs, rfl, hl23⟩ := len_succ hl22
    obtain ⟨v23, vs, rfl, hl24⟩ := len_succ hl23
    obtain rfl := len_zero hl24
    have dd := hd 14 (by simp) _ rfl; simp only [List.getD_cons_zero, List.getD_cons_succ] at dd; obtain rfl := dd
    have dd := hd 9 (by simp) _ rfl; simp only [List.getD_cons_zero, List.getD_cons_succ] at dd; obtain rfl := dd
    clear hd hl hl1 hl2 hl3 hl4 hl5 hl6 hl7 hl8 hl9 hl10 hl11 hl12 hl13 hl14 hl15 hl16 hl17 hl18 hl19 hl20 hl21 hl22 hl23 hl24
    replace hK := hK.out
    simp only [puts, List.set_cons_zero, List.set_cons_succ, Act.put, List.setIfInBounds_toArray] at hK ⊢
    have hK' : Shut _ := hK
    clear hK
    go_simp
    (try go_wp2_with fail)
    exact hK'.out _ _ (Below.refl _ _) (hR) (fun D hD => by cases hD; rfl)
  · refine ⟨[9, 15], by decide, fun vs w hl hR hd K hK => ?_⟩
    obtain ⟨v0, vs, rfl, hl1⟩ := len_succ hl
    obtain ⟨v1, vs, rfl, hl2⟩ := len_succ hl1
    obtain ⟨v2, vs, rfl, hl3⟩ := len_succ hl2
    obtain ⟨v3, vs, rfl, hl4⟩ := len_succ hl3
    obtain ⟨v4, vs, rfl, hl5⟩ := len_succ hl4
    obtain ⟨v5, vs, rfl, hl6⟩ := len_succ hl5
    obtain ⟨v6, vs, rfl, hl7⟩ := len_succ hl6
    obtain ⟨v7, vs, rfl, hl8⟩ := len_succ hl7
    obtain ⟨v8, vs, rfl, hl9⟩ := len_succ hl8
    obtain ⟨v9, vs, rfl, hl10⟩ := len_succ hl9
    obtain ⟨v10, vs, rfl, hl11⟩ := len_succ hl10
    obtain ⟨v11, vs, rfl, hl12⟩ := len_succ hl11
    obtain ⟨v12, vs, rfl, hl13⟩ := len_succ hl12
    obtain ⟨v13, vs, rfl, hl14⟩ := len_succ hl13
    obtain ⟨v14, vs, rfl, hl15⟩ := len_succ hl14
    obtain ⟨v15, vs, rfl, hl16⟩ := len_succ hl15
    obtain ⟨v16, vs, rfl, hl17⟩ := len_succ hl16
    obtain ⟨v17, vs, rfl, hl18⟩ := len_succ hl17
    obtain ⟨v18, vs, rfl, hl19⟩ := len_succ hl18
    obtain ⟨v19, vs, rfl, hl20⟩ := len_succ hl19
    obtain ⟨v20, vs, rfl, hl21⟩ := len_succ hl20
    obtain ⟨v21, vs, rfl, hl22⟩ := len_succ hl21
    obtain ⟨v22, vs, rfl, hl23⟩ := len_succ hl22
    obtain ⟨v23, vs, rfl, hl24⟩ := len_succ hl23
    obtain rfl := len_zero hl24
    have dd := hd 9 (by simp) _ rfl; simp only [List.getD_cons_zero, List.getD_cons_succ] at dd; obtain rfl := dd
    have dd := hd 15 (by simp) _ rfl; simp only [List.getD_cons_zero, List.getD_cons_succ] at dd; obtain rfl := dd
    clear hd hl hl1 hl2 hl3 hl4 hl5 hl6 hl7 hl8 hl9 hl10 hl11 hl12 hl13 hl14 hl15 hl16 hl17 hl18 hl19 hl20 hl21 hl22 hl23 hl24
    replace hK := hK.out
    simp only [puts, List.set_cons_zero, List.set_cons_succ, Act.put, List.setIfInBounds_toArray] at hK ⊢
    have hK' : Shut _ := hK
    clear hK
    go_simp
    (try go_wp2_with fail)
    exact hK'.out _ _ (Below.refl _ _) (hR) (fun D hD => by cases hD; rfl)
  · refine ⟨[16], by decide, fun vs w hl hR hd K hK => ?_⟩
    obtain ⟨v0, vs, rfl, hl1⟩ := len_succ hl
    obtain ⟨v1, vs, rfl, hl2⟩ := len_succ hl1
    obtain ⟨v2, vs, rfl, hl3⟩ := len_succ hl2
    obtain ⟨v3, vs, rfl, hl4⟩ := len_succ hl3
    obtain ⟨v4, vs, rfl, hl5⟩ := len_succ hl4
    obtain ⟨v5, vs, rfl, hl6⟩ := len_succ hl5
    obtain ⟨v6, vs, rfl, hl7⟩ := len_succ hl6
    obtain ⟨v7, vs, rfl, hl8⟩ := len_succ hl7
    obtain ⟨v8, vs, rfl, hl9⟩ := len_succ hl8
    obtain ⟨v9, vs, rfl, hl10⟩ := len_succ hl9
    obtain ⟨v10, vs, rfl, hl11⟩ := len_succ hl10
    obtain ⟨v11, vs, rfl, hl12⟩ := len_succ hl11
    obtain ⟨v12, vs, rfl, hl13⟩ := len_succ hl12
    obtain ⟨v13, vs, rfl, hl14⟩ := len_succ hl13
    obtain ⟨v14, vs, rfl, hl15⟩ := len_succ hl14
    obtain ⟨v15, vs, rfl, hl16⟩ := len_succ hl15
    obtain ⟨v16, vs, rfl, hl17⟩ := len_succ hl16
    obtain ⟨v17, vs, rfl, hl18⟩ := len_succ hl17
    obtain ⟨v18, vs, rfl, hl19⟩ := len_succ hl18
    obtain ⟨v19, vs, rfl, hl20⟩ := len_succ hl19
    obtain ⟨v20, vs, rfl, hl21⟩ := len_succ hl20
    obtain ⟨v21, vs, rfl, hl22⟩ := len_succ hl21
    obtain ⟨v22, vs, rfl, hl23⟩ := len_succ hl22
    obtain ⟨v23, vs, rfl, hl24⟩ := len_succ hl23
    obtain rfl := len_zero hl24
    have dd := hd 16 (by simp) _ rfl; simp only [List.getD_cons_zero, List.getD_cons_succ] at dd; obtain rfl := dd
    clear hd hl hl1 hl2 hl3 hl4 hl5 hl6 hl7 hl8 hl9 hl10 hl11 hl12 hl13 hl14 hl15 hl16 hl17 hl18 hl19 hl20 hl21 hl22 hl23 hl24
    replace hK := hK.out
    simp only [puts, List.set_cons_zero, List.set_cons_succ, Act.put, List.setIfInBounds_toArray] at hK ⊢
    have hK' : Shut _ := hK
    clear hK
    go_simp
    (try go_wp2_with fail)
    exact hK'.out _ _ (Below.refl _ _) (hR) (fun D hD => by cases hD; rfl)
  · refine ⟨[17], by decide, fun vs w hl hR hd K hK => ?_⟩
    obtain ⟨v0, vs, rfl, hl1⟩ := len_succ hl
    obtain ⟨v1, vs, rfl, hl2⟩ := len_succ hl1
    obtain ⟨v2, vs, rfl, hl3⟩ := len_succ hl2
    obtain ⟨v3, vs, rfl, hl4⟩ := len_succ hl3
    obtain ⟨v4, vs, rfl, hl5⟩ := len_succ hl4
    obtain ⟨v5, vs, rfl, hl6⟩ := len_succ hl5
    obtain ⟨v6, vs, rfl, hl7⟩ := len_succ hl6
    obtain ⟨v7, vs, rfl, hl8⟩ := len_succ hl7
    obtain ⟨v8, vs, rfl, hl9⟩ := len_succ hl8
    obtain ⟨v9, vs, rfl, hl10⟩ := len_succ hl9
    obtain ⟨v10, vs, rfl, hl11⟩ := len_succ hl10
    obtain ⟨v11, vs, rfl, hl12⟩ := len_succ hl11
    obtain ⟨v12, vs, rfl, hl13⟩ := len_succ hl12
    obtain ⟨v13, vs, rfl, hl14⟩ := len_succ hl13
    obtain ⟨v14, vs, rfl, hl15⟩ := len_succ hl14
    obtain ⟨v15, vs, rfl, hl16⟩ := len_succ hl15
    obtain ⟨v16, vs, rfl, hl17⟩ := len_succ hl16
    obtain ⟨v17, vs, rfl, hl18⟩ := len_succ hl17
    obtain ⟨v18, vs, rfl, hl19⟩ := len_succ hl18
    obtain ⟨v19, vs, rfl, hl20⟩ := len_succ hl19
    obtain ⟨v20, vs, rfl, hl21⟩ := len_succ hl20
    obtain ⟨v21, vs, rfl, hl22⟩ := len_succ hl21
    obtain ⟨v22, vs, rfl, hl23⟩ := len_succ hl22
    obtain ⟨v23, vs, rfl, hl24⟩ := len_succ hl23
    obtain rfl := len_zero hl24
    have dd := hd 17 (by simp) _ rfl; simp only [List.getD_cons_zero, List.getD_cons_succ] at dd; obtain rfl := dd
    clear hd hl hl1 hl2 hl3 hl4 hl5 hl6 hl7 hl8 hl9 hl10 hl11 hl12 hl13 hl14 hl15 hl16 hl17 hl18 hl19 hl20 hl21 hl22 hl23 hl24
    replace hK := hK.out
    simp only [puts, List.set_cons_zero, List.set_cons_succ, Act.put, List.setIfInBounds_toArray] at hK ⊢
    have hK' : Shut _ := hK
    clear hK
    have qq := hA6.below hR; have q0 := qq.at.1; have q1 := qq.at.2.1; clear qq
    go_simp
    (try go_wp2_with fail)
    exact hK'.out _ _ (Below.refl _ _) (hR) (fun D hD => by cases hD; rfl)
  · refine ⟨[18, 17], by decide, fun vs w hl hR hd K hK => ?_⟩
    obtain ⟨v0, vs, rfl, hl1⟩ := len_succ hl
    obtain ⟨v1, vs, rfl, hl2⟩ := len_succ hl1
    obtain ⟨v2, vs, rfl, hl3⟩ := len_succ hl2
    obtain ⟨v3, vs, rfl, hl4⟩ := len_succ hl3
    obtain ⟨v4, vs, rfl, hl5⟩ := len_succ hl4
    obtain ⟨v5, vs, rfl, hl6⟩ := len_succ hl5
    obtain ⟨v6, vs, rfl, hl7⟩ := len_succ hl6
    obtain ⟨v7, vs, rfl, hl8⟩ := len_succ hl7
    obtain ⟨v8, vs, rfl, hl9⟩ := len_succ hl8
    obtain ⟨v9, vs, rfl, hl10⟩ := len_succ hl9
    obtain ⟨v10, vs, rfl, hl11⟩ := len_succ hl10
    obtain ⟨v11, vs, rfl, hl12⟩ := len_succ hl11
    obtain ⟨v12, vs, rfl, hl13⟩ := len_succ hl12
    obtain ⟨v13, vs, rfl, hl14⟩ := len_succ hl13
    obtain ⟨v14, vs, rfl, hl15⟩ := len_succ hl14
    obtain ⟨v15, vs, rfl, hl16⟩ := len_succ hl15
    obtain ⟨v16, vs, rfl, hl17⟩ := len_succ hl16
    obtain ⟨v17, vs, rfl, hl18⟩ := len_succ hl17
    obtain ⟨v18, vs, rfl, hl19⟩ := len_succ hl18
    obtain ⟨v19, vs, rfl, hl20⟩ := len_succ hl19
    obtain ⟨v20, vs, rfl, hl21⟩ := len_succ hl20
    obtain ⟨v21, vs, rfl, hl22⟩ := len_succ hl21
    obtain ⟨v22, vs, rfl, hl23⟩ := len_succ hl22
    obtain ⟨v23, vs, rfl, hl24⟩ := len_succ hl23
    obtain rfl := len_zero hl24
    have dd := hd 18 (by simp) _ rfl; simp only [List.getD_cons_zero, List.getD_cons_succ] at dd; obtain rfl := dd
    have dd := hd 17 (by simp) _ rfl; simp only [List.getD_cons_zero, List.getD_cons_succ] at dd; obtain rfl := dd
    clear hd hl hl1 hl2 hl3 hl4 hl5 hl6 hl7 hl8 hl9 hl10 hl11 hl12 hl13 hl14 hl15 hl16 hl17 hl18 hl19 hl20 hl21 hl22 hl23 hl24
    replace hK := hK.out
    simp only [puts, List.set_cons_zero, List.set_cons_succ, Act.put, List.setIfInBounds_toArray] at hK ⊢
    have hK' : Shut _ := hK
    clear hK
    go_simp
    go_at_call 32; (with_reducible refine (textC_t _ _ _ _ _ _ X tt _ (hc.below hR) HTX (HW.out.below (step_call hB hR))).mono ?_); rintro e w2 ⟨rfl, hb⟩
    (try go_wp2_with fail)
    exact hK'.out _ _ (hb) (step_call hR (hb)) (fun D hD => by cases hD; rfl)
  · refine ⟨[17], by decide, fun vs w hl hR hd K hK => ?_⟩
    obtain ⟨v0, vs, rfl, hl1⟩ := len_succ hl
    obtain ⟨v1, vs, rfl, hl2⟩ := len_succ hl1
    obtain ⟨v2, vs, rfl, hl3⟩ := len_succ hl2
    obtain ⟨v3, vs, rfl, hl4⟩ := len_succ hl3
    obtain ⟨v4, vs, rfl, hl5⟩ := len_succ hl4
    obtain ⟨v5, vs, rfl, hl6⟩ := len_succ hl5
    obtain ⟨v6, vs, rfl, hl7⟩ := len_succ hl6
    obtain ⟨v7, vs, rfl, hl8⟩ := len_succ hl7
    obtain ⟨v8, vs, rfl, hl9⟩ := len_succ hl8
    obtain ⟨v9, vs, rfl, hl10⟩ := len_succ hl9
    obtain ⟨v10, vs, rfl, hl11⟩ := len_succ hl10
    obtain ⟨v11, vs, rfl, hl12⟩ := len_succ hl11
    obtain ⟨v12, vs, rfl, hl13⟩ := len_succ hl12
    obtain ⟨v13, vs, rfl, hl14⟩ := len_succ hl13
    obtain ⟨v14, vs, rfl, hl15⟩ := len_succ hl14
    obtain ⟨v15, vs, rfl, hl16⟩ := len_succ hl15
    obtain ⟨v16, vs, rfl, hl17⟩ := len_succ hl16
    obtain ⟨v17, vs, rfl, hl18⟩ := len_succ hl17
    obtain ⟨v18, vs, rfl, hl19⟩ := len_succ hl18
    obtain ⟨v19, vs, rfl, hl20⟩ := len_succ hl19
    obtain ⟨v20, vs, rfl, hl21⟩ := len_succ hl20
    obtain ⟨v21, vs, rfl, hl22⟩ := len_succ hl21
    obtain ⟨v22, vs, rfl, hl23⟩ := len_succ hl22
    obtain ⟨v23, vs, rfl, hl24⟩ := len_succ hl23
    obtain rfl := len_zero hl24
    have dd := hd 17 (by simp) _ rfl; simp only [List.getD_cons_zero, List.getD_cons_succ] at dd; obtain rfl := dd
    clear hd hl hl1 hl2 hl3 hl4 hl5 hl6 hl7 hl8 hl9 hl10 hl11 hl12 hl13 hl14 hl15 hl16 hl17 hl18 hl19 hl20 hl21 hl22 hl23 hl24
    replace hK := hK.out
    simp only [puts, List.set_cons_zero, List.set_cons_succ, Act.put, List.setIfInBounds_toArray] at hK ⊢
    have hK' : Shut _ := hK
    clear hK
    have qq := hA5.below hR; have q0 := qq.at.1; have q1 := qq.at.2.1; clear qq
    go_simp
    (try go_wp2_with fail)
    exact hK'.out _ _ (Below.refl _ _) (hR) (fun D hD => by cases hD; rfl)
  · refine ⟨[20, 17], by decide, fun vs w hl hR hd K hK => ?_⟩
    obtain ⟨v0, vs, rfl, hl1⟩ := len_succ hl
    obtain ⟨v1, vs, rfl, hl2⟩ := len_succ hl1
    obtain ⟨v2, vs, rfl, hl3⟩ := len_succ hl2
    obtain ⟨v3, vs, rfl, hl4⟩ := len_succ hl3
    obtain ⟨v4, vs, rfl, hl5⟩ := len_succ hl4
    obtain ⟨v5, vs, rfl, hl6⟩ := len_succ hl5
    obtain ⟨v6, vs, rfl, hl7⟩ := len_succ hl6
    obtain ⟨v7, vs, rfl, hl8⟩ := len_succ hl7
    obtain ⟨v8, vs, rfl, hl9⟩ := len_succ hl8
    obtain ⟨v9, vs, rfl, hl10⟩ := len_succ hl9
    obtain ⟨v10, vs, rfl, hl11⟩ := len_succ hl10
    obtain ⟨v11, vs, rfl, hl12⟩ := len_succ hl11
    obtain ⟨v12, vs, rfl, hl13⟩ := len_succ hl12
    obtain ⟨v13, vs, rfl, hl14⟩ := len_succ hl13
    obtain ⟨v14, vs, rfl, hl15⟩ := len_succ hl14
    obtain ⟨v15, vs, rfl, hl16⟩ := len_succ hl15
    obtain ⟨v16, vs, rfl, hl17⟩ := len_succ hl16
    obtain ⟨v17, vs, rfl, hl18⟩ := len_succ hl17
    obtain ⟨v18, vs, rfl, hl19⟩ := len_succ hl18
    obtain ⟨v19, vs, rfl, hl20⟩ := len_succ hl19
    obtain ⟨v20, vs, rfl, hl21⟩ := len_succ hl20
    obtain ⟨v21, vs, rfl, hl22⟩ := len_succ hl21
    obtain ⟨v22, vs, rfl, hl23⟩ := len_succ hl22
    obtain ⟨v23, vs, rfl, hl24⟩ := len_succ hl23
    obtain rfl := len_zero hl24
    have dd := hd 20 (by simp) _ rfl; simp only [List.getD_cons_zero, List.getD_cons_succ] at dd; obtain rfl := dd
    have dd := hd 17 (by simp) _ rfl; simp only [List.getD_cons_zero, List.getD_cons_succ] at dd; obtain rfl := dd
    clear hd hl hl1 hl2 hl3 hl4 hl5 hl6 hl7 hl8 hl9 hl10 hl11 hl12 hl13 hl14 hl15 hl16 hl17 hl18 hl19 hl20 hl21 hl22 hl23 hl24
    replace hK := hK.out
    simp only [puts, List.set_cons_zero, List.set_cons_succ, Act.put, List.setIfInBounds_toArray] at hK ⊢
    have hK' : Shut _ := hK
    clear hK
    go_simp
    go_at_call 57; (with_reducible refine (reftext_c _ _ tt _ HC.out HTT).mono ?_); rintro e w2 ⟨rfl, hb⟩
    (try go_wp2_with fail)
    exact hK'.out _ _ (hb) (step_call hR (hb)) (fun D hD => by cases hD; rfl)
  · refine ⟨[19, 21, 17], by decide, fun vs w hl hR hd K hK => ?_⟩
    obtain ⟨v0, vs, rfl, hl1⟩ := len_succ hl
    obtain ⟨v1, vs, rfl, hl2⟩ := len_succ hl1
    obtain ⟨v2, vs, rfl, hl3⟩ := len_succ hl2
    obtain ⟨v3, vs, rfl, hl4⟩ := len_succ hl3
    obtain ⟨v4, vs, rfl, hl5⟩ := len_succ hl4
    obtain ⟨v5, vs, rfl, hl6⟩ := len_succ hl5
    obtain ⟨v6, vs, rfl, hl7⟩ := len_succ hl6
    obtain ⟨v7, vs, rfl, hl8⟩ := len_succ hl7
    obtain ⟨v8, vs, rfl, hl9⟩ := len_succ hl8
    obtain ⟨v9, vs, rfl, hl10⟩ := len_succ hl9
    obtain ⟨v10, vs, rfl, hl11⟩ := len_succ hl10
    obtain ⟨v11, vs, rfl, hl12⟩ := len_succ hl11
    obtain ⟨v12, vs, rfl, hl13⟩ := len_succ hl12
    obtain ⟨v13, vs, rfl, hl14⟩ := len_succ hl13
    obtain ⟨v14, vs, rfl, hl15⟩ := len_succ hl14
    obtain ⟨v15, vs, rfl, hl16⟩ := len_succ hl15
    obtain ⟨v16, vs, rfl, hl17⟩ := len_succ hl16
    obtain ⟨v17, vs, rfl, hl18⟩ := len_succ hl17
    obtain ⟨v18, vs, rfl, hl19⟩ := len_succ hl18
    obtain ⟨v19, vs, rfl, hl20⟩ := len_succ hl19
    obtain ⟨v20, vs, rfl, hl21⟩ := len_succ hl20
    obtain ⟨v21, vs, rfl, hl22⟩ := len_succ hl21
    obtain ⟨v22, vs, rfl, hl23⟩ := len_succ hl22
    obtain ⟨v23, vs, rfl, hl24⟩ := len_succ hl23
    obtain rfl := len_zero hl24
    have dd := hd 19 (by simp) _ rfl; simp only [List.getD_cons_zero, List.getD_cons_succ] at dd; obtain rfl := dd
    have dd := hd 21 (by simp) _ rfl; simp only [List.getD_cons_zero, List.getD_cons_succ] at dd; obtain rfl := dd
    have dd := hd 17 (by simp) _ rfl; simp only [List.getD_cons_zero, List.getD_cons_succ] at dd; obtain rfl := dd
    clear hd hl hl1 hl2 hl3 hl4 hl5 hl6 hl7 hl8 hl9 hl10 hl11 hl12 hl13 hl14 hl15 hl16 hl17 hl18 hl19 hl20 hl21 hl22 hl23 hl24
    replace hK := hK.out
    simp only [puts, List.set_cons_zero, List.set_cons_succ, Act.put, List.setIfInBounds_toArray] at hK ⊢
    have hK' : Shut _ := hK
    clear hK
    go_simp
    (try go_wp2_with fail)
    exact hK'.out _ _ (Below.refl _ _) (hR) (fun D hD => by cases hD; rfl)
  · refine ⟨[17, 22], by decide, fun vs w hl hR hd K hK => ?_⟩
    obtain ⟨v0, vs, rfl, hl1⟩ := len_succ hl
    obtain ⟨v1, vs, rfl, hl2⟩ := len_succ hl1
    obtain ⟨v2, vs, rfl, hl3⟩ := len_succ hl2
    obtain ⟨v3, vs, rfl, hl4⟩ := len_succ hl3
    obtain ⟨v4, vs, rfl, hl5⟩ := len_succ hl4
    obtain ⟨v5, vs, rfl, hl6⟩ := len_succ hl5
    obtain ⟨v6, vs, rfl, hl7⟩ := len_succ hl6
    obtain ⟨v7, vs, rfl, hl8⟩ := len_succ hl7
    obtain ⟨v8, vs, rfl, hl9⟩ := len_succ hl8
    obtain ⟨v9, vs, rfl, hl10⟩ := len_succ hl9
    obtain ⟨v10, vs, rfl, hl11⟩ := len_succ hl10
    obtain ⟨v11, vs, rfl, hl12⟩ := len_succ hl11
    obtain ⟨v12, vs, rfl, hl13⟩ := len_succ hl12
    obtain ⟨v13, vs, rfl, hl14⟩ := len_succ hl13
    obtain ⟨v14, vs, rfl, hl15⟩ := len_succ hl14
    obtain ⟨v15, vs, rfl, hl16⟩ := len_succ hl15
    obtain ⟨v16, vs, rfl, hl17⟩ := len_succ hl16
    obtain ⟨v17, vs, rfl, hl18⟩ := len_succ hl17
    obtain ⟨v18, vs, rfl, hl19⟩ := len_succ hl18
    obtain ⟨v19, vs, rfl, hl20⟩ := len_succ hl19
    obtain ⟨v20, vs, rfl, hl21⟩ := len_succ hl20
    obtain ⟨v21, vs, rfl, hl22⟩ := len_succ hl21
    obtain ⟨v22, vs, rfl, hl23⟩ := len_succ hl22
    obtain ⟨v23, vs, rfl, hl24⟩ := len_succ hl23
    obtain rfl := len_zero hl24
    have dd := hd 17 (by simp) _ rfl; simp only [List.getD_cons_zero, List.getD_cons_succ] at dd; obtain rfl := dd
    have dd := hd 22 (by simp) _ rfl; simp only [List.getD_cons_zero, List.getD_cons_succ] at dd; obtain rfl := dd
    clear hd hl hl1 hl2 hl3 hl4 hl5 hl6 hl7 hl8 hl9 hl10 hl11 hl12 hl13 hl14 hl15 hl16 hl17 hl18 hl19 hl20 hl21 hl22 hl23 hl24
    replace hK := hK.out
    simp only [puts, List.set_cons_zero, List.set_cons_succ, Act.put, List.setIfInBounds_toArray] at hK ⊢
    have hK' : Shut _ := hK
    clear hK
    go_simp
    (try go_wp2_with fail)
    exact hK'.out _ _ (Below.refl _ _) (hR) (fun D hD => by cases hD; rfl)
  · intro vs w4 hl hR hd
    obtain ⟨v0, vs, rfl, hl1⟩ := len_succ hl
    obtain ⟨v1, vs, rfl, hl2⟩ := len_succ hl1
    obtain ⟨v2, vs, rfl, hl3⟩ := len_succ hl2
    obtain ⟨v3, vs, rfl, hl4⟩ := len_succ hl3
    obtain ⟨v4, vs, rfl, hl5⟩ := len_succ hl4
    obtain ⟨v5, vs, rfl, hl6⟩ := len_succ hl5
    obtain ⟨v6, vs, rfl, hl7⟩ := len_succ hl6
    obtain ⟨v7, vs, rfl, hl8⟩ := len_succ hl7
    obtain ⟨v8, vs, rfl, hl9⟩ := len_succ hl8
    obtain ⟨v9, vs, rfl, hl10⟩ := len_succ hl9
    obtain ⟨v10, vs, rfl, hl11⟩ := len_succ hl10
    obtain ⟨v11, vs, rfl, hl12⟩ := len_succ hl11
    obtain ⟨v12, vs, rfl, hl13⟩ := len_succ hl12
    obtain ⟨v13, vs, rfl, hl14⟩ := len_succ hl13
    obtain ⟨v14, vs, rfl, hl15⟩ := len_succ hl14
    obtain ⟨v15, vs, rfl, hl16⟩ := len_succ hl15
    obtain ⟨v16, vs, rfl, hl17⟩ := len_succ hl16
    obtain ⟨v17, vs, rfl, hl18⟩ := len_succ hl17
    obtain ⟨v18, vs, rfl, hl19⟩ := len_succ hl18
    obtain ⟨v19, vs, rfl, hl20⟩ := len_succ hl19
    obtain ⟨v20, vs, rfl, hl21⟩ := len_succ hl20
    obtain ⟨v21, vs, rfl, hl22⟩ := len_succ hl21
    obtain ⟨v22, vs, rfl, hl23⟩ := len_succ hl22
    obtain ⟨v23, vs, rfl, hl24⟩ := len_succ hl23
    obtain rfl := len_zero hl24
    have dd := hd 23 _ rfl; simp only [List.getD_cons_zero, List.getD_cons_succ] at dd; obtain rfl := dd
    clear hd hl hl1 hl2 hl3 hl4 hl5 hl6 hl7 hl8 hl9 hl10 hl11 hl12 hl13 hl14 hl15 hl16 hl17 hl18 hl19 hl20 hl21 hl22 hl23 hl24
    simp only [puts, List.set_cons_zero, List.set_cons_succ, Act.put, List.setIfInBounds_toArray]
    replace hB := step_call hB hR
    clear hA5 hA6 hc hR
    rcases hsh with ⟨rfl, rfl, rfl⟩ | ⟨x1, o1, rfl⟩
    · obtain rfl : k = 0 := by omega
      have HNZ : Hid (Nz none 0 0) := fun _ => ⟨rfl, rfl⟩
      have HP3 := HP2
      have hm0 : min (0 : Int) 100 = 0 := by decide
      by_cases hy : ∃ p r q, Front us p r ∧ Front r q []
      · obtain ⟨P2, R2, Q2, hf1, hf2⟩ := hy
        have hus := front_back hf1 hf2
        have hR2 : R2 = Q2.length :: Q2 := by rw [hf2.2.2]; simp
        subst hR2
        have HG1 := Lib.hid hf1
        have HG2 := Lib.hid hf2
        have HP28 := Lib.hid hf1.1
        have HQ28 := Lib.hid hf2.1
        have hlt := HP2.out.2.2.2.1
        obtain ⟨Y, eY⟩ : ∃ Y, (readL P2, readL Q2) = Y := ⟨_, rfl⟩
        have HYY := Lib.hid eY
        have HYP : Hid (BytesOf P2 Y.1) := by rw [← eY]; exact bytes_rdL hf1.2.1 (fun x hx => hlt x (by rw [hus]; simp [bytesC, hx]))
        have HYQ : Hid (BytesOf Q2 Y.2) := by rw [← eY]; exact bytes_rdL hf2.2.1 (fun x hx => hlt x (by rw [hus]; simp [bytesC, hx]))
        have HUS : Hid (bytesC P2 Q2 = us) := hus.symm
        clear hf1 hf2 hus hlt eY
        go_wp2_with (first
          | (go_at_call 53; (with_reducible refine (cread_y _ _ _ us P2 (Q2.length :: Q2) Q2 Y _ (HP2.out.below hB) HNZ.out HK100.out HG1.out HG2.out HYY).mono ?_); rintro e w5 ⟨a5, n5, c5, b5, m5, d5, rfl, hc5, hb⟩; have hB := step_call hB hb; clear hb; have hbx := (Below.refl w5.heap.size w5).alloc (Nat.le_refl _) (.cells #[.slice a5 n5 c5, .slice b5 m5 d5] 34); have hA8 := At2T.new w5 (.slice a5 n5 c5) (.slice b5 m5 d5) 34; have hB := step_call hB hbx; have q0 := hA8.at.1; have q1 := hA8.at.2.1; replace hc5 := hc5.below hbx; clear hbx)
          | (go_at_call 56; (with_reducible refine (cbytes_n _ _ _ _ _ _ Y P2 Q2 us _ hc5 HYP.out HYQ.out HP28.out HQ28.out HUS).mono ?_); rintro e w6 ⟨t6, rfl, ht6, _, hb⟩; have hB := step_call hB hb; clear hb hc5 q0 q1 hA8)
          | (go_at_call 55; (with_reducible refine (equalB_yes _ _ _ _ _ _ us _ ht6 (HP3.out.below hB)).mono ?_); rintro e w7 ⟨rfl, hb⟩; have hB := step_call hB hb; clear hb ht6))
        go_ret
        exact ⟨rfl, hB⟩
      · have HNO : Hid (∀ p r q, Front us p r → ¬ Front r q []) := fun p r q h1 h2 => hy ⟨p, r, q, h1, h2⟩
        clear hy
        go_wp2_with (first
          | (go_at_call 53; (with_reducible refine (cread_no _ _ _ us _ (HP2.out.below hB) HNZ.out HK100.out HNO.out).mono ?_); rintro e w5 ⟨rfl, hb⟩; have hB := step_call hB hb; clear hb; have hbx := (Below.refl w5.heap.size w5).alloc (Nat.le_refl _) (.cells #[.slice none 0 0, .slice none 0 0] 34); have hA8 := At2T.new w5 (.slice none 0 0) (.slice none 0 0) 34; have hB := step_call hB hbx; have q0 := hA8.at.1; have q1 := hA8.at.2.1; clear hbx)
          | (go_at_call 29; (with_reducible refine (equalC_yes _ _ _ _ _ _ _ _ _ _ _ _ ([], []) _ (nil_cube _) (nil_cube _)).mono ?_); rintro e w6 ⟨rfl, hb⟩; have hB := step_call hB hb; clear hb q0 q1 hA8))
        go_ret
        exact ⟨rfl, hB⟩
    · have HNZ : Hid (Nz (some ⟨x1, o1, none⟩) k c0) := fun e => by cases e
      have HP3 := HP2
      have HKK2 := HKK.out
      by_cases hy : ∃ p r q, Front us p r ∧ Front r q []
      · obtain ⟨P2, R2, Q2, hf1, hf2⟩ := hy
        have hus := front_back hf1 hf2
        have hR2 : R2 = Q2.length :: Q2 := by rw [hf2.2.2]; simp
        subst hR2
        have HG1 := Lib.hid hf1
        have HG2 := Lib.hid hf2
        have HP28 := Lib.hid hf1.1
        have HQ28 := Lib.hid hf2.1
        have hlt := HP2.out.2.2.2.1
        obtain ⟨Y, eY⟩ : ∃ Y, (readL P2, readL Q2) = Y := ⟨_, rfl⟩
        have HYY := Lib.hid eY
        have HYP : Hid (BytesOf P2 Y.1) := by rw [← eY]; exact bytes_rdL hf1.2.1 (fun x hx => hlt x (by rw [hus]; simp [bytesC, hx]))
        have HYQ : Hid (BytesOf Q2 Y.2) := by rw [← eY]; exact bytes_rdL hf2.2.1 (fun x hx => hlt x (by rw [hus]; simp [bytesC, hx]))
        have HUS : Hid (bytesC P2 Q2 = us) := hus.symm
        clear hf1 hf2 hus hlt eY
        go_wp2_with (first
          | (go_at_call 53; (with_reducible refine (cread_y _ _ _ us P2 (Q2.length :: Q2) Q2 Y _ (HP2.out.below hB) HNZ.out HK100.out HG1.out HG2.out HYY).mono ?_); rintro e w5 ⟨a5, n5, c5, b5, m5, d5, rfl, hc5, hb⟩; have hB := step_call hB hb; clear hb; have hbx := (Below.refl w5.heap.size w5).alloc (Nat.le_refl _) (.cells #[.slice a5 n5 c5, .slice b5 m5 d5] 34); have hA8 := At2T.new w5 (.slice a5 n5 c5) (.slice b5 m5 d5) 34; have hB := step_call hB hbx; have q0 := hA8.at.1; have q1 := hA8.at.2.1; replace hc5 := hc5.below hbx; clear hbx)
          | (go_at_call 56; (with_reducible refine (cbytes_n _ _ _ _ _ _ Y P2 Q2 us _ hc5 HYP.out HYQ.out HP28.out HQ28.out HUS).mono ?_); rintro e w6 ⟨t6, rfl, ht6, _, hb⟩; have hB := step_call hB hb; clear hb hc5 q0 q1 hA8)
          | (go_at_call 55; (with_reducible refine (equalB_yes _ _ _ _ _ _ us _ ht6 (HP3.out.below hB)).mono ?_); rintro e w7 ⟨rfl, hb⟩; have hB := step_call hB hb; clear hb ht6))
        go_ret
        exact ⟨rfl, hB⟩
      · have HNO : Hid (∀ p r q, Front us p r → ¬ Front r q []) := fun p r q h1 h2 => hy ⟨p, r, q, h1, h2⟩
        clear hy
        go_wp2_with (first
          | (go_at_call 53; (with_reducible refine (cread_no _ _ _ us _ (HP2.out.below hB) HNZ.out HK100.out HNO.out).mono ?_); rintro e w5 ⟨rfl, hb⟩; have hB := step_call hB hb; clear hb; have hbx := (Below.refl w5.heap.size w5).alloc (Nat.le_refl _) (.cells #[.slice none 0 0, .slice none 0 0] 34); have hA8 := At2T.new w5 (.slice none 0 0) (.slice none 0 0) 34; have hB := step_call hB hbx; have q0 := hA8.at.1; have q1 := hA8.at.2.1; clear hbx)
          | (go_at_call 29; (with_reducible refine (equalC_yes _ _ _ _ _ _ _ _ _ _ _ _ ([], []) _ (nil_cube _) (nil_cube _)).mono ?_); rintro e w6 ⟨rfl, hb⟩; have hB := step_call hB hb; clear hb q0 q1 hA8))
        go_ret
        exact ⟨rfl, hB⟩
end Go.Proofs.YtadomogbakcokaaGreatDoor
