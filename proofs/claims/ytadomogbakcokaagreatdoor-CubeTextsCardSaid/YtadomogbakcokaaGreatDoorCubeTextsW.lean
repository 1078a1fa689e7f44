/- The walk of CubeTexts. -/
import Derived.Test.YtadomogbakcokaaGreatDoorCvT
namespace Go.Proofs.YtadomogbakcokaaGreatDoor
open Go.RowKit Go.PlainAid
set_option linter.unusedVariables false
set_option linter.unusedSimpArgs false
set_option maxHeartbeats 4000000
set_option maxRecDepth 20000

theorem cubeTexts_walk (a b : Option Addr) (n cap m dap : Nat) (zs ys : List Int) (s : ByteArray) (w : World) (hW : Wld w) (h : Iw w a n cap zs) (h2 : Iw w b m dap ys) (hs : s.size ≤ 9223372036854775807) :
    Calls Tryz.prog 5 #[.slice a n cap, .slice b m dap, .string s] w fun e w' => e = .returned (.bool true) ∧ Below w.heap.size w w' := by
  obtain ⟨u, hu⟩ : ∃ u : Nat, min (s.size : Int) 100 = u := ⟨min s.size 100, by omega⟩
  have hus : u ≤ s.size := by omega
  have HSZ : Hid ((s.extract 0 u).size ≤ 100000) := by show _ ≤ _; rw [ByteArray.size_extract]; omega
  obtain ⟨k, hk⟩ : ∃ k : Nat, min n 20 = k := ⟨_, rfl⟩
  obtain ⟨j, hj⟩ : ∃ j : Nat, min m 20 = j := ⟨_, rfl⟩
  have hi := h.take 20
  rw [hk] at hi
  have hi2 := h2.take 20
  rw [hj] at hi2
  have HK : Hid (min (n : Int) 20 = (k : Nat)) := by show _ = _; omega
  have HJ : Hid (min (m : Int) 20 = (j : Nat)) := by show _ = _; omega
  have HKN : Hid (k ≤ 20) := by show _ ≤ _; omega
  have HJN : Hid (j ≤ 20) := by show _ ≤ _; omega
  obtain ⟨A, eA⟩ : ∃ A, ofL (zs.take 20) = A := ⟨_, rfl⟩
  obtain ⟨B, eB⟩ : ∃ B, ofL (ys.take 20) = B := ⟨_, rfl⟩
  have hAB : CuOk (A, B) := ⟨by rw [← eA]; exact asc_ofL _, by rw [← eB]; exact asc_ofL _⟩
  have EA := Lib.hid eA
  have EB := Lib.hid eB
  obtain ⟨tt, et⟩ : ∃ tt : ByteArray, tt = ⟨(textC (A, B)).toArray⟩ := ⟨_, rfl⟩
  have ET := Lib.hid et
  obtain ⟨p1, p2, p3⟩ := parse_of_text hAB et
  have HTP := Lib.hid p1
  have HTT := Lib.hid p2
  have HTS := Lib.hid p3
  have hkc : k ≤ cap := by have := h.2.1; omega
  have hjc : j ≤ dap := by have := h2.2.1; omega
  have hkn : k ≤ n := by omega
  have hjn : j ≤ m := by omega
  have hsh := h.shape
  have hsh2 := h2.shape
  have HW := Lib.hid hW
  have HI := Lib.hid hi
  have HI2 := Lib.hid hi2
  clear hW h h2 hi hi2 eA eB hAB et p1 p2 p3 hk hj
  have tk0 : Hid True := trivial
  have key : ∀ w0, Below w.heap.size w w0 → True := fun _ _ => trivial
  clear key
  rcases hsh with ⟨rfl, rfl, rfl⟩ | ⟨x1, o1, rfl⟩ <;> rcases hsh2 with ⟨rfl, rfl, rfl⟩ | ⟨x2, o2, rfl⟩
  · obtain rfl : k = 0 := by omega
    obtain rfl : j = 0 := by omega
    go_enter Tryz.func5, Tryz.ntmps5
    go_upto_region 3 with (go_at_call 15; (with_reducible refine (awake_any _ HW.out).mono ?_); rintro e w0 ⟨rfl, hb⟩; have HB0 := Lib.hid hb; clear hb)
    refine Bp.region_boxes 34 (.slice none 0 0) _ [⟨13, 14, CvP (A, B)⟩] [some 14, some 15, some 16, some 17, some 18, some 19, some 20, some 21, some 22, some 23, some 24, some 25, some 26, some 7, none]
      [fun v w => v = .slice none 0 0,
       fun v w => v = .slice none 0 0,
       fun v w => v = .int .i64 0,
       fun v w => v = .int .i64 0,
       fun v w => v = .slice none 0 0,
       fun v w => StV w v A,
       fun v w => v = .slice none 0 0,
       fun v w => v = .slice none 0 0,
       fun v w => v = .int .i64 0,
       fun v w => v = .int .i64 0,
       fun v w => v = .slice none 0 0,
       fun v w => StV w v B,
       fun v w => CvV w v (A, B),
       fun _ _ => True,
       fun _ _ => True] (by kernel_rfl) (by kernel_rfl) rfl [undef, undef, undef, undef, undef, undef, undef, undef, undef, undef, undef, undef, undef, undef, undef] (by simp only [Bp.putsO, List.set_cons_zero, List.set_cons_succ, Act.put, List.setIfInBounds_toArray]) rfl rfl (by simp) ?_ ?_ ?_ ⟨?_, ?_, ?_, ?_, ?_, ?_, ?_, ?_, ?_, ?_, ?_, ?_, ?_, ?_, ?_, trivial⟩ ?_
    · intro j D hj v w w' hb hD
      match j, hj with
      | 0, hj => cases hj; exact hD
      | 1, hj => cases hj; exact hD
      | 2, hj => cases hj; exact hD
      | 3, hj => cases hj; exact hD
      | 4, hj => cases hj; exact hD
      | 5, hj => cases hj; exact hD.below hb
      | 6, hj => cases hj; exact hD
      | 7, hj => cases hj; exact hD
      | 8, hj => cases hj; exact hD
      | 9, hj => cases hj; exact hD
      | 10, hj => cases hj; exact hD
      | 11, hj => cases hj; exact hD.below hb
      | 12, hj => cases hj; exact hD.below hb
      | 13, hj => cases hj; exact hD
      | 14, hj => cases hj; exact hD
      | j + 15, hj => cases hj
    · intro j D hj v w g k u hc hD
      match j, hj with
      | 0, hj => cases hj; exact hD
      | 1, hj => cases hj; exact hD
      | 2, hj => cases hj; exact hD
      | 3, hj => cases hj; exact hD
      | 4, hj => cases hj; exact hD
      | 5, hj => cases hj; exact hD.set hc
      | 6, hj => cases hj; exact hD
      | 7, hj => cases hj; exact hD
      | 8, hj => cases hj; exact hD
      | 9, hj => cases hj; exact hD
      | 10, hj => cases hj; exact hD
      | 11, hj => cases hj; exact hD.set hc
      | 12, hj => cases hj; exact hD.set hc
      | 13, hj => cases hj; exact hD
      | 14, hj => cases hj; exact hD
      | j + 15, hj => cases hj
    · intro b hbm; simp only [List.mem_cons, List.not_mem_nil, or_false] at hbm
      obtain rfl := hbm
      · exact ⟨fun x y w w' hb h => by exact h.below hb, fun x y w g k u hc h => by exact h.set hc⟩
    · refine ⟨.plain, [], by decide, by simp, fun vs w hl hR hd K hK => ?_⟩
      obtain ⟨v0, vs, rfl, hl1⟩ := len_succ hl
      obtain ⟨v1, vs, rfl, hl2⟩ := len_succ hl1
      obtain ⟨v2, vs, rfl, hl3⟩ := len_succ hl2
      obtain ⟨v3, vs, rfl, hl4⟩ := len_succ hl3
      obtain ⟨v4, vs, rfl, hl5⟩ := len_succ hl4
      obtain ⟨v5, vs, rfl, hl6⟩ := len_succ hl5
      obtain ⟨v6, vs, rfl, hl7⟩ := len_succ hl6
      obtain ⟨v7, vs, rfl, hl8⟩ := len_succ hl7
      obtain ⟨v8, vs, rfl, hl9⟩ := len_succ hl8
      obtain ⟨v9, vs, rfl, hl10⟩ := len_succ hl9
      obtain ⟨v10, vs, rfl, hl11⟩ := len_succ hl10
      obtain ⟨v11, vs, rfl, hl12⟩ := len_succ hl11
      obtain ⟨v12, vs, rfl, hl13⟩ := len_succ hl12
      obtain ⟨v13, vs, rfl, hl14⟩ := len_succ hl13
      obtain ⟨v14, vs, rfl, hl15⟩ := len_succ hl14
      obtain rfl := len_zero hl15
      clear hd hl hl1 hl2 hl3 hl4 hl5 hl6 hl7 hl8 hl9 hl10 hl11 hl12 hl13 hl14 hl15
      replace hK := hK.out
      simp only [Bp.putsO, List.set_cons_zero, List.set_cons_succ, Act.put, List.setIfInBounds_toArray] at hK ⊢
      have hK' : Shut _ := hK
      clear hK
      go_simp
      (try go_wp2_with fail)
      exact hK'.out _ _ (Below.refl _ _) (fun D hD => by cases hD; rfl)
    · refine ⟨.plain, [], by decide, by simp, fun vs w hl hR hd K hK => ?_⟩
      obtain ⟨v0, vs, rfl, hl1⟩ := len_succ hl
      obtain ⟨v1, vs, rfl, hl2⟩ := len_succ hl1
      obtain ⟨v2, vs, rfl, hl3⟩ := len_succ hl2
      obtain ⟨v3, vs, rfl, hl4⟩ := len_succ hl3
      obtain ⟨v4, vs, rfl, hl5⟩ := len_succ hl4
      obtain ⟨v5, vs, rfl, hl6⟩ := len_succ hl5
      obtain ⟨v6, vs, rfl, hl7⟩ := len_succ hl6
      obtain ⟨v7, vs, rfl, hl8⟩ := len_succ hl7
      obtain ⟨v8, vs, rfl, hl9⟩ := len_succ hl8
      obtain ⟨v9, vs, rfl, hl10⟩ := len_succ hl9
      obtain ⟨v10, vs, rfl, hl11⟩ := len_succ hl10
      obtain ⟨v11, vs, rfl, hl12⟩ := len_succ hl11
      obtain ⟨v12, vs, rfl, hl13⟩ := len_succ hl12
      obtain ⟨v13, vs, rfl, hl14⟩ := len_succ hl13
      obtain ⟨v14, vs, rfl, hl15⟩ := len_succ hl14
      obtain rfl := len_zero hl15
      clear hd hl hl1 hl2 hl3 hl4 hl5 hl6 hl7 hl8 hl9 hl10 hl11 hl12 hl13 hl14 hl15
      replace hK := hK.out
      simp only [Bp.putsO, List.set_cons_zero, List.set_cons_succ, Act.put, List.setIfInBounds_toArray] at hK ⊢
      have hK' : Shut _ := hK
      clear hK
      go_simp
      (try go_wp2_with fail)
      exact hK'.out _ _ (Below.refl _ _) (fun D hD => by cases hD; rfl)
    · refine ⟨.plain, [1], by decide, by simp, fun vs w hl hR hd K hK => ?_⟩
      obtain ⟨v0, vs, rfl, hl1⟩ := len_succ hl
      obtain ⟨v1, vs, rfl, hl2⟩ := len_succ hl1
      obtain ⟨v2, vs, rfl, hl3⟩ := len_succ hl2
      obtain ⟨v3, vs, rfl, hl4⟩ := len_succ hl3
      obtain ⟨v4, vs, rfl, hl5⟩ := len_succ hl4
      obtain ⟨v5, vs, rfl, hl6⟩ := len_succ hl5
      obtain ⟨v6, vs, rfl, hl7⟩ := len_succ hl6
      obtain ⟨v7, vs, rfl, hl8⟩ := len_succ hl7
      obtain ⟨v8, vs, rfl, hl9⟩ := len_succ hl8
      obtain ⟨v9, vs, rfl, hl10⟩ := len_succ hl9
      obtain ⟨v10, vs, rfl, hl11⟩ := len_succ hl10
      obtain ⟨v11, vs, rfl, hl12⟩ := len_succ hl11
      obtain ⟨v12, vs, rfl, hl13⟩ := len_succ hl12
      obtain ⟨v13, vs, rfl, hl14⟩ := len_succ hl13
      obtain ⟨v14, vs, rfl, hl15⟩ := len_succ hl14
      obtain rfl := len_zero hl15
      have dd := hd 1 (by simp) _ rfl; simp only [List.getD_cons_zero, List.getD_cons_succ] at dd; obtain rfl := dd
      clear hd hl hl1 hl2 hl3 hl4 hl5 hl6 hl7 hl8 hl9 hl10 hl11 hl12 hl13 hl14 hl15
      replace hK := hK.out
      simp only [Bp.putsO, List.set_cons_zero, List.set_cons_succ, Act.put, List.setIfInBounds_toArray] at hK ⊢
      have hK' : Shut _ := hK
      clear hK
      go_simp
      (try go_wp2_with fail)
      exact hK'.out _ _ (Below.refl _ _) (fun D hD => by cases hD; rfl)
    · refine ⟨.plain, [2], by decide, by simp, fun vs w hl hR hd K hK => ?_⟩
      obtain ⟨v0, vs, rfl, hl1⟩ := len_succ hl
      obtain ⟨v1, vs, rfl, hl2⟩ := len_succ hl1
      obtain ⟨v2, vs, rfl, hl3⟩ := len_succ hl2
      obtain ⟨v3, vs, rfl, hl4⟩ := len_succ hl3
      obtain ⟨v4, vs, rfl, hl5⟩ := len_succ hl4
      obtain ⟨v5, vs, rfl, hl6⟩ := len_succ hl5
      obtain ⟨v6, vs, rfl, hl7⟩ := len_succ hl6
      obtain ⟨v7, vs, rfl, hl8⟩ := len_succ hl7
      obtain ⟨v8, vs, rfl, hl9⟩ := len_succ hl8
      obtain ⟨v9, vs, rfl, hl10⟩ := len_succ hl9
      obtain ⟨v10, vs, rfl, hl11⟩ := len_succ hl10
      obtain ⟨v11, vs, rfl, hl12⟩ := len_succ hl11
      obtain ⟨v12, vs, rfl, hl13⟩ := len_succ hl12
      obtain ⟨v13, vs, rfl, hl14⟩ := len_succ hl13
      obtain ⟨v14, vs, rfl, hl15⟩ := len_succ hl14
      obtain rfl := len_zero hl15
      have dd := hd 2 (by simp) _ rfl; simp only [List.getD_cons_zero, List.getD_cons_succ] at dd; obtain rfl := dd
      clear hd hl hl1 hl2 hl3 hl4 hl5 hl6 hl7 hl8 hl9 hl10 hl11 hl12 hl13 hl14 hl15
      replace hK := hK.out
      simp only [Bp.putsO, List.set_cons_zero, List.set_cons_succ, Act.put, List.setIfInBounds_toArray] at hK ⊢
      have hK' : Shut _ := hK
      clear hK
      go_simp
      (try go_wp2_with fail)
      exact hK'.out _ _ (Below.refl _ _) (fun D hD => by cases hD; (first | rfl | rw [HK.out]))
    · refine ⟨.plain, [0, 3], by decide, by simp, fun vs w hl hR hd K hK => ?_⟩
      obtain ⟨v0, vs, rfl, hl1⟩ := len_succ hl
      obtain ⟨v1, vs, rfl, hl2⟩ := len_succ hl1
      obtain ⟨v2, vs, rfl, hl3⟩ := len_succ hl2
      obtain ⟨v3, vs, rfl, hl4⟩ := len_succ hl3
      obtain ⟨v4, vs, rfl, hl5⟩ := len_succ hl4
      obtain ⟨v5, vs, rfl, hl6⟩ := len_succ hl5
      obtain ⟨v6, vs, rfl, hl7⟩ := len_succ hl6
      obtain ⟨v7, vs, rfl, hl8⟩ := len_succ hl7
      obtain ⟨v8, vs, rfl, hl9⟩ := len_succ hl8
      obtain ⟨v9, vs, rfl, hl10⟩ := len_succ hl9
      obtain ⟨v10, vs, rfl, hl11⟩ := len_succ hl10
      obtain ⟨v11, vs, rfl, hl12⟩ := len_succ hl11
      obtain ⟨v12, vs, rfl, hl13⟩ := len_succ hl12
      obtain ⟨v13, vs, rfl, hl14⟩ := len_succ hl13
      obtain ⟨v14, vs, rfl, hl15⟩ := len_succ hl14
      obtain rfl := len_zero hl15
      have dd := hd 0 (by simp) _ rfl; simp only [List.getD_cons_zero, List.getD_cons_succ] at dd; obtain rfl := dd
      have dd := hd 3 (by simp) _ rfl; simp only [List.getD_cons_zero, List.getD_cons_succ] at dd; obtain rfl := dd
      clear hd hl hl1 hl2 hl3 hl4 hl5 hl6 hl7 hl8 hl9 hl10 hl11 hl12 hl13 hl14 hl15
      replace hK := hK.out
      simp only [Bp.putsO, List.set_cons_zero, List.set_cons_succ, Act.put, List.setIfInBounds_toArray] at hK ⊢
      have hK' : Shut _ := hK
      clear hK
      go_simp
      (try go_wp2_with fail)
      exact hK'.out _ _ (Below.refl _ _) (fun D hD => by cases hD; rfl)
    · refine ⟨.plain, [4], by decide, by simp, fun vs w hl hR hd K hK => ?_⟩
      obtain ⟨v0, vs, rfl, hl1⟩ := len_succ hl
      obtain ⟨v1, vs, rfl, hl2⟩ := len_succ hl1
      obtain ⟨v2, vs, rfl, hl3⟩ := len_succ hl2
      obtain ⟨v3, vs, rfl, hl4⟩ := len_succ hl3
      obtain ⟨v4, vs, rfl, hl5⟩ := len_succ hl4
      obtain ⟨v5, vs, rfl, hl6⟩ := len_succ hl5
      obtain ⟨v6, vs, rfl, hl7⟩ := len_succ hl6
      obtain ⟨v7, vs, rfl, hl8⟩ := len_succ hl7
      obtain ⟨v8, vs, rfl, hl9⟩ := len_succ hl8
      obtain ⟨v9, vs, rfl, hl10⟩ := len_succ hl9
      obtain ⟨v10, vs, rfl, hl11⟩ := len_succ hl10
      obtain ⟨v11, vs, rfl, hl12⟩ := len_succ hl11
      obtain ⟨v12, vs, rfl, hl13⟩ := len_succ hl12
      obtain ⟨v13, vs, rfl, hl14⟩ := len_succ hl13
      obtain ⟨v14, vs, rfl, hl15⟩ := len_succ hl14
      obtain rfl := len_zero hl15
      have dd := hd 4 (by simp) _ rfl; simp only [List.getD_cons_zero, List.getD_cons_succ] at dd; obtain rfl := dd
      clear hd hl hl1 hl2 hl3 hl4 hl5 hl6 hl7 hl8 hl9 hl10 hl11 hl12 hl13 hl14 hl15
      replace hK := hK.out
      simp only [Bp.putsO, List.set_cons_zero, List.set_cons_succ, Act.put, List.setIfInBounds_toArray] at hK ⊢
      have hK' : Shut _ := hK
      clear hK
      go_simp
      go_at_call 30; (with_reducible refine (of_first _ _ _ _ A _ (HI.out.below (step_call HB0.out hR)) HKN.out EA).mono ?_); rintro e w2 ⟨a2, n2, c2, rfl, hs, hb⟩
      (try go_wp2_with fail)
      exact hK'.out _ _ (hb) (fun D hD => by cases hD; exact ⟨_, _, _, rfl, hs⟩)
    · refine ⟨.plain, [], by decide, by simp, fun vs w hl hR hd K hK => ?_⟩
      obtain ⟨v0, vs, rfl, hl1⟩ := len_succ hl
      obtain ⟨v1, vs, rfl, hl2⟩ := len_succ hl1
      obtain ⟨v2, vs, rfl, hl3⟩ := len_succ hl2
      obtain ⟨v3, vs, rfl, hl4⟩ := len_succ hl3
      obtain ⟨v4, vs, rfl, hl5⟩ := len_succ hl4
      obtain ⟨v5, vs, rfl, hl6⟩ := len_succ hl5
      obtain ⟨v6, vs, rfl, hl7⟩ := len_succ hl6
      obtain ⟨v7, vs, rfl, hl8⟩ := len_succ hl7
      obtain ⟨v8, vs, rfl, hl9⟩ := len_succ hl8
      obtain ⟨v9, vs, rfl, hl10⟩ := len_succ hl9
      obtain ⟨v10, vs, rfl, hl11⟩ := len_succ hl10
      obtain ⟨v11, vs, rfl, hl12⟩ := len_succ hl11
      obtain ⟨v12, vs, rfl, hl13⟩ := len_succ hl12
      obtain ⟨v13, vs, rfl, hl14⟩ := len_succ hl13
      obtain ⟨v14, vs, rfl, hl15⟩ := len_succ hl14
      obtain rfl := len_zero hl15
      clear hd hl hl1 hl2 hl3 hl4 hl5 hl6 hl7 hl8 hl9 hl10 hl11 hl12 hl13 hl14 hl15
      replace hK := hK.out
      simp only [Bp.putsO, List.set_cons_zero, List.set_cons_succ, Act.put, List.setIfInBounds_toArray] at hK ⊢
      have hK' : Shut _ := hK
      clear hK
      go_simp
      (try go_wp2_with fail)
      exact hK'.out _ _ (Below.refl _ _) (fun D hD => by cases hD; rfl)
    · refine ⟨.plain, [], by decide, by simp, fun vs w hl hR hd K hK => ?_⟩
      obtain ⟨v0, vs, rfl, hl1⟩ := len_succ hl
      obtain ⟨v1, vs, rfl, hl2⟩ := len_succ hl1
      obtain ⟨v2, vs, rfl, hl3⟩ := len_succ hl2
      obtain ⟨v3, vs, rfl, hl4⟩ := len_succ hl3
      obtain ⟨v4, vs, rfl, hl5⟩ := len_succ hl4
      obtain ⟨v5, vs, rfl, hl6⟩ := len_succ hl5
      obtain ⟨v6, vs, rfl, hl7⟩ := len_succ hl6
      obtain ⟨v7, vs, rfl, hl8⟩ := len_succ hl7
      obtain ⟨v8, vs, rfl, hl9⟩ := len_succ hl8
      obtain ⟨v9, vs, rfl, hl10⟩ := len_succ hl9
      obtain ⟨v10, vs, rfl, hl11⟩ := len_succ hl10
      obtain ⟨v11, vs, rfl, hl12⟩ := len_succ hl11
      obtain ⟨v12, vs, rfl, hl13⟩ := len_succ hl12
      obtain ⟨v13, vs, rfl, hl14⟩ := len_succ hl13
      obtain ⟨v14, vs, rfl, hl15⟩ := len_succ hl14
      obtain rfl := len_zero hl15
      clear hd hl hl1 hl2 hl3 hl4 hl5 hl6 hl7 hl8 hl9 hl10 hl11 hl12 hl13 hl14 hl15
      replace hK := hK.out
      simp only [Bp.putsO, List.set_cons_zero, List.set_cons_succ, Act.put, List.setIfInBounds_toArray] at hK ⊢
      have hK' : Shut _ := hK
      clear hK
      go_simp
      (try go_wp2_with fail)
      exact hK'.out _ _ (Below.refl _ _) (fun D hD => by cases hD; rfl)
    · refine ⟨.plain, [7], by decide, by simp, fun vs w hl hR hd K hK => ?_⟩
      obtain ⟨v0, vs, rfl, hl1⟩ := len_succ hl
      obtain ⟨v1, vs, rfl, hl2⟩ := len_succ hl1
      obtain ⟨v2, vs, rfl, hl3⟩ := len_succ hl2
      obtain ⟨v3, vs, rfl, hl4⟩ := len_succ hl3
      obtain ⟨v4, vs, rfl, hl5⟩ := len_succ hl4
      obtain ⟨v5, vs, rfl, hl6⟩ := len_succ hl5
      obtain ⟨v6, vs, rfl, hl7⟩ := len_succ hl6
      obtain ⟨v7, vs, rfl, hl8⟩ := len_succ hl7
      obtain ⟨v8, vs, rfl, hl9⟩ := len_succ hl8
      obtain ⟨v9, vs, rfl, hl10⟩ := len_succ hl9
      obtain ⟨v10, vs, rfl, hl11⟩ := len_succ hl10
      obtain ⟨v11, vs, rfl, hl12⟩ := len_succ hl11
      obtain ⟨v12, vs, rfl, hl13⟩ := len_succ hl12
      obtain ⟨v13, vs, rfl, hl14⟩ := len_succ hl13
      obtain ⟨v14, vs, rfl, hl15⟩ := len_succ hl14
      obtain rfl := len_zero hl15
      have dd := hd 7 (by simp) _ rfl; simp only [List.getD_cons_zero, List.getD_cons_succ] at dd; obtain rfl := dd
      clear hd hl hl1 hl2 hl3 hl4 hl5 hl6 hl7 hl8 hl9 hl10 hl11 hl12 hl13 hl14 hl15
      replace hK := hK.out
      simp only [Bp.putsO, List.set_cons_zero, List.set_cons_succ, Act.put, List.setIfInBounds_toArray] at hK ⊢
      have hK' : Shut _ := hK
      clear hK
      go_simp
      (try go_wp2_with fail)
      exact hK'.out _ _ (Below.refl _ _) (fun D hD => by cases hD; rfl)
    · refine ⟨.plain, [8], by decide, by simp, fun vs w hl hR hd K hK => ?_⟩
      obtain ⟨v0, vs, rfl, hl1⟩ := len_succ hl
      obtain ⟨v1, vs, rfl, hl2⟩ := len_succ hl1
      obtain ⟨v2, vs, rfl, hl3⟩ := len_succ hl2
      obtain ⟨v3, vs, rfl, hl4⟩ := len_succ hl3
      obtain ⟨v4, vs, rfl, hl5⟩ := len_succ hl4
      obtain ⟨v5, vs, rfl, hl6⟩ := len_succ hl5
      obtain ⟨v6, vs, rfl, hl7⟩ := len_succ hl6
      obtain ⟨v7, vs, rfl, hl8⟩ := len_succ hl7
      obtain ⟨v8, vs, rfl, hl9⟩ := len_succ hl8
      obtain ⟨v9, vs, rfl, hl10⟩ := len_succ hl9
      obtain ⟨v10, vs, rfl, hl11⟩ := len_succ hl10
      obtain ⟨v11, vs, rfl, hl12⟩ := len_succ hl11
      obtain ⟨v12, vs, rfl, hl13⟩ := len_succ hl12
      obtain ⟨v13, vs, rfl, hl14⟩ := len_succ hl13
      obtain ⟨v14, vs, rfl, hl15⟩ := len_succ hl14
      obtain rfl := len_zero hl15
      have dd := hd 8 (by simp) _ rfl; simp only [List.getD_cons_zero, List.getD_cons_succ] at dd; obtain rfl := dd
      clear hd hl hl1 hl2 hl3 hl4 hl5 hl6 hl7 hl8 hl9 hl10 hl11 hl12 hl13 hl14 hl15
      replace hK := hK.out
      simp only [Bp.putsO, List.set_cons_zero, List.set_cons_succ, Act.put, List.setIfInBounds_toArray] at hK ⊢
      have hK' : Shut _ := hK
      clear hK
      go_simp
      (try go_wp2_with fail)
      exact hK'.out _ _ (Below.refl _ _) (fun D hD => by cases hD; (first | rfl | rw [HJ.out]))
    · refine ⟨.plain, [6, 9], by decide, by simp, fun vs w hl hR hd K hK => ?_⟩
      obtain ⟨v0, vs, rfl, hl1⟩ := len_succ hl
      obtain ⟨v1, vs, rfl, hl2⟩ := len_succ hl1
      obtain ⟨v2, vs, rfl, hl3⟩ := len_succ hl2
      obtain ⟨v3, vs, rfl, hl4⟩ := len_succ hl3
      obtain ⟨v4, vs, rfl, hl5⟩ := len_succ hl4
      obtain ⟨v5, vs, rfl, hl6⟩ := len_succ hl5
      obtain ⟨v6, vs, rfl, hl7⟩ := len_succ hl6
      obtain ⟨v7, vs, rfl, hl8⟩ := len_succ hl7
      obtain ⟨v8, vs, rfl, hl9⟩ := len_succ hl8
      obtain ⟨v9, vs, rfl, hl10⟩ := len_succ hl9
      obtain ⟨v10, vs, rfl, hl11⟩ := len_succ hl10
      obtain ⟨v11, vs, rfl, hl12⟩ := len_succ hl11
      obtain ⟨v12, vs, rfl, hl13⟩ := len_succ hl12
      obtain ⟨v13, vs, rfl, hl14⟩ := len_succ hl13
      obtain ⟨v14, vs, rfl, hl15⟩ := len_succ hl14
      obtain rfl := len_zero hl15
      have dd := hd 6 (by simp) _ rfl; simp only [List.getD_cons_zero, List.getD_cons_succ] at dd; obtain rfl := dd
      have dd := hd 9 (by simp) _ rfl; simp only [List.getD_cons_zero, List.getD_cons_succ] at dd; obtain rfl := dd
      clear hd hl hl1 hl2 hl3 hl4 hl5 hl6 hl7 hl8 hl9 hl10 hl11 hl12 hl13 hl14 hl15
      replace hK := hK.out
      simp only [Bp.putsO, List.set_cons_zero, List.set_cons_succ, Act.put, List.setIfInBounds_toArray] at hK ⊢
      have hK' : Shut _ := hK
      clear hK
      go_simp
      (try go_wp2_with fail)
      exact hK'.out _ _ (Below.refl _ _) (fun D hD => by cases hD; rfl)
    · refine ⟨.plain, [10], by decide, by simp, fun vs w hl hR hd K hK => ?_⟩
      obtain ⟨v0, vs, rfl, hl1⟩ := len_succ hl
      obtain ⟨v1, vs, rfl, hl2⟩ := len_succ hl1
      obtain ⟨v2, vs, rfl, hl3⟩ := len_succ hl2
      obtain ⟨v3, vs, rfl, hl4⟩ := len_succ hl3
      obtain ⟨v4, vs, rfl, hl5⟩ := len_succ hl4
      obtain ⟨v5, vs, rfl, hl6⟩ := len_succ hl5
      obtain ⟨v6, vs, rfl, hl7⟩ := len_succ hl6
      obtain ⟨v7, vs, rfl, hl8⟩ := len_succ hl7
      obtain ⟨v8, vs, rfl, hl9⟩ := len_succ hl8
      obtain ⟨v9, vs, rfl, hl10⟩ := len_succ hl9
      obtain ⟨v10, vs, rfl, hl11⟩ := len_succ hl10
      obtain ⟨v11, vs, rfl, hl12⟩ := len_succ hl11
      obtain ⟨v12, vs, rfl, hl13⟩ := len_succ hl12
      obtain ⟨v13, vs, rfl, hl14⟩ := len_succ hl13
      obtain ⟨v14, vs, rfl, hl15⟩ := len_succ hl14
      obtain rfl := len_zero hl15
      have dd := hd 10 (by simp) _ rfl; simp only [List.getD_cons_zero, List.getD_cons_succ] at dd; obtain rfl := dd
      clear hd hl hl1 hl2 hl3 hl4 hl5 hl6 hl7 hl8 hl9 hl10 hl11 hl12 hl13 hl14 hl15
      replace hK := hK.out
      simp only [Bp.putsO, List.set_cons_zero, List.set_cons_succ, Act.put, List.setIfInBounds_toArray] at hK ⊢
      have hK' : Shut _ := hK
      clear hK
      go_simp
      go_at_call 30; (with_reducible refine (of_first _ _ _ _ B _ (HI2.out.below (step_call HB0.out hR)) HJN.out EB).mono ?_); rintro e w2 ⟨a2, n2, c2, rfl, hs, hb⟩
      (try go_wp2_with fail)
      exact hK'.out _ _ (hb) (fun D hD => by cases hD; exact ⟨_, _, _, rfl, hs⟩)
    · refine ⟨.plain, [5, 11], by decide, by simp, fun vs w hl hR hd K hK => ?_⟩
      obtain ⟨v0, vs, rfl, hl1⟩ := len_succ hl
      obtain ⟨v1, vs, rfl, hl2⟩ := len_succ hl1
      obtain ⟨v2, vs, rfl, hl3⟩ := len_succ hl2
      obtain ⟨v3, vs, rfl, hl4⟩ := len_succ hl3
      obtain ⟨v4, vs, rfl, hl5⟩ := len_succ hl4
      obtain ⟨v5, vs, rfl, hl6⟩ := len_succ hl5
      obtain ⟨v6, vs, rfl, hl7⟩ := len_succ hl6
      obtain ⟨v7, vs, rfl, hl8⟩ := len_succ hl7
      obtain ⟨v8, vs, rfl, hl9⟩ := len_succ hl8
      obtain ⟨v9, vs, rfl, hl10⟩ := len_succ hl9
      obtain ⟨v10, vs, rfl, hl11⟩ := len_succ hl10
      obtain ⟨v11, vs, rfl, hl12⟩ := len_succ hl11
      obtain ⟨v12, vs, rfl, hl13⟩ := len_succ hl12
      obtain ⟨v13, vs, rfl, hl14⟩ := len_succ hl13
      obtain ⟨v14, vs, rfl, hl15⟩ := len_succ hl14
      obtain rfl := len_zero hl15
      have dd := hd 5 (by simp) _ rfl; simp only [List.getD_cons_zero, List.getD_cons_succ] at dd; refine dd.elim ?_; clear dd; intro a1 n1 c1 e hs1; subst e
      have dd := hd 11 (by simp) _ rfl; simp only [List.getD_cons_zero, List.getD_cons_succ] at dd; refine dd.elim ?_; clear dd; intro a2 n2 c2 e hs2; subst e
      clear hd hl hl1 hl2 hl3 hl4 hl5 hl6 hl7 hl8 hl9 hl10 hl11 hl12 hl13 hl14 hl15
      replace hK := hK.out
      simp only [Bp.putsO, List.set_cons_zero, List.set_cons_succ, Act.put, List.setIfInBounds_toArray] at hK ⊢
      have hK' : Shut _ := hK
      clear hK
      go_simp
      (try go_wp2_with fail)
      exact hK'.out _ _ (Below.refl _ _) (fun D hD => by cases hD; exact ⟨_, _, _, _, _, _, rfl, hs1, hs2⟩)
    · refine ⟨.box ⟨13, 14, CvP (A, B)⟩, [], by decide, by simp, rfl, by simp, (fun D hD => by cases hD; exact fun _ _ => trivial), fun vs w hl K hK => ?_⟩
      obtain ⟨v0, vs, rfl, hl1⟩ := len_succ hl
      obtain ⟨v1, vs, rfl, hl2⟩ := len_succ hl1
      obtain ⟨v2, vs, rfl, hl3⟩ := len_succ hl2
      obtain ⟨v3, vs, rfl, hl4⟩ := len_succ hl3
      obtain ⟨v4, vs, rfl, hl5⟩ := len_succ hl4
      obtain ⟨v5, vs, rfl, hl6⟩ := len_succ hl5
      obtain ⟨v6, vs, rfl, hl7⟩ := len_succ hl6
      obtain ⟨v7, vs, rfl, hl8⟩ := len_succ hl7
      obtain ⟨v8, vs, rfl, hl9⟩ := len_succ hl8
      obtain ⟨v9, vs, rfl, hl10⟩ := len_succ hl9
      obtain ⟨v10, vs, rfl, hl11⟩ := len_succ hl10
      obtain ⟨v11, vs, rfl, hl12⟩ := len_succ hl11
      obtain ⟨v12, vs, rfl, hl13⟩ := len_succ hl12
      obtain ⟨v13, vs, rfl, hl14⟩ := len_succ hl13
      obtain ⟨v14, vs, rfl, hl15⟩ := len_succ hl14
      obtain rfl := len_zero hl15
      clear hl hl1 hl2 hl3 hl4 hl5 hl6 hl7 hl8 hl9 hl10 hl11 hl12 hl13 hl14 hl15
      replace hK := hK.out
      simp only [Bp.putsO, List.set_cons_zero, List.set_cons_succ, Act.put, List.setIfInBounds_toArray] at hK ⊢
      have hK' : Shut _ := hK
      clear hK
      go_simp
      (try go_wp2_with fail)
      exact hK'.out
    · refine ⟨.fill ⟨13, 14, CvP (A, B)⟩, [13, 12], by decide, by simp, rfl, by simp, by simp, by simp, by simp, (fun D hD => by cases hD; exact fun _ _ => trivial), fun vs w g hl hd hg c0 c1 f0 f1 K hK => ?_⟩
      obtain ⟨v0, vs, rfl, hl1⟩ := len_succ hl
      obtain ⟨v1, vs, rfl, hl2⟩ := len_succ hl1
      obtain ⟨v2, vs, rfl, hl3⟩ := len_succ hl2
      obtain ⟨v3, vs, rfl, hl4⟩ := len_succ hl3
      obtain ⟨v4, vs, rfl, hl5⟩ := len_succ hl4
      obtain ⟨v5, vs, rfl, hl6⟩ := len_succ hl5
      obtain ⟨v6, vs, rfl, hl7⟩ := len_succ hl6
      obtain ⟨v7, vs, rfl, hl8⟩ := len_succ hl7
      obtain ⟨v8, vs, rfl, hl9⟩ := len_succ hl8
      obtain ⟨v9, vs, rfl, hl10⟩ := len_succ hl9
      obtain ⟨v10, vs, rfl, hl11⟩ := len_succ hl10
      obtain ⟨v11, vs, rfl, hl12⟩ := len_succ hl11
      obtain ⟨v12, vs, rfl, hl13⟩ := len_succ hl12
      obtain ⟨v13, vs, rfl, hl14⟩ := len_succ hl13
      obtain ⟨v14, vs, rfl, hl15⟩ := len_succ hl14
      obtain rfl := len_zero hl15
      have dd := hd 12 (by simp) _ rfl; simp only [List.getD_cons_zero, List.getD_cons_succ] at dd; replace dd := dd.pick; have hq := Classical.choose_spec dd; generalize Classical.choose dd = t0 at hq; clear dd; have e := hq.1; have hc := hq.2; clear hq; subst e
      simp only [List.getD_cons_zero, List.getD_cons_succ] at hg
      obtain rfl := hg
      clear hd hl hl1 hl2 hl3 hl4 hl5 hl6 hl7 hl8 hl9 hl10 hl11 hl12 hl13 hl14 hl15
      replace hK := hK.out undef _ _ (⟨_, _, _, _, _, _, rfl, rfl, hc⟩)
      simp only [Bp.putsO, List.set_cons_zero, List.set_cons_succ, Act.put, List.setIfInBounds_toArray] at hK ⊢
      have hK' : Shut _ := hK
      clear hK
      go_simp
      (try go_wp2_with fail)
      exact hK'.out
    · intro vs w1 hl hR hd hbx hne
      obtain ⟨v0, vs, rfl, hl1⟩ := len_succ hl
      obtain ⟨v1, vs, rfl, hl2⟩ := len_succ hl1
      obtain ⟨v2, vs, rfl, hl3⟩ := len_succ hl2
      obtain ⟨v3, vs, rfl, hl4⟩ := len_succ hl3
      obtain ⟨v4, vs, rfl, hl5⟩ := len_succ hl4
      obtain ⟨v5, vs, rfl, hl6⟩ := len_succ hl5
      obtain ⟨v6, vs, rfl, hl7⟩ := len_succ hl6
      obtain ⟨v7, vs, rfl, hl8⟩ := len_succ hl7
      obtain ⟨v8, vs, rfl, hl9⟩ := len_succ hl8
      obtain ⟨v9, vs, rfl, hl10⟩ := len_succ hl9
      obtain ⟨v10, vs, rfl, hl11⟩ := len_succ hl10
      obtain ⟨v11, vs, rfl, hl12⟩ := len_succ hl11
      obtain ⟨v12, vs, rfl, hl13⟩ := len_succ hl12
      obtain ⟨v13, vs, rfl, hl14⟩ := len_succ hl13
      obtain ⟨v14, vs, rfl, hl15⟩ := len_succ hl14
      obtain rfl := len_zero hl15
      obtain ⟨g0, x0, y0, e0, hg0, hh0, hP0⟩ := hbx ⟨13, 14, CvP (A, B)⟩ (by simp) (by simp) (by simp)
      simp only [List.getD_cons_zero, List.getD_cons_succ] at e0
      obtain rfl := e0
      clear hd hbx hl hl1 hl2 hl3 hl4 hl5 hl6 hl7 hl8 hl9 hl10 hl11 hl12 hl13 hl14 hl15
      simp only [Bp.putsO, List.set_cons_zero, List.set_cons_succ, Act.put, List.setIfInBounds_toArray]
      have hA0 : At2T w1 g0 _ _ _ := hh0
      refine hP0.elim ?_
      clear hP0
      intro a n c b m d ex ey hc
      subst ex
      subst ey
      have hB := step_call HB0.out hR
      have q0 := hA0.at.1
      have q1 := hA0.at.2.1
      clear hh0 hg0 hne hR HB0
      by_cases hy : textC (parseL (s.extract 0 u).data.toList) = (s.extract 0 u).data.toList
      · obtain ⟨X, eX⟩ : ∃ X, parseL (s.extract 0 u).data.toList = X := ⟨_, rfl⟩
        rw [eX] at hy
        have HSP := Lib.hid eX
        have HST := Lib.hid hy
        have HXT : Hid (s.extract 0 u = ⟨(textC X).toArray⟩) := str_eq hy.symm
        clear hy eX
        go_wp2_with (first
          | (go_at_call 32; clear tk0; (with_reducible refine (textC_t _ _ _ _ _ _ (A, B) tt _ hc ET (HW.out.below hB)).mono ?_); rintro e w2 ⟨rfl, hb⟩; have hB := step_call hB hb; replace hc := hc.below hb; replace hA0 := hA0.below hb; clear hb; clear q0 q1; have q0 := hA0.at.1; have q1 := hA0.at.2.1; have tk1 : Hid True := trivial)
          | (go_at_call 31; clear tk1; (with_reducible refine (parse_yes tt (A, B) _ HTS.out HTP HTT (HW.out.below hB)).mono ?_); rintro e w3 ⟨a2, n2, c2, b2, m2, d2, rfl, hc2, hb⟩; have hB := step_call hB hb; replace hc := hc.below hb; replace hA0 := hA0.below hb; clear hb; have hbx := (Below.refl w3.heap.size w3).alloc (Nat.le_refl _) (.cells #[.slice a2 n2 c2, .slice b2 m2 d2] 34); have hA1 := At2T.new w3 (.slice a2 n2 c2) (.slice b2 m2 d2) 34; have hB := step_call hB hbx; have r0 := hA1.at.1; have r1 := hA1.at.2.1; replace hc := hc.below hbx; replace hc2 := hc2.below hbx; replace hA0 := hA0.below hbx; clear hbx; clear q0 q1; have q0 := hA0.at.1; have q1 := hA0.at.2.1; have tk2 : Hid True := trivial)
          | (go_at_call 29; clear tk2; (with_reducible refine (equalC_yes _ _ _ _ _ _ _ _ _ _ _ _ (A, B) _ hc hc2).mono ?_); rintro e w4 ⟨rfl, hb⟩; have hB := step_call hB hb; clear hb hc hc2 hA0 hA1 q0 q1 r0 r1; have tk3 : Hid True := trivial)
          | (go_at_call 31; clear tk3; (with_reducible refine (parse_yes (s.extract 0 u) X _ HSZ.out HSP HST (HW.out.below hB)).mono ?_); rintro e w5 ⟨a5, n5, c5, b5, m5, d5, rfl, hc5, hb⟩; have hB := step_call hB hb; clear hb; have hbx := (Below.refl w5.heap.size w5).alloc (Nat.le_refl _) (.cells #[.slice a5 n5 c5, .slice b5 m5 d5] 34); have hA5 := At2T.new w5 (.slice a5 n5 c5) (.slice b5 m5 d5) 34; have hB := step_call hB hbx; have q0 := hA5.at.1; have q1 := hA5.at.2.1; replace hc5 := hc5.below hbx; clear hbx; have tk4 : Hid True := trivial)
          | (go_at_call 32; clear tk4; (with_reducible refine (textC_t _ _ _ _ _ _ X (s.extract 0 u) _ hc5 HXT (HW.out.below hB)).mono ?_); rintro e w6 ⟨rfl, hb⟩; have hB := step_call hB hb; replace hA5 := hA5.below hb; clear hb hc5; clear q0 q1; have q0 := hA5.at.1; have q1 := hA5.at.2.1; have tk5 : Hid True := trivial))
        go_ret
        exact ⟨rfl, hB⟩
      · have HSN := Lib.hid hy
        clear hy
        go_wp2_with (first
          | (go_at_call 32; clear tk0; (with_reducible refine (textC_t _ _ _ _ _ _ (A, B) tt _ hc ET (HW.out.below hB)).mono ?_); rintro e w2 ⟨rfl, hb⟩; have hB := step_call hB hb; replace hc := hc.below hb; replace hA0 := hA0.below hb; clear hb; clear q0 q1; have q0 := hA0.at.1; have q1 := hA0.at.2.1; have tk1 : Hid True := trivial)
          | (go_at_call 31; clear tk1; (with_reducible refine (parse_yes tt (A, B) _ HTS.out HTP HTT (HW.out.below hB)).mono ?_); rintro e w3 ⟨a2, n2, c2, b2, m2, d2, rfl, hc2, hb⟩; have hB := step_call hB hb; replace hc := hc.below hb; replace hA0 := hA0.below hb; clear hb; have hbx := (Below.refl w3.heap.size w3).alloc (Nat.le_refl _) (.cells #[.slice a2 n2 c2, .slice b2 m2 d2] 34); have hA1 := At2T.new w3 (.slice a2 n2 c2) (.slice b2 m2 d2) 34; have hB := step_call hB hbx; have r0 := hA1.at.1; have r1 := hA1.at.2.1; replace hc := hc.below hbx; replace hc2 := hc2.below hbx; replace hA0 := hA0.below hbx; clear hbx; clear q0 q1; have q0 := hA0.at.1; have q1 := hA0.at.2.1; have tk2 : Hid True := trivial)
          | (go_at_call 29; clear tk2; (with_reducible refine (equalC_yes _ _ _ _ _ _ _ _ _ _ _ _ (A, B) _ hc hc2).mono ?_); rintro e w4 ⟨rfl, hb⟩; have hB := step_call hB hb; clear hb hc hc2 hA0 hA1 q0 q1 r0 r1; have tk3 : Hid True := trivial)
          | (go_at_call 31; clear tk3; (with_reducible refine (parse_no (s.extract 0 u) _ HSZ.out HSN (HW.out.below hB)).mono ?_); rintro e w5 ⟨rfl, hb⟩; have hB := step_call hB hb; clear hb; have hbx := (Below.refl w5.heap.size w5).alloc (Nat.le_refl _) (.cells #[.slice none 0 0, .slice none 0 0] 34); have hA5 := At2T.new w5 (.slice none 0 0) (.slice none 0 0) 34; have hB := step_call hB hbx; have q0 := hA5.at.1; have q1 := hA5.at.2.1; clear hbx; have tk4 : Hid True := trivial)
          | (go_at_call 29; clear tk4; (with_reducible refine (equalC_yes _ _ _ _ _ _ _ _ _ _ _ _ ([], []) _ (nil_cube _) (nil_cube _)).mono ?_); rintro e w6 ⟨rfl, hb⟩; have hB := step_call hB hb; replace hA5 := hA5.below hb; clear hb; clear q0 q1; have q0 := hA5.at.1; have q1 := hA5.at.2.1; have tk5 : Hid True := trivial))
        go_ret
        exact ⟨rfl, hB⟩
  · obtain rfl : k = 0 := by omega
    go_enter Tryz.func5, Tryz.ntmps5
    go_upto_region 3 with (go_at_call 15; (with_reducible refine (awake_any _ HW.out).mono ?_); rintro e w0 ⟨rfl, hb⟩; have HB0 := Lib.hid hb; clear hb)
    refine Bp.region_boxes 34 (.slice none 0 0) _ [⟨13, 14, CvP (A, B)⟩] [some 14, some 15, some 16, some 17, some 18, some 19, some 20, some 21, some 22, some 23, some 24, some 25, some 26, some 7, none]
      [fun v w => v = .slice none 0 0,
       fun v w => v = .slice none 0 0,
       fun v w => v = .int .i64 0,
       fun v w => v = .int .i64 0,
       fun v w => v = .slice none 0 0,
       fun v w => StV w v A,
       fun v w => v = .slice (some ⟨x2, o2, none⟩) m dap,
       fun v w => v = .slice (some ⟨x2, o2, none⟩) m dap,
       fun v w => v = .int .i64 (m : Nat),
       fun v w => v = .int .i64 (j : Nat),
       fun v w => v = .slice (some ⟨x2, o2, none⟩) j dap,
       fun v w => StV w v B,
       fun v w => CvV w v (A, B),
       fun _ _ => True,
       fun _ _ => True] (by kernel_rfl) (by kernel_rfl) rfl [undef, undef, undef, undef, undef, undef, undef, undef, undef, undef, undef, undef, undef, undef, undef] (by simp only [Bp.putsO, List.set_cons_zero, List.set_cons_succ, Act.put, List.setIfInBounds_toArray]) rfl rfl (by simp) ?_ ?_ ?_ ⟨?_, ?_, ?_, ?_, ?_, ?_, ?_, ?_, ?_, ?_, ?_, ?_, ?_, ?_, ?_, trivial⟩ ?_
    · intro j D hj v w w' hb hD
      match j, hj with
      | 0, hj => cases hj; exact hD
      | 1, hj => cases hj; exact hD
      | 2, hj => cases hj; exact hD
      | 3, hj => cases hj; exact hD
      | 4, hj => cases hj; exact hD
      | 5, hj => cases hj; exact hD.below hb
      | 6, hj => cases hj; exact hD
      | 7, hj => cases hj; exact hD
      | 8, hj => cases hj; exact hD
      | 9, hj => cases hj; exact hD
      | 10, hj => cases hj; exact hD
      | 11, hj => cases hj; exact hD.below hb
      | 12, hj => cases hj; exact hD.below hb
      | 13, hj => cases hj; exact hD
      | 14, hj => cases hj; exact hD
      | j + 15, hj => cases hj
    · intro j D hj v w g k u hc hD
      match j, hj with
      | 0, hj => cases hj; exact hD
      | 1, hj => cases hj; exact hD
      | 2, hj => cases hj; exact hD
      | 3, hj => cases hj; exact hD
      | 4, hj => cases hj; exact hD
      | 5, hj => cases hj; exact hD.set hc
      | 6, hj => cases hj; exact hD
      | 7, hj => cases hj; exact hD
      | 8, hj => cases hj; exact hD
      | 9, hj => cases hj; exact hD
      | 10, hj => cases hj; exact hD
      | 11, hj => cases hj; exact hD.set hc
      | 12, hj => cases hj; exact hD.set hc
      | 13, hj => cases hj; exact hD
      | 14, hj => cases hj; exact hD
      | j + 15, hj => cases hj
    · intro b hbm; simp only [List.mem_cons, List.not_mem_nil, or_false] at hbm
      obtain rfl := hbm
      · exact ⟨fun x y w w' hb h => by exact h.below hb, fun x y w g k u hc h => by exact h.set hc⟩
    · refine ⟨.plain, [], by decide, by simp, fun vs w hl hR hd K hK => ?_⟩
      obtain ⟨v0, vs, rfl, hl1⟩ := len_succ hl
      obtain ⟨v1, vs, rfl, hl2⟩ := len_succ hl1
      obtain ⟨v2, vs, rfl, hl3⟩ := len_succ hl2
      obtain ⟨v3, vs, rfl, hl4⟩ := len_succ hl3
      obtain ⟨v4, vs, rfl, hl5⟩ := len_succ hl4
      obtain ⟨v5, vs, rfl, hl6⟩ := len_succ hl5
      obtain ⟨v6, vs, rfl, hl7⟩ := len_succ hl6
      obtain ⟨v7, vs, rfl, hl8⟩ := len_succ hl7
      obtain ⟨v8, vs, rfl, hl9⟩ := len_succ hl8
      obtain ⟨v9, vs, rfl, hl10⟩ := len_succ hl9
      obtain ⟨v10, vs, rfl, hl11⟩ := len_succ hl10
      obtain ⟨v11, vs, rfl, hl12⟩ := len_succ hl11
      obtain ⟨v12, vs, rfl, hl13⟩ := len_succ hl12
      obtain ⟨v13, vs, rfl, hl14⟩ := len_succ hl13
      obtain ⟨v14, vs, rfl, hl15⟩ := len_succ hl14
      obtain rfl := len_zero hl15
      clear hd hl hl1 hl2 hl3 hl4 hl5 hl6 hl7 hl8 hl9 hl10 hl11 hl12 hl13 hl14 hl15
      replace hK := hK.out
      simp only [Bp.putsO, List.set_cons_zero, List.set_cons_succ, Act.put, List.setIfInBounds_toArray] at hK ⊢
      have hK' : Shut _ := hK
      clear hK
      go_simp
      (try go_wp2_with fail)
      exact hK'.out _ _ (Below.refl _ _) (fun D hD => by cases hD; rfl)
    · refine ⟨.plain, [], by decide, by simp, fun vs w hl hR hd K hK => ?_⟩
      obtain ⟨v0, vs, rfl, hl1⟩ := len_succ hl
      obtain ⟨v1, vs, rfl, hl2⟩ := len_succ hl1
      obtain ⟨v2, vs, rfl, hl3⟩ := len_succ hl2
      obtain ⟨v3, vs, rfl, hl4⟩ := len_succ hl3
      obtain ⟨v4, vs, rfl, hl5⟩ := len_succ hl4
      obtain ⟨v5, vs, rfl, hl6⟩ := len_succ hl5
      obtain ⟨v6, vs, rfl, hl7⟩ := len_succ hl6
      obtain ⟨v7, vs, rfl, hl8⟩ := len_succ hl7
      obtain ⟨v8, vs, rfl, hl9⟩ := len_succ hl8
      obtain ⟨v9, vs, rfl, hl10⟩ := len_succ hl9
      obtain ⟨v10, vs, rfl, hl11⟩ := len_succ hl10
      obtain ⟨v11, vs, rfl, hl12⟩ := len_succ hl11
      obtain ⟨v12, vs, rfl, hl13⟩ := len_succ hl12
      obtain ⟨v13, vs, rfl, hl14⟩ := len_succ hl13
      obtain ⟨v14, vs, rfl, hl15⟩ := len_succ hl14
      obtain rfl := len_zero hl15
      clear hd hl hl1 hl2 hl3 hl4 hl5 hl6 hl7 hl8 hl9 hl10 hl11 hl12 hl13 hl14 hl15
      replace hK := hK.out
      simp only [Bp.putsO, List.set_cons_zero, List.set_cons_succ, Act.put, List.setIfInBounds_toArray] at hK ⊢
      have hK' : Shut _ := hK
      clear hK
      go_simp
      (try go_wp2_with fail)
      exact hK'.out _ _ (Below.refl _ _) (fun D hD => by cases hD; rfl)
    · refine ⟨.plain, [1], by decide, by simp, fun vs w hl hR hd K hK => ?_⟩
      obtain ⟨v0, vs, rfl, hl1⟩ := len_succ hl
      obtain ⟨v1, vs, rfl, hl2⟩ := len_succ hl1
      obtain ⟨v2, vs, rfl, hl3⟩ := len_succ hl2
      obtain ⟨v3, vs, rfl, hl4⟩ := len_succ hl3
      obtain ⟨v4, vs, rfl, hl5⟩ := len_succ hl4
      obtain ⟨v5, vs, rfl, hl6⟩ := len_succ hl5
      obtain ⟨v6, vs, rfl, hl7⟩ := len_succ hl6
      obtain ⟨v7, vs, rfl, hl8⟩ := len_succ hl7
      obtain ⟨v8, vs, rfl, hl9⟩ := len_succ hl8
      obtain ⟨v9, vs, rfl, hl10⟩ := len_succ hl9
      obtain ⟨v10, vs, rfl, hl11⟩ := len_succ hl10
      obtain ⟨v11, vs, rfl, hl12⟩ := len_succ hl11
      obtain ⟨v12, vs, rfl, hl13⟩ := len_succ hl12
      obtain ⟨v13, vs, rfl, hl14⟩ := len_succ hl13
      obtain ⟨v14, vs, rfl, hl15⟩ := len_succ hl14
      obtain rfl := len_zero hl15
      have dd := hd 1 (by simp) _ rfl; simp only [List.getD_cons_zero, List.getD_cons_succ] at dd; obtain rfl := dd
      clear hd hl hl1 hl2 hl3 hl4 hl5 hl6 hl7 hl8 hl9 hl10 hl11 hl12 hl13 hl14 hl15
      replace hK := hK.out
      simp only [Bp.putsO, List.set_cons_zero, List.set_cons_succ, Act.put, List.setIfInBounds_toArray] at hK ⊢
      have hK' : Shut _ := hK
      clear hK
      go_simp
      (try go_wp2_with fail)
      exact hK'.out _ _ (Below.refl _ _) (fun D hD => by cases hD; rfl)
    · refine ⟨.plain, [2], by decide, by simp, fun vs w hl hR hd K hK => ?_⟩
      obtain ⟨v0, vs, rfl, hl1⟩ := len_succ hl
      obtain ⟨v1, vs, rfl, hl2⟩ := len_succ hl1
      obtain ⟨v2, vs, rfl, hl3⟩ := len_succ hl2
      obtain ⟨v3, vs, rfl, hl4⟩ := len_succ hl3
      obtain ⟨v4, vs, rfl, hl5⟩ := len_succ hl4
      obtain ⟨v5, vs, rfl, hl6⟩ := len_succ hl5
      obtain ⟨v6, vs, rfl, hl7⟩ := len_succ hl6
      obtain ⟨v7, vs, rfl, hl8⟩ := len_succ hl7
      obtain ⟨v8, vs, rfl, hl9⟩ := len_succ hl8
      obtain ⟨v9, vs, rfl, hl10⟩ := len_succ hl9
      obtain ⟨v10, vs, rfl, hl11⟩ := len_succ hl10
      obtain ⟨v11, vs, rfl, hl12⟩ := len_succ hl11
      obtain ⟨v12, vs, rfl, hl13⟩ := len_succ hl12
      obtain ⟨v13, vs, rfl, hl14⟩ := len_succ hl13
      obtain ⟨v14, vs, rfl, hl15⟩ := len_succ hl14
      obtain rfl := len_zero hl15
      have dd := hd 2 (by simp) _ rfl; simp only [List.getD_cons_zero, List.getD_cons_succ] at dd; obtain rfl := dd
      clear hd hl hl1 hl2 hl3 hl4 hl5 hl6 hl7 hl8 hl9 hl10 hl11 hl12 hl13 hl14 hl15
      replace hK := hK.out
      simp only [Bp.putsO, List.set_cons_zero, List.set_cons_succ, Act.put, List.setIfInBounds_toArray] at hK ⊢
      have hK' : Shut _ := hK
      clear hK
      go_simp
      (try go_wp2_with fail)
      exact hK'.out _ _ (Below.refl _ _) (fun D hD => by cases hD; (first | rfl | rw [HK.out]))
    · refine ⟨.plain, [0, 3], by decide, by simp, fun vs w hl hR hd K hK => ?_⟩
      obtain ⟨v0, vs, rfl, hl1⟩ := len_succ hl
      obtain ⟨v1, vs, rfl, hl2⟩ := len_succ hl1
      obtain ⟨v2, vs, rfl, hl3⟩ := len_succ hl2
      obtain ⟨v3, vs, rfl, hl4⟩ := len_succ hl3
      obtain ⟨v4, vs, rfl, hl5⟩ := len_succ hl4
      obtain ⟨v5, vs, rfl, hl6⟩ := len_succ hl5
      obtain ⟨v6, vs, rfl, hl7⟩ := len_succ hl6
      obtain ⟨v7, vs, rfl, hl8⟩ := len_succ hl7
      obtain ⟨v8, vs, rfl, hl9⟩ := len_succ hl8
      obtain ⟨v9, vs, rfl, hl10⟩ := len_succ hl9
      obtain ⟨v10, vs, rfl, hl11⟩ := len_succ hl10
      obtain ⟨v11, vs, rfl, hl12⟩ := len_succ hl11
      obtain ⟨v12, vs, rfl, hl13⟩ := len_succ hl12
      obtain ⟨v13, vs, rfl, hl14⟩ := len_succ hl13
      obtain ⟨v14, vs, rfl, hl15⟩ := len_succ hl14
      obtain rfl := len_zero hl15
      have dd := hd 0 (by simp) _ rfl; simp only [List.getD_cons_zero, List.getD_cons_succ] at dd; obtain rfl := dd
      have dd := hd 3 (by simp) _ rfl; simp only [List.getD_cons_zero, List.getD_cons_succ] at dd; obtain rfl := dd
      clear hd hl hl1 hl2 hl3 hl4 hl5 hl6 hl7 hl8 hl9 hl10 hl11 hl12 hl13 hl14 hl15
      replace hK := hK.out
      simp only [Bp.putsO, List.set_cons_zero, List.set_cons_succ, Act.put, List.setIfInBounds_toArray] at hK ⊢
      have hK' : Shut _ := hK
      clear hK
      go_simp
      (try go_wp2_with fail)
      exact hK'.out _ _ (Below.refl _ _) (fun D hD => by cases hD; rfl)
    · refine ⟨.plain, [4], by decide, by simp, fun vs w hl hR hd K hK => ?_⟩
      obtain ⟨v0, vs, rfl, hl1⟩ := len_succ hl
      obtain ⟨v1, vs, rfl, hl2⟩ := len_succ hl1
      obtain ⟨v2, vs, rfl, hl3⟩ := len_succ hl2
      obtain ⟨v3, vs, rfl, hl4⟩ := len_succ hl3
      obtain ⟨v4, vs, rfl, hl5⟩ := len_succ hl4
      obtain ⟨v5, vs, rfl, hl6⟩ := len_succ hl5
      obtain ⟨v6, vs, rfl, hl7⟩ := len_succ hl6
      obtain ⟨v7, vs, rfl, hl8⟩ := len_succ hl7
      obtain ⟨v8, vs, rfl, hl9⟩ := len_succ hl8
      obtain ⟨v9, vs, rfl, hl10⟩ := len_succ hl9
      obtain ⟨v10, vs, rfl, hl11⟩ := len_succ hl10
      obtain ⟨v11, vs, rfl, hl12⟩ := len_succ hl11
      obtain ⟨v12, vs, rfl, hl13⟩ := len_succ hl12
      obtain ⟨v13, vs, rfl, hl14⟩ := len_succ hl13
      obtain ⟨v14, vs, rfl, hl15⟩ := len_succ hl14
      obtain rfl := len_zero hl15
      have dd := hd 4 (by simp) _ rfl; simp only [List.getD_cons_zero, List.getD_cons_succ] at dd; obtain rfl := dd
      clear hd hl hl1 hl2 hl3 hl4 hl5 hl6 hl7 hl8 hl9 hl10 hl11 hl12 hl13 hl14 hl15
      replace hK := hK.out
      simp only [Bp.putsO, List.set_cons_zero, List.set_cons_succ, Act.put, List.setIfInBounds_toArray] at hK ⊢
      have hK' : Shut _ := hK
      clear hK
      go_simp
      go_at_call 30; (with_reducible refine (of_first _ _ _ _ A _ (HI.out.below (step_call HB0.out hR)) HKN.out EA).mono ?_); rintro e w2 ⟨a2, n2, c2, rfl, hs, hb⟩
      (try go_wp2_with fail)
      exact hK'.out _ _ (hb) (fun D hD => by cases hD; exact ⟨_, _, _, rfl, hs⟩)
    · refine ⟨.plain, [], by decide, by simp, fun vs w hl hR hd K hK => ?_⟩
      obtain ⟨v0, vs, rfl, hl1⟩ := len_succ hl
      obtain ⟨v1, vs, rfl, hl2⟩ := len_succ hl1
      obtain ⟨v2, vs, rfl, hl3⟩ := len_succ hl2
      obtain ⟨v3, vs, rfl, hl4⟩ := len_succ hl3
      obtain ⟨v4, vs, rfl, hl5⟩ := len_succ hl4
      obtain ⟨v5, vs, rfl, hl6⟩ := len_succ hl5
      obtain ⟨v6, vs, rfl, hl7⟩ := len_succ hl6
      obtain ⟨v7, vs, rfl, hl8⟩ := len_succ hl7
      obtain ⟨v8, vs, rfl, hl9⟩ := len_succ hl8
      obtain ⟨v9, vs, rfl, hl10⟩ := len_succ hl9
      obtain ⟨v10, vs, rfl, hl11⟩ := len_succ hl10
      obtain ⟨v11, vs, rfl, hl12⟩ := len_succ hl11
      obtain ⟨v12, vs, rfl, hl13⟩ := len_succ hl12
      obtain ⟨v13, vs, rfl, hl14⟩ := len_succ hl13
      obtain ⟨v14, vs, rfl, hl15⟩ := len_succ hl14
      obtain rfl := len_zero hl15
      clear hd hl hl1 hl2 hl3 hl4 hl5 hl6 hl7 hl8 hl9 hl10 hl11 hl12 hl13 hl14 hl15
      replace hK := hK.out
      simp only [Bp.putsO, List.set_cons_zero, List.set_cons_succ, Act.put, List.setIfInBounds_toArray] at hK ⊢
      have hK' : Shut _ := hK
      clear hK
      go_simp
      (try go_wp2_with fail)
      exact hK'.out _ _ (Below.refl _ _) (fun D hD => by cases hD; rfl)
    · refine ⟨.plain, [], by decide, by simp, fun vs w hl hR hd K hK => ?_⟩
      obtain ⟨v0, vs, rfl, hl1⟩ := len_succ hl
      obtain ⟨v1, vs, rfl, hl2⟩ := len_succ hl1
      obtain ⟨v2, vs, rfl, hl3⟩ := len_succ hl2
      obtain ⟨v3, vs, rfl, hl4⟩ := len_succ hl3
      obtain ⟨v4, vs, rfl, hl5⟩ := len_succ hl4
      obtain ⟨v5, vs, rfl, hl6⟩ := len_succ hl5
      obtain ⟨v6, vs, rfl, hl7⟩ := len_succ hl6
      obtain ⟨v7, vs, rfl, hl8⟩ := len_succ hl7
      obtain ⟨v8, vs, rfl, hl9⟩ := len_succ hl8
      obtain ⟨v9, vs, rfl, hl10⟩ := len_succ hl9
      obtain ⟨v10, vs, rfl, hl11⟩ := len_succ hl10
      obtain ⟨v11, vs, rfl, hl12⟩ := len_succ hl11
      obtain ⟨v12, vs, rfl, hl13⟩ := len_succ hl12
      obtain ⟨v13, vs, rfl, hl14⟩ := len_succ hl13
      obtain ⟨v14, vs, rfl, hl15⟩ := len_succ hl14
      obtain rfl := len_zero hl15
      clear hd hl hl1 hl2 hl3 hl4 hl5 hl6 hl7 hl8 hl9 hl10 hl11 hl12 hl13 hl14 hl15
      replace hK := hK.out
      simp only [Bp.putsO, List.set_cons_zero, List.set_cons_succ, Act.put, List.setIfInBounds_toArray] at hK ⊢
      have hK' : Shut _ := hK
      clear hK
      go_simp
      (try go_wp2_with fail)
      exact hK'.out _ _ (Below.refl _ _) (fun D hD => by cases hD; rfl)
    · refine ⟨.plain, [7], by decide, by simp, fun vs w hl hR hd K hK => ?_⟩
      obtain ⟨v0, vs, rfl, hl1⟩ := len_succ hl
      obtain ⟨v1, vs, rfl, hl2⟩ := len_succ hl1
      obtain ⟨v2, vs, rfl, hl3⟩ := len_succ hl2
      obtain ⟨v3, vs, rfl, hl4⟩ := len_succ hl3
      obtain ⟨v4, vs, rfl, hl5⟩ := len_succ hl4
      obtain ⟨v5, vs, rfl, hl6⟩ := len_succ hl5
      obtain ⟨v6, vs, rfl, hl7⟩ := len_succ hl6
      obtain ⟨v7, vs, rfl, hl8⟩ := len_succ hl7
      obtain ⟨v8, vs, rfl, hl9⟩ := len_succ hl8
      obtain ⟨v9, vs, rfl, hl10⟩ := len_succ hl9
      obtain ⟨v10, vs, rfl, hl11⟩ := len_succ hl10
      obtain ⟨v11, vs, rfl, hl12⟩ := len_succ hl11
      obtain ⟨v12, vs, rfl, hl13⟩ := len_succ hl12
      obtain ⟨v13, vs, rfl, hl14⟩ := len_succ hl13
      obtain ⟨v14, vs, rfl, hl15⟩ := len_succ hl14
      obtain rfl := len_zero hl15
      have dd := hd 7 (by simp) _ rfl; simp only [List.getD_cons_zero, List.getD_cons_succ] at dd; obtain rfl := dd
      clear hd hl hl1 hl2 hl3 hl4 hl5 hl6 hl7 hl8 hl9 hl10 hl11 hl12 hl13 hl14 hl15
      replace hK := hK.out
      simp only [Bp.putsO, List.set_cons_zero, List.set_cons_succ, Act.put, List.setIfInBounds_toArray] at hK ⊢
      have hK' : Shut _ := hK
      clear hK
      go_simp
      (try go_wp2_with fail)
      exact hK'.out _ _ (Below.refl _ _) (fun D hD => by cases hD; rfl)
    · refine ⟨.plain, [8], by decide, by simp, fun vs w hl hR hd K hK => ?_⟩
      obtain ⟨v0, vs, rfl, hl1⟩ := len_succ hl
      obtain ⟨v1, vs, rfl, hl2⟩ := len_succ hl1
      obtain ⟨v2, vs, rfl, hl3⟩ := len_succ hl2
      obtain ⟨v3, vs, rfl, hl4⟩ := len_succ hl3
      obtain ⟨v4, vs, rfl, hl5⟩ := len_succ hl4
      obtain ⟨v5, vs, rfl, hl6⟩ := len_succ hl5
      obtain ⟨v6, vs, rfl, hl7⟩ := len_succ hl6
      obtain ⟨v7, vs, rfl, hl8⟩ := len_succ hl7
      obtain ⟨v8, vs, rfl, hl9⟩ := len_succ hl8
      obtain ⟨v9, vs, rfl, hl10⟩ := len_succ hl9
      obtain ⟨v10, vs, rfl, hl11⟩ := len_succ hl10
      obtain ⟨v11, vs, rfl, hl12⟩ := len_succ hl11
      obtain ⟨v12, vs, rfl, hl13⟩ := len_succ hl12
      obtain ⟨v13, vs, rfl, hl14⟩ := len_succ hl13
      obtain ⟨v14, vs, rfl, hl15⟩ := len_succ hl14
      obtain rfl := len_zero hl15
      have dd := hd 8 (by simp) _ rfl; simp only [List.getD_cons_zero, List.getD_cons_succ] at dd; obtain rfl := dd
      clear hd hl hl1 hl2 hl3 hl4 hl5 hl6 hl7 hl8 hl9 hl10 hl11 hl12 hl13 hl14 hl15
      replace hK := hK.out
      simp only [Bp.putsO, List.set_cons_zero, List.set_cons_succ, Act.put, List.setIfInBounds_toArray] at hK ⊢
      have hK' : Shut _ := hK
      clear hK
      go_simp
      (try go_wp2_with fail)
      exact hK'.out _ _ (Below.refl _ _) (fun D hD => by cases hD; (first | rfl | rw [HJ.out]))
    · refine ⟨.plain, [6, 9], by decide, by simp, fun vs w hl hR hd K hK => ?_⟩
      obtain ⟨v0, vs, rfl, hl1⟩ := len_succ hl
      obtain ⟨v1, vs, rfl, hl2⟩ := len_succ hl1
      obtain ⟨v2, vs, rfl, hl3⟩ := len_succ hl2
      obtain ⟨v3, vs, rfl, hl4⟩ := len_succ hl3
      obtain ⟨v4, vs, rfl, hl5⟩ := len_succ hl4
      obtain ⟨v5, vs, rfl, hl6⟩ := len_succ hl5
      obtain ⟨v6, vs, rfl, hl7⟩ := len_succ hl6
      obtain ⟨v7, vs, rfl, hl8⟩ := len_succ hl7
      obtain ⟨v8, vs, rfl, hl9⟩ := len_succ hl8
      obtain ⟨v9, vs, rfl, hl10⟩ := len_succ hl9
      obtain ⟨v10, vs, rfl, hl11⟩ := len_succ hl10
      obtain ⟨v11, vs, rfl, hl12⟩ := len_succ hl11
      obtain ⟨v12, vs, rfl, hl13⟩ := len_succ hl12
      obtain ⟨v13, vs, rfl, hl14⟩ := len_succ hl13
      obtain ⟨v14, vs, rfl, hl15⟩ := len_succ hl14
      obtain rfl := len_zero hl15
      have dd := hd 6 (by simp) _ rfl; simp only [List.getD_cons_zero, List.getD_cons_succ] at dd; obtain rfl := dd
      have dd := hd 9 (by simp) _ rfl; simp only [List.getD_cons_zero, List.getD_cons_succ] at dd; obtain rfl := dd
      clear hd hl hl1 hl2 hl3 hl4 hl5 hl6 hl7 hl8 hl9 hl10 hl11 hl12 hl13 hl14 hl15
      replace hK := hK.out
      simp only [Bp.putsO, List.set_cons_zero, List.set_cons_succ, Act.put, List.setIfInBounds_toArray] at hK ⊢
      have hK' : Shut _ := hK
      clear hK
      go_simp
      (try go_wp2_with fail)
      exact hK'.out _ _ (Below.refl _ _) (fun D hD => by cases hD; rfl)
    · refine ⟨.plain, [10], by decide, by simp, fun vs w hl hR hd K hK => ?_⟩
      obtain ⟨v0, vs, rfl, hl1⟩ := len_succ hl
      obtain ⟨v1, vs, rfl, hl2⟩ := len_succ hl1
      obtain ⟨v2, vs, rfl, hl3⟩ := len_succ hl2
      obtain ⟨v3, vs, rfl, hl4⟩ := len_succ hl3
      obtain ⟨v4, vs, rfl, hl5⟩ := len_succ hl4
      obtain ⟨v5, vs, rfl, hl6⟩ := len_succ hl5
      obtain ⟨v6, vs, rfl, hl7⟩ := len_succ hl6
      obtain ⟨v7, vs, rfl, hl8⟩ := len_succ hl7
      obtain ⟨v8, vs, rfl, hl9⟩ := len_succ hl8
      obtain ⟨v9, vs, rfl, hl10⟩ := len_succ hl9
      obtain ⟨v10, vs, rfl, hl11⟩ := len_succ hl10
      obtain ⟨v11, vs, rfl, hl12⟩ := len_succ hl11
      obtain ⟨v12, vs, rfl, hl13⟩ := len_succ hl12
      obtain ⟨v13, vs, rfl, hl14⟩ := len_succ hl13
      obtain ⟨v14, vs, rfl, hl15⟩ := len_succ hl14
      obtain rfl := len_zero hl15
      have dd := hd 10 (by simp) _ rfl; simp only [List.getD_cons_zero, List.getD_cons_succ] at dd; obtain rfl := dd
      clear hd hl hl1 hl2 hl3 hl4 hl5 hl6 hl7 hl8 hl9 hl10 hl11 hl12 hl13 hl14 hl15
      replace hK := hK.out
      simp only [Bp.putsO, List.set_cons_zero, List.set_cons_succ, Act.put, List.setIfInBounds_toArray] at hK ⊢
      have hK' : Shut _ := hK
      clear hK
      go_simp
      go_at_call 30; (with_reducible refine (of_first _ _ _ _ B _ (HI2.out.below (step_call HB0.out hR)) HJN.out EB).mono ?_); rintro e w2 ⟨a2, n2, c2, rfl, hs, hb⟩
      (try go_wp2_with fail)
      exact hK'.out _ _ (hb) (fun D hD => by cases hD; exact ⟨_, _, _, rfl, hs⟩)
    · refine ⟨.plain, [5, 11], by decide, by simp, fun vs w hl hR hd K hK => ?_⟩
      obtain ⟨v0, vs, rfl, hl1⟩ := len_succ hl
      obtain ⟨v1, vs, rfl, hl2⟩ := len_succ hl1
      obtain ⟨v2, vs, rfl, hl3⟩ := len_succ hl2
      obtain ⟨v3, vs, rfl, hl4⟩ := len_succ hl3
      obtain ⟨v4, vs, rfl, hl5⟩ := len_succ hl4
      obtain ⟨v5, vs, rfl, hl6⟩ := len_succ hl5
      obtain ⟨v6, vs, rfl, hl7⟩ := len_succ hl6
      obtain ⟨v7, vs, rfl, hl8⟩ := len_succ hl7
      obtain ⟨v8, vs, rfl, hl9⟩ := len_succ hl8
      obtain ⟨v9, vs, rfl, hl10⟩ := len_succ hl9
      obtain ⟨v10, vs, rfl, hl11⟩ := len_succ hl10
      obtain ⟨v11, vs, rfl, hl12⟩ := len_succ hl11
      obtain ⟨v12, vs, rfl, hl13⟩ := len_succ hl12
      obtain ⟨v13, vs, rfl, hl14⟩ := len_succ hl13
      obtain ⟨v14, vs, rfl, hl15⟩ := len_succ hl14
      obtain rfl := len_zero hl15
      have dd := hd 5 (by simp) _ rfl; simp only [List.getD_cons_zero, List.getD_cons_succ] at dd; refine dd.elim ?_; clear dd; intro a1 n1 c1 e hs1; subst e
      have dd := hd 11 (by simp) _ rfl; simp only [List.getD_cons_zero, List.getD_cons_succ] at dd; refine dd.elim ?_; clear dd; intro a2 n2 c2 e hs2; subst e
      clear hd hl hl1 hl2 hl3 hl4 hl5 hl6 hl7 hl8 hl9 hl10 hl11 hl12 hl13 hl14 hl15
      replace hK := hK.out
      simp only [Bp.putsO, List.set_cons_zero, List.set_cons_succ, Act.put, List.setIfInBounds_toArray] at hK ⊢
      have hK' : Shut _ := hK
      clear hK
      go_simp
      (try go_wp2_with fail)
      exact hK'.out _ _ (Below.refl _ _) (fun D hD => by cases hD; exact ⟨_, _, _, _, _, _, rfl, hs1, hs2⟩)
    · refine ⟨.box ⟨13, 14, CvP (A, B)⟩, [], by decide, by simp, rfl, by simp, (fun D hD => by cases hD; exact fun _ _ => trivial), fun vs w hl K hK => ?_⟩
      obtain ⟨v0, vs, rfl, hl1⟩ := len_succ hl
      obtain ⟨v1, vs, rfl, hl2⟩ := len_succ hl1
      obtain ⟨v2, vs, rfl, hl3⟩ := len_succ hl2
      obtain ⟨v3, vs, rfl, hl4⟩ := len_succ hl3
      obtain ⟨v4, vs, rfl, hl5⟩ := len_succ hl4
      obtain ⟨v5, vs, rfl, hl6⟩ := len_succ hl5
      obtain ⟨v6, vs, rfl, hl7⟩ := len_succ hl6
      obtain ⟨v7, vs, rfl, hl8⟩ := len_succ hl7
      obtain ⟨v8, vs, rfl, hl9⟩ := len_succ hl8
      obtain ⟨v9, vs, rfl, hl10⟩ := len_succ hl9
      obtain ⟨v10, vs, rfl, hl11⟩ := len_succ hl10
      obtain ⟨v11, vs, rfl, hl12⟩ := len_succ hl11
      obtain ⟨v12, vs, rfl, hl13⟩ := len_succ hl12
      obtain ⟨v13, vs, rfl, hl14⟩ := len_succ hl13
      obtain ⟨v14, vs, rfl, hl15⟩ := len_succ hl14
      obtain rfl := len_zero hl15
      clear hl hl1 hl2 hl3 hl4 hl5 hl6 hl7 hl8 hl9 hl10 hl11 hl12 hl13 hl14 hl15
      replace hK := hK.out
      simp only [Bp.putsO, List.set_cons_zero, List.set_cons_succ, Act.put, List.setIfInBounds_toArray] at hK ⊢
      have hK' : Shut _ := hK
      clear hK
      go_simp
      (try go_wp2_with fail)
      exact hK'.out
    · refine ⟨.fill ⟨13, 14, CvP (A, B)⟩, [13, 12], by decide, by simp, rfl, by simp, by simp, by simp, by simp, (fun D hD => by cases hD; exact fun _ _ => trivial), fun vs w g hl hd hg c0 c1 f0 f1 K hK => ?_⟩
      obtain ⟨v0, vs, rfl, hl1⟩ := len_succ hl
      obtain ⟨v1, vs, rfl, hl2⟩ := len_succ hl1
      obtain ⟨v2, vs, rfl, hl3⟩ := len_succ hl2
      obtain ⟨v3, vs, rfl, hl4⟩ := len_succ hl3
      obtain ⟨v4, vs, rfl, hl5⟩ := len_succ hl4
      obtain ⟨v5, vs, rfl, hl6⟩ := len_succ hl5
      obtain ⟨v6, vs, rfl, hl7⟩ := len_succ hl6
      obtain ⟨v7, vs, rfl, hl8⟩ := len_succ hl7
      obtain ⟨v8, vs, rfl, hl9⟩ := len_succ hl8
      obtain ⟨v9, vs, rfl, hl10⟩ := len_succ hl9
      obtain ⟨v10, vs, rfl, hl11⟩ := len_succ hl10
      obtain ⟨v11, vs, rfl, hl12⟩ := len_succ hl11
      obtain ⟨v12, vs, rfl, hl13⟩ := len_succ hl12
      obtain ⟨v13, vs, rfl, hl14⟩ := len_succ hl13
      obtain ⟨v14, vs, rfl, hl15⟩ := len_succ hl14
      obtain rfl := len_zero hl15
      have dd := hd 12 (by simp) _ rfl; simp only [List.getD_cons_zero, List.getD_cons_succ] at dd; replace dd := dd.pick; have hq := Classical.choose_spec dd; generalize Classical.choose dd = t0 at hq; clear dd; have e := hq.1; have hc := hq.2; clear hq; subst e
      simp only [List.getD_cons_zero, List.getD_cons_succ] at hg
      obtain rfl := hg
      clear hd hl hl1 hl2 hl3 hl4 hl5 hl6 hl7 hl8 hl9 hl10 hl11 hl12 hl13 hl14 hl15
      replace hK := hK.out undef _ _ (⟨_, _, _, _, _, _, rfl, rfl, hc⟩)
      simp only [Bp.putsO, List.set_cons_zero, List.set_cons_succ, Act.put, List.setIfInBounds_toArray] at hK ⊢
      have hK' : Shut _ := hK
      clear hK
      go_simp
      (try go_wp2_with fail)
      exact hK'.out
    · intro vs w1 hl hR hd hbx hne
      obtain ⟨v0, vs, rfl, hl1⟩ := len_succ hl
      obtain ⟨v1, vs, rfl, hl2⟩ := len_succ hl1
      obtain ⟨v2, vs, rfl, hl3⟩ := len_succ hl2
      obtain ⟨v3, vs, rfl, hl4⟩ := len_succ hl3
      obtain ⟨v4, vs, rfl, hl5⟩ := len_succ hl4
      obtain ⟨v5, vs, rfl, hl6⟩ := len_succ hl5
      obtain ⟨v6, vs, rfl, hl7⟩ := len_succ hl6
      obtain ⟨v7, vs, rfl, hl8⟩ := len_succ hl7
      obtain ⟨v8, vs, rfl, hl9⟩ := len_succ hl8
      obtain ⟨v9, vs, rfl, hl10⟩ := len_succ hl9
      obtain ⟨v10, vs, rfl, hl11⟩ := len_succ hl10
      obtain ⟨v11, vs, rfl, hl12⟩ := len_succ hl11
      obtain ⟨v12, vs, rfl, hl13⟩ := len_succ hl12
      obtain ⟨v13, vs, rfl, hl14⟩ := len_succ hl13
      obtain ⟨v14, vs, rfl, hl15⟩ := len_succ hl14
      obtain rfl := len_zero hl15
      obtain ⟨g0, x0, y0, e0, hg0, hh0, hP0⟩ := hbx ⟨13, 14, CvP (A, B)⟩ (by simp) (by simp) (by simp)
      simp only [List.getD_cons_zero, List.getD_cons_succ] at e0
      obtain rfl := e0
      clear hd hbx hl hl1 hl2 hl3 hl4 hl5 hl6 hl7 hl8 hl9 hl10 hl11 hl12 hl13 hl14 hl15
      simp only [Bp.putsO, List.set_cons_zero, List.set_cons_succ, Act.put, List.setIfInBounds_toArray]
      have hA0 : At2T w1 g0 _ _ _ := hh0
      refine hP0.elim ?_
      clear hP0
      intro a n c b m d ex ey hc
      subst ex
      subst ey
      have hB := step_call HB0.out hR
      have q0 := hA0.at.1
      have q1 := hA0.at.2.1
      clear hh0 hg0 hne hR HB0
      by_cases hy : textC (parseL (s.extract 0 u).data.toList) = (s.extract 0 u).data.toList
      · obtain ⟨X, eX⟩ : ∃ X, parseL (s.extract 0 u).data.toList = X := ⟨_, rfl⟩
        rw [eX] at hy
        have HSP := Lib.hid eX
        have HST := Lib.hid hy
        have HXT : Hid (s.extract 0 u = ⟨(textC X).toArray⟩) := str_eq hy.symm
        clear hy eX
        go_wp2_with (first
          | (go_at_call 32; clear tk0; (with_reducible refine (textC_t _ _ _ _ _ _ (A, B) tt _ hc ET (HW.out.below hB)).mono ?_); rintro e w2 ⟨rfl, hb⟩; have hB := step_call hB hb; replace hc := hc.below hb; replace hA0 := hA0.below hb; clear hb; clear q0 q1; have q0 := hA0.at.1; have q1 := hA0.at.2.1; have tk1 : Hid True := trivial)
          | (go_at_call 31; clear tk1; (with_reducible refine (parse_yes tt (A, B) _ HTS.out HTP HTT (HW.out.below hB)).mono ?_); rintro e w3 ⟨a2, n2, c2, b2, m2, d2, rfl, hc2, hb⟩; have hB := step_call hB hb; replace hc := hc.below hb; replace hA0 := hA0.below hb; clear hb; have hbx := (Below.refl w3.heap.size w3).alloc (Nat.le_refl _) (.cells #[.slice a2 n2 c2, .slice b2 m2 d2] 34); have hA1 := At2T.new w3 (.slice a2 n2 c2) (.slice b2 m2 d2) 34; have hB := step_call hB hbx; have r0 := hA1.at.1; have r1 := hA1.at.2.1; replace hc := hc.below hbx; replace hc2 := hc2.below hbx; replace hA0 := hA0.below hbx; clear hbx; clear q0 q1; have q0 := hA0.at.1; have q1 := hA0.at.2.1; have tk2 : Hid True := trivial)
          | (go_at_call 29; clear tk2; (with_reducible refine (equalC_yes _ _ _ _ _ _ _ _ _ _ _ _ (A, B) _ hc hc2).mono ?_); rintro e w4 ⟨rfl, hb⟩; have hB := step_call hB hb; clear hb hc hc2 hA0 hA1 q0 q1 r0 r1; have tk3 : Hid True := trivial)
          | (go_at_call 31; clear tk3; (with_reducible refine (parse_yes (s.extract 0 u) X _ HSZ.out HSP HST (HW.out.below hB)).mono ?_); rintro e w5 ⟨a5, n5, c5, b5, m5, d5, rfl, hc5, hb⟩; have hB := step_call hB hb; clear hb; have hbx := (Below.refl w5.heap.size w5).alloc (Nat.le_refl _) (.cells #[.slice a5 n5 c5, .slice b5 m5 d5] 34); have hA5 := At2T.new w5 (.slice a5 n5 c5) (.slice b5 m5 d5) 34; have hB := step_call hB hbx; have q0 := hA5.at.1; have q1 := hA5.at.2.1; replace hc5 := hc5.below hbx; clear hbx; have tk4 : Hid True := trivial)
          | (go_at_call 32; clear tk4; (with_reducible refine (textC_t _ _ _ _ _ _ X (s.extract 0 u) _ hc5 HXT (HW.out.below hB)).mono ?_); rintro e w6 ⟨rfl, hb⟩; have hB := step_call hB hb; replace hA5 := hA5.below hb; clear hb hc5; clear q0 q1; have q0 := hA5.at.1; have q1 := hA5.at.2.1; have tk5 : Hid True := trivial))
        go_ret
        exact ⟨rfl, hB⟩
      · have HSN := Lib.hid hy
        clear hy
        go_wp2_with (first
          | (go_at_call 32; clear tk0; (with_reducible refine (textC_t _ _ _ _ _ _ (A, B) tt _ hc ET (HW.out.below hB)).mono ?_); rintro e w2 ⟨rfl, hb⟩; have hB := step_call hB hb; replace hc := hc.below hb; replace hA0 := hA0.below hb; clear hb; clear q0 q1; have q0 := hA0.at.1; have q1 := hA0.at.2.1; have tk1 : Hid True := trivial)
          | (go_at_call 31; clear tk1; (with_reducible refine (parse_yes tt (A, B) _ HTS.out HTP HTT (HW.out.below hB)).mono ?_); rintro e w3 ⟨a2, n2, c2, b2, m2, d2, rfl, hc2, hb⟩; have hB := step_call hB hb; replace hc := hc.below hb; replace hA0 := hA0.below hb; clear hb; have hbx := (Below.refl w3.heap.size w3).alloc (Nat.le_refl _) (.cells #[.slice a2 n2 c2, .slice b2 m2 d2] 34); have hA1 := At2T.new w3 (.slice a2 n2 c2) (.slice b2 m2 d2) 34; have hB := step_call hB hbx; have r0 := hA1.at.1; have r1 := hA1.at.2.1; replace hc := hc.below hbx; replace hc2 := hc2.below hbx; replace hA0 := hA0.below hbx; clear hbx; clear q0 q1; have q0 := hA0.at.1; have q1 := hA0.at.2.1; have tk2 : Hid True := trivial)
          | (go_at_call 29; clear tk2; (with_reducible refine (equalC_yes _ _ _ _ _ _ _ _ _ _ _ _ (A, B) _ hc hc2).mono ?_); rintro e w4 ⟨rfl, hb⟩; have hB := step_call hB hb; clear hb hc hc2 hA0 hA1 q0 q1 r0 r1; have tk3 : Hid True := trivial)
          | (go_at_call 31; clear tk3; (with_reducible refine (parse_no (s.extract 0 u) _ HSZ.out HSN (HW.out.below hB)).mono ?_); rintro e w5 ⟨rfl, hb⟩; have hB := step_call hB hb; clear hb; have hbx := (Below.refl w5.heap.size w5).alloc (Nat.le_refl _) (.cells #[.slice none 0 0, .slice none 0 0] 34); have hA5 := At2T.new w5 (.slice none 0 0) (.slice none 0 0) 34; have hB := step_call hB hbx; have q0 := hA5.at.1; have q1 := hA5.at.2.1; clear hbx; have tk4 : Hid True := trivial)
          | (go_at_call 29; clear tk4; (with_reducible refine (equalC_yes _ _ _ _ _ _ _ _ _ _ _ _ ([], []) _ (nil_cube _) (nil_cube _)).mono ?_); rintro e w6 ⟨rfl, hb⟩; have hB := step_call hB hb; replace hA5 := hA5.below hb; clear hb; clear q0 q1; have q0 := hA5.at.1; have q1 := hA5.at.2.1; have tk5 : Hid True := trivial))
        go_ret
        exact ⟨rfl, hB⟩
  · obtain rfl : j = 0 := by omega
    go_enter Tryz.func5, Tryz.ntmps5
    go_upto_region 3 with (go_at_call 15; (with_reducible refine (awake_any _ HW.out).mono ?_); rintro e w0 ⟨rfl, hb⟩; have HB0 := Lib.hid hb; clear hb)
    refine Bp.region_boxes 34 (.slice none 0 0) _ [⟨13, 14, CvP (A, B)⟩] [some 14, some 15, some 16, some 17, some 18, some 19, some 20, some 21, some 22, some 23, some 24, some 25, some 26, some 7, none]
      [fun v w => v = .slice (some ⟨x1, o1, none⟩) n cap,
       fun v w => v = .slice (some ⟨x1, o1, none⟩) n cap,
       fun v w => v = .int .i64 (n : Nat),
       fun v w => v = .int .i64 (k : Nat),
       fun v w => v = .slice (some ⟨x1, o1, none⟩) k cap,
       fun v w => StV w v A,
       fun v w => v = .slice none 0 0,
       fun v w => v = .slice none 0 0,
       fun v w => v = .int .i64 0,
       fun v w => v = .int .i64 0,
       fun v w => v = .slice none 0 0,
       fun v w => StV w v B,
       fun v w => CvV w v (A, B),
       fun _ _ => True,
       fun _ _ => True] (by kernel_rfl) (by kernel_rfl) rfl [undef, undef, undef, undef, undef, undef, undef, undef, undef, undef, undef, undef, undef, undef, undef] (by simp only [Bp.putsO, List.set_cons_zero, List.set_cons_succ, Act.put, List.setIfInBounds_toArray]) rfl rfl (by simp) ?_ ?_ ?_ ⟨?_, ?_, ?_, ?_, ?_, ?_, ?_, ?_, ?_, ?_, ?_, ?_, ?_, ?_, ?_, trivial⟩ ?_
    · intro j D hj v w w' hb hD
      match j, hj with
      | 0, hj => cases hj; exact hD
      | 1, hj => cases hj; exact hD
      | 2, hj => cases hj; exact hD
      | 3, hj => cases hj; exact hD
      | 4, hj => cases hj; exact hD
      | 5, hj => cases hj; exact hD.below hb
      | 6, hj => cases hj; exact hD
      | 7, hj => cases hj; exact hD
      | 8, hj => cases hj; exact hD
      | 9, hj => cases hj; exact hD
      | 10, hj => cases hj; exact hD
      | 11, hj => cases hj; exact hD.below hb
      | 12, hj => cases hj; exact hD.below hb
      | 13, hj => cases hj; exact hD
      | 14, hj => cases hj; exact hD
      | j + 15, hj => cases hj
    · intro j D hj v w g k u hc hD
      match j, hj with
      | 0, hj => cases hj; exact hD
      | 1, hj => cases hj; exact hD
      | 2, hj => cases hj; exact hD
      | 3, hj => cases hj; exact hD
      | 4, hj => cases hj; exact hD
      | 5, hj => cases hj; exact hD.set hc
      | 6, hj => cases hj; exact hD
      | 7, hj => cases hj; exact hD
      | 8, hj => cases hj; exact hD
      | 9, hj => cases hj; exact hD
      | 10, hj => cases hj; exact hD
      | 11, hj => cases hj; exact hD.set hc
      | 12, hj => cases hj; exact hD.set hc
      | 13, hj => cases hj; exact hD
      | 14, hj => cases hj; exact hD
      | j + 15, hj => cases hj
    · intro b hbm; simp only [List.mem_cons, List.not_mem_nil, or_false] at hbm
      obtain rfl := hbm
      · exact ⟨fun x y w w' hb h => by exact h.below hb, fun x y w g k u hc h => by exact h.set hc⟩
    · refine ⟨.plain, [], by decide, by simp, fun vs w hl hR hd K hK => ?_⟩
      obtain ⟨v0, vs, rfl, hl1⟩ := len_succ hl
      obtain ⟨v1, vs, rfl, hl2⟩ := len_succ hl1
      obtain ⟨v2, vs, rfl, hl3⟩ := len_succ hl2
      obtain ⟨v3, vs, rfl, hl4⟩ := len_succ hl3
      obtain ⟨v4, vs, rfl, hl5⟩ := len_succ hl4
      obtain ⟨v5, vs, rfl, hl6⟩ := len_succ hl5
      obtain ⟨v6, vs, rfl, hl7⟩ := len_succ hl6
      obtain ⟨v7, vs, rfl, hl8⟩ := len_succ hl7
      obtain ⟨v8, vs, rfl, hl9⟩ := len_succ hl8
      obtain ⟨v9, vs, rfl, hl10⟩ := len_succ hl9
      obtain ⟨v10, vs, rfl, hl11⟩ := len_succ hl10
      obtain ⟨v11, vs, rfl, hl12⟩ := len_succ hl11
      obtain ⟨v12, vs, rfl, hl13⟩ := len_succ hl12
      obtain ⟨v13, vs, rfl, hl14⟩ := len_succ hl13
      obtain ⟨v14, vs, rfl, hl15⟩ := len_succ hl14
      obtain rfl := len_zero hl15
      clear hd hl hl1 hl2 hl3 hl4 hl5 hl6 hl7 hl8 hl9 hl10 hl11 hl12 hl13 hl14 hl15
      replace hK := hK.out
      simp only [Bp.putsO, List.set_cons_zero, List.set_cons_succ, Act.put, List.setIfInBounds_toArray] at hK ⊢
      have hK' : Shut _ := hK
      clear hK
      go_simp
      (try go_wp2_with fail)
      exact hK'.out _ _ (Below.refl _ _) (fun D hD => by cases hD; rfl)
    · refine ⟨.plain, [], by decide, by simp, fun vs w hl hR hd K hK => ?_⟩
      obtain ⟨v0, vs, rfl, hl1⟩ := len_succ hl
      obtain ⟨v1, vs, rfl, hl2⟩ := len_succ hl1
      obtain ⟨v2, vs, rfl, hl3⟩ := len_succ hl2
      obtain ⟨v3, vs, rfl, hl4⟩ := len_succ hl3
      obtain ⟨v4, vs, rfl, hl5⟩ := len_succ hl4
      obtain ⟨v5, vs, rfl, hl6⟩ := len_succ hl5
      obtain ⟨v6, vs, rfl, hl7⟩ := len_succ hl6
      obtain ⟨v7, vs, rfl, hl8⟩ := len_succ hl7
      obtain ⟨v8, vs, rfl, hl9⟩ := len_succ hl8
      obtain ⟨v9, vs, rfl, hl10⟩ := len_succ hl9
      obtain ⟨v10, vs, rfl, hl11⟩ := len_succ hl10
      obtain ⟨v11, vs, rfl, hl12⟩ := len_succ hl11
      obtain ⟨v12, vs, rfl, hl13⟩ := len_succ hl12
      obtain ⟨v13, vs, rfl, hl14⟩ := len_succ hl13
      obtain ⟨v14, vs, rfl, hl15⟩ := len_succ hl14
      obtain rfl := len_zero hl15
      clear hd hl hl1 hl2 hl3 hl4 hl5 hl6 hl7 hl8 hl9 hl10 hl11 hl12 hl13 hl14 hl15
      replace hK := hK.out
      simp only [Bp.putsO, List.set_cons_zero, List.set_cons_succ, Act.put, List.setIfInBounds_toArray] at hK ⊢
      have hK' : Shut _ := hK
      clear hK
      go_simp
      (try go_wp2_with fail)
      exact hK'.out _ _ (Below.refl _ _) (fun D hD => by cases hD; rfl)
    · refine ⟨.plain, [1], by decide, by simp, fun vs w hl hR hd K hK => ?_⟩
      obtain ⟨v0, vs, rfl, hl1⟩ := len_succ hl
      obtain ⟨v1, vs, rfl, hl2⟩ := len_succ hl1
      obtain ⟨v2, vs, rfl, hl3⟩ := len_succ hl2
      obtain ⟨v3, vs, rfl, hl4⟩ := len_succ hl3
      obtain ⟨v4, vs, rfl, hl5⟩ := len_succ hl4
      obtain ⟨v5, vs, rfl, hl6⟩ := len_succ hl5
      obtain ⟨v6, vs, rfl, hl7⟩ := len_succ hl6
      obtain ⟨v7, vs, rfl, hl8⟩ := len_succ hl7
      obtain ⟨v8, vs, rfl, hl9⟩ := len_succ hl8
      obtain ⟨v9, vs, rfl, hl10⟩ := len_succ hl9
      obtain ⟨v10, vs, rfl, hl11⟩ := len_succ hl10
      obtain ⟨v11, vs, rfl, hl12⟩ := len_succ hl11
      obtain ⟨v12, vs, rfl, hl13⟩ := len_succ hl12
      obtain ⟨v13, vs, rfl, hl14⟩ := len_succ hl13
      obtain ⟨v14, vs, rfl, hl15⟩ := len_succ hl14
      obtain rfl := len_zero hl15
      have dd := hd 1 (by simp) _ rfl; simp only [List.getD_cons_zero, List.getD_cons_succ] at dd; obtain rfl := dd
      clear hd hl hl1 hl2 hl3 hl4 hl5 hl6 hl7 hl8 hl9 hl10 hl11 hl12 hl13 hl14 hl15
      replace hK := hK.out
      simp only [Bp.putsO, List.set_cons_zero, List.set_cons_succ, Act.put, List.setIfInBounds_toArray] at hK ⊢
      have hK' : Shut _ := hK
      clear hK
      go_simp
      (try go_wp2_with fail)
      exact hK'.out _ _ (Below.refl _ _) (fun D hD => by cases hD; rfl)
    · refine ⟨.plain, [2], by decide, by simp, fun vs w hl hR hd K hK => ?_⟩
      obtain ⟨v0, vs, rfl, hl1⟩ := len_succ hl
      obtain ⟨v1, vs, rfl, hl2⟩ := len_succ hl1
      obtain ⟨v2, vs, rfl, hl3⟩ := len_succ hl2
      obtain ⟨v3, vs, rfl, hl4⟩ := len_succ hl3
      obtain ⟨v4, vs, rfl, hl5⟩ := len_succ hl4
      obtain ⟨v5, vs, rfl, hl6⟩ := len_succ hl5
      obtain ⟨v6, vs, rfl, hl7⟩ := len_succ hl6
      obtain ⟨v7, vs, rfl, hl8⟩ := len_succ hl7
      obtain ⟨v8, vs, rfl, hl9⟩ := len_succ hl8
      obtain ⟨v9, vs, rfl, hl10⟩ := len_succ hl9
      obtain ⟨v10, vs, rfl, hl11⟩ := len_succ hl10
      obtain ⟨v11, vs, rfl, hl12⟩ := len_succ hl11
      obtain ⟨v12, vs, rfl, hl13⟩ := len_succ hl12
      obtain ⟨v13, vs, rfl, hl14⟩ := len_succ hl13
      obtain ⟨v14, vs, rfl, hl15⟩ := len_succ hl14
      obtain rfl := len_zero hl15
      have dd := hd 2 (by simp) _ rfl; simp only [List.getD_cons_zero, List.getD_cons_succ] at dd; obtain rfl := dd
      clear hd hl hl1 hl2 hl3 hl4 hl5 hl6 hl7 hl8 hl9 hl10 hl11 hl12 hl13 hl14 hl15
      replace hK := hK.out
      simp only [Bp.putsO, List.set_cons_zero, List.set_cons_succ, Act.put, List.setIfInBounds_toArray] at hK ⊢
      have hK' : Shut _ := hK
      clear hK
      go_simp
      (try go_wp2_with fail)
      exact hK'.out _ _ (Below.refl _ _) (fun D hD => by cases hD; (first | rfl | rw [HK.out]))
    · refine ⟨.plain, [0, 3], by decide, by simp, fun vs w hl hR hd K hK => ?_⟩
      obtain ⟨v0, vs, rfl, hl1⟩ := len_succ hl
      obtain ⟨v1, vs, rfl, hl2⟩ := len_succ hl1
      obtain ⟨v2, vs, rfl, hl3⟩ := len_succ hl2
      obtain ⟨v3, vs, rfl, hl4⟩ := len_succ hl3
      obtain ⟨v4, vs, rfl, hl5⟩ := len_succ hl4
      obtain ⟨v5, vs, rfl, hl6⟩ := len_succ hl5
      obtain ⟨v6, vs, rfl, hl7⟩ := len_succ hl6
      obtain ⟨v7, vs, rfl, hl8⟩ := len_succ hl7
      obtain ⟨v8, vs, rfl, hl9⟩ := len_succ hl8
      obtain ⟨v9, vs, rfl, hl10⟩ := len_succ hl9
      obtain ⟨v10, vs, rfl, hl11⟩ := len_succ hl10
      obtain ⟨v11, vs, rfl, hl12⟩ := len_succ hl11
      obtain ⟨v12, vs, rfl, hl13⟩ := len_succ hl12
      obtain ⟨v13, vs, rfl, hl14⟩ := len_succ hl13
      obtain ⟨v14, vs, rfl, hl15⟩ := len_succ hl14
      obtain rfl := len_zero hl15
      have dd := hd 0 (by simp) _ rfl; simp only [List.getD_cons_zero, List.getD_cons_succ] at dd; obtain rfl := dd
      have dd := hd 3 (by simp) _ rfl; simp only [List.getD_cons_zero, List.getD_cons_succ] at dd; obtain rfl := dd
      clear hd hl hl1 hl2 hl3 hl4 hl5 hl6 hl7 hl8 hl9 hl10 hl11 hl12 hl13 hl14 hl15
      replace hK := hK.out
      simp only [Bp.putsO, List.set_cons_zero, List.set_cons_succ, Act.put, List.setIfInBounds_toArray] at hK ⊢
      have hK' : Shut _ := hK
      clear hK
      go_simp
      (try go_wp2_with fail)
      exact hK'.out _ _ (Below.refl _ _) (fun D hD => by cases hD; rfl)
    · refine ⟨.plain, [4], by decide, by simp, fun vs w hl hR hd K hK => ?_⟩
      obtain ⟨v0, vs, rfl, hl1⟩ := len_succ hl
      obtain ⟨v1, vs, rfl, hl2⟩ := len_succ hl1
      obtain ⟨v2, vs, rfl, hl3⟩ := len_succ hl2
      obtain ⟨v3, vs, rfl, hl4⟩ := len_succ hl3
      obtain ⟨v4, vs, rfl, hl5⟩ := len_succ hl4
      obtain ⟨v5, vs, rfl, hl6⟩ := len_succ hl5
      obtain ⟨v6, vs, rfl, hl7⟩ := len_succ hl6
      obtain ⟨v7, vs, rfl, hl8⟩ := len_succ hl7
      obtain ⟨v8, vs, rfl, hl9⟩ := len_succ hl8
      obtain ⟨v9, vs, rfl, hl10⟩ := len_succ hl9
      obtain ⟨v10, vs, rfl, hl11⟩ := len_succ hl10
      obtain ⟨v11, vs, rfl, hl12⟩ := len_succ hl11
      obtain ⟨v12, vs, rfl, hl13⟩ := len_succ hl12
      obtain ⟨v13, vs, rfl, hl14⟩ := len_succ hl13
      obtain ⟨v14, vs, rfl, hl15⟩ := len_succ hl14
      obtain rfl := len_zero hl15
      have dd := hd 4 (by simp) _ rfl; simp only [List.getD_cons_zero, List.getD_cons_succ] at dd; obtain rfl := dd
      clear hd hl hl1 hl2 hl3 hl4 hl5 hl6 hl7 hl8 hl9 hl10 hl11 hl12 hl13 hl14 hl15
      replace hK := hK.out
      simp only [Bp.putsO, List.set_cons_zero, List.set_cons_succ, Act.put, List.setIfInBounds_toArray] at hK ⊢
      have hK' : Shut _ := hK
      clear hK
      go_simp
      go_at_call 30; (with_reducible refine (of_first _ _ _ _ A _ (HI.out.below (step_call HB0.out hR)) HKN.out EA).mono ?_); rintro e w2 ⟨a2, n2, c2, rfl, hs, hb⟩
      (try go_wp2_with fail)
      exact hK'.out _ _ (hb) (fun D hD => by cases hD; exact ⟨_, _, _, rfl, hs⟩)
    · refine ⟨.plain, [], by decide, by simp, fun vs w hl hR hd K hK => ?_⟩
      obtain ⟨v0, vs, rfl, hl1⟩ := len_succ hl
      obtain ⟨v1, vs, rfl, hl2⟩ := len_succ hl1
      obtain ⟨v2, vs, rfl, hl3⟩ := len_succ hl2
      obtain ⟨v3, vs, rfl, hl4⟩ := len_succ hl3
      obtain ⟨v4, vs, rfl, hl5⟩ := len_succ hl4
      obtain ⟨v5, vs, rfl, hl6⟩ := len_succ hl5
      obtain ⟨v6, vs, rfl, hl7⟩ := len_succ hl6
      obtain ⟨v7, vs, rfl, hl8⟩ := len_succ hl7
      obtain ⟨v8, vs, rfl, hl9⟩ := len_succ hl8
      obtain ⟨v9, vs, rfl, hl10⟩ := len_succ hl9
      obtain ⟨v10, vs, rfl, hl11⟩ := len_succ hl10
      obtain ⟨v11, vs, rfl, hl12⟩ := len_succ hl11
      obtain ⟨v12, vs, rfl, hl13⟩ := len_succ hl12
      obtain ⟨v13, vs, rfl, hl14⟩ := len_succ hl13
      obtain ⟨v14, vs, rfl, hl15⟩ := len_succ hl14
      obtain rfl := len_zero hl15
      clear hd hl hl1 hl2 hl3 hl4 hl5 hl6 hl7 hl8 hl9 hl10 hl11 hl12 hl13 hl14 hl15
      replace hK := hK.out
      simp only [Bp.putsO, List.set_cons_zero, List.set_cons_succ, Act.put, List.setIfInBounds_toArray] at hK ⊢
      have hK' : Shut _ := hK
      clear hK
      go_simp
      (try go_wp2_with fail)
      exact hK'.out _ _ (Below.refl _ _) (fun D hD => by cases hD; rfl)
    · refine ⟨.plain, [], by decide, by simp, fun vs w hl hR hd K hK => ?_⟩
      obtain ⟨v0, vs, rfl, hl1⟩ := len_succ hl
      obtain ⟨v1, vs, rfl, hl2⟩ := len_succ hl1
      obtain ⟨v2, vs, rfl, hl3⟩ := len_succ hl2
      obtain ⟨v3, vs, rfl, hl4⟩ := len_succ hl3
      obtain ⟨v4, vs, rfl, hl5⟩ := len_succ hl4
      obtain ⟨v5, vs, rfl, hl6⟩ := len_succ hl5
      obtain ⟨v6, vs, rfl, hl7⟩ := len_succ hl6
      obtain ⟨v7, vs, rfl, hl8⟩ := len_succ hl7
      obtain ⟨v8, vs, rfl, hl9⟩ := len_succ hl8
      obtain ⟨v9, vs, rfl, hl10⟩ := len_succ hl9
      obtain ⟨v10, vs, rfl, hl11⟩ := len_succ hl10
      obtain ⟨v11, vs, rfl, hl12⟩ := len_succ hl11
      obtain ⟨v12, vs, rfl, hl13⟩ := len_succ hl12
      obtain ⟨v13, vs, rfl, hl14⟩ := len_succ hl13
      obtain ⟨v14, vs, rfl, hl15⟩ := len_succ hl14
      obtain rfl := len_zero hl15
      clear hd hl hl1 hl2 hl3 hl4 hl5 hl6 hl7 hl8 hl9 hl10 hl11 hl12 hl13 hl14 hl15
      replace hK := hK.out
      simp only [Bp.putsO, List.set_cons_zero, List.set_cons_succ, Act.put, List.setIfInBounds_toArray] at hK ⊢
      have hK' : Shut _ := hK
      clear hK
      go_simp
      (try go_wp2_with fail)
      exact hK'.out _ _ (Below.refl _ _) (fun D hD => by cases hD; rfl)
    · refine ⟨.plain, [7], by decide, by simp, fun vs w hl hR hd K hK => ?_⟩
      obtain ⟨v0, vs, rfl, hl1⟩ := len_succ hl
      obtain ⟨v1, vs, rfl, hl2⟩ := len_succ hl1
      obtain ⟨v2, vs, rfl, hl3⟩ := len_succ hl2
      obtain ⟨v3, vs, rfl, hl4⟩ := len_succ hl3
      obtain ⟨v4, vs, rfl, hl5⟩ := len_succ hl4
      obtain ⟨v5, vs, rfl, hl6⟩ := len_succ hl5
      obtain ⟨v6, vs, rfl, hl7⟩ := len_succ hl6
      obtain ⟨v7, vs, rfl, hl8⟩ := len_succ hl7
      obtain ⟨v8, vs, rfl, hl9⟩ := len_succ hl8
      obtain ⟨v9, vs, rfl, hl10⟩ := len_succ hl9
      obtain ⟨v10, vs, rfl, hl11⟩ := len_succ hl10
      obtain ⟨v11, vs, rfl, hl12⟩ := len_succ hl11
      obtain ⟨v12, vs, rfl, hl13⟩ := len_succ hl12
      obtain ⟨v13, vs, rfl, hl14⟩ := len_succ hl13
      obtain ⟨v14, vs, rfl, hl15⟩ := len_succ hl14
      obtain rfl := len_zero hl15
      have dd := hd 7 (by simp) _ rfl; simp only [List.getD_cons_zero, List.getD_cons_succ] at dd; obtain rfl := dd
      clear hd hl hl1 hl2 hl3 hl4 hl5 hl6 hl7 hl8 hl9 hl10 hl11 hl12 hl13 hl14 hl15
      replace hK := hK.out
      simp only [Bp.putsO, List.set_cons_zero, List.set_cons_succ, Act.put, List.setIfInBounds_toArray] at hK ⊢
      have hK' : Shut _ := hK
      clear hK
      go_simp
      (try go_wp2_with fail)
      exact hK'.out _ _ (Below.refl _ _) (fun D hD => by cases hD; rfl)
    · refine ⟨.plain, [8], by decide, by simp, fun vs w hl hR hd K hK => ?_⟩
      obtain ⟨v0, vs, rfl, hl1⟩ := len_succ hl
      obtain ⟨v1, vs, rfl, hl2⟩ := len_succ hl1
      obtain ⟨v2, vs, rfl, hl3⟩ := len_succ hl2
      obtain ⟨v3, vs, rfl, hl4⟩ := len_succ hl3
      obtain ⟨v4, vs, rfl, hl5⟩ := len_succ hl4
      obtain ⟨v5, vs, rfl, hl6⟩ := len_succ hl5
      obtain ⟨v6, vs, rfl, hl7⟩ := len_succ hl6
      obtain ⟨v7, vs, rfl, hl8⟩ := len_succ hl7
      obtain ⟨v8, vs, rfl, hl9⟩ := len_succ hl8
      obtain ⟨v9, vs, rfl, hl10⟩ := len_succ hl9
      obtain ⟨v10, vs, rfl, hl11⟩ := len_succ hl10
      obtain ⟨v11, vs, rfl, hl12⟩ := len_succ hl11
      obtain ⟨v12, vs, rfl, hl13⟩ := len_succ hl12
      obtain ⟨v13, vs, rfl, hl14⟩ := len_succ hl13
      obtain ⟨v14, vs, rfl, hl15⟩ := len_succ hl14
      obtain rfl := len_zero hl15
      have dd := hd 8 (by simp) _ rfl; simp only [List.getD_cons_zero, List.getD_cons_succ] at dd; obtain rfl := dd
      clear hd hl hl1 hl2 hl3 hl4 hl5 hl6 hl7 hl8 hl9 hl10 hl11 hl12 hl13 hl14 hl15
      replace hK := hK.out
      simp only [Bp.putsO, List.set_cons_zero, List.set_cons_succ, Act.put, List.setIfInBounds_toArray] at hK ⊢
      have hK' : Shut _ := hK
      clear hK
      go_simp
      (try go_wp2_with fail)
      exact hK'.out _ _ (Below.refl _ _) (fun D hD => by cases hD; (first | rfl | rw [HJ.out]))
    · refine ⟨.plain, [6, 9], by decide, by simp, fun vs w hl hR hd K hK => ?_⟩
      obtain ⟨v0, vs, rfl, hl1⟩ := len_succ hl
      obtain ⟨v1, vs, rfl, hl2⟩ := len_succ hl1
      obtain ⟨v2, vs, rfl, hl3⟩ := len_succ hl2
      obtain ⟨v3, vs, rfl, hl4⟩ := len_succ hl3
      obtain ⟨v4, vs, rfl, hl5⟩ := len_succ hl4
      obtain ⟨v5, vs, rfl, hl6⟩ := len_succ hl5
      obtain ⟨v6, vs, rfl, hl7⟩ := len_succ hl6
      obtain ⟨v7, vs, rfl, hl8⟩ := len_succ hl7
      obtain ⟨v8, vs, rfl, hl9⟩ := len_succ hl8
      obtain ⟨v9, vs, rfl, hl10⟩ := len_succ hl9
      obtain ⟨v10, vs, rfl, hl11⟩ := len_succ hl10
      obtain ⟨v11, vs, rfl, hl12⟩ := len_succ hl11
      obtain ⟨v12, vs, rfl, hl13⟩ := len_succ hl12
      obtain ⟨v13, vs, rfl, hl14⟩ := len_succ hl13
      obtain ⟨v14, vs, rfl, hl15⟩ := len_succ hl14
      obtain rfl := len_zero hl15
      have dd := hd 6 (by simp) _ rfl; simp only [List.getD_cons_zero, List.getD_cons_succ] at dd; obtain rfl := dd
      have dd := hd 9 (by simp) _ rfl; simp only [List.getD_cons_zero, List.getD_cons_succ] at dd; obtain rfl := dd
      clear hd hl hl1 hl2 hl3 hl4 hl5 hl6 hl7 hl8 hl9 hl10 hl11 hl12 hl13 hl14 hl15
      replace hK := hK.out
      simp only [Bp.putsO, List.set_cons_zero, List.set_cons_succ, Act.put, List.setIfInBounds_toArray] at hK ⊢
      have hK' : Shut _ := hK
      clear hK
      go_simp
      (try go_wp2_with fail)
      exact hK'.out _ _ (Below.refl _ _) (fun D hD => by cases hD; rfl)
    · refine ⟨.plain, [10], by decide, by simp, fun vs w hl hR hd K hK => ?_⟩
      obtain ⟨v0, vs, rfl, hl1⟩ := len_succ hl
      obtain ⟨v1, vs, rfl, hl2⟩ := len_succ hl1
      obtain ⟨v2, vs, rfl, hl3⟩ := len_succ hl2
      obtain ⟨v3, vs, rfl, hl4⟩ := len_succ hl3
      obtain ⟨v4, vs, rfl, hl5⟩ := len_succ hl4
      obtain ⟨v5, vs, rfl, hl6⟩ := len_succ hl5
      obtain ⟨v6, vs, rfl, hl7⟩ := len_succ hl6
      obtain ⟨v7, vs, rfl, hl8⟩ := len_succ hl7
      obtain ⟨v8, vs, rfl, hl9⟩ := len_succ hl8
      obtain ⟨v9, vs, rfl, hl10⟩ := len_succ hl9
      obtain ⟨v10, vs, rfl, hl11⟩ := len_succ hl10
      obtain ⟨v11, vs, rfl, hl12⟩ := len_succ hl11
      obtain ⟨v12, vs, rfl, hl13⟩ := len_succ hl12
      obtain ⟨v13, vs, rfl, hl14⟩ := len_succ hl13
      obtain ⟨v14, vs, rfl, hl15⟩ := len_succ hl14
      obtain rfl := len_zero hl15
      have dd := hd 10 (by simp) _ rfl; simp only [List.getD_cons_zero, List.getD_cons_succ] at dd; obtain rfl := dd
      clear hd hl hl1 hl2 hl3 hl4 hl5 hl6 hl7 hl8 hl9 hl10 hl11 hl12 hl13 hl14 hl15
      replace hK := hK.out
      simp only [Bp.putsO, List.set_cons_zero, List.set_cons_succ, Act.put, List.setIfInBounds_toArray] at hK ⊢
      have hK' : Shut _ := hK
      clear hK
      go_simp
      go_at_call 30; (with_reducible refine (of_first _ _ _ _ B _ (HI2.out.below (step_call HB0.out hR)) HJN.out EB).mono ?_); rintro e w2 ⟨a2, n2, c2, rfl, hs, hb⟩
      (try go_wp2_with fail)
      exact hK'.out _ _ (hb) (fun D hD => by cases hD; exact ⟨_, _, _, rfl, hs⟩)
    · refine ⟨.plain, [5, 11], by decide, by simp, fun vs w hl hR hd K hK => ?_⟩
      obtain ⟨v0, vs, rfl, hl1⟩ := len_succ hl
      obtain ⟨v1, vs, rfl, hl2⟩ := len_succ hl1
      obtain ⟨v2, vs, rfl, hl3⟩ := len_succ hl2
      obtain ⟨v3, vs, rfl, hl4⟩ := len_succ hl3
      obtain ⟨v4, vs, rfl, hl5⟩ := len_succ hl4
      obtain ⟨v5, vs, rfl, hl6⟩ := len_succ hl5
      obtain ⟨v6, vs, rfl, hl7⟩ := len_succ hl6
      obtain ⟨v7, vs, rfl, hl8⟩ := len_succ hl7
      obtain ⟨v8, vs, rfl, hl9⟩ := len_succ hl8
      obtain ⟨v9, vs, rfl, hl10⟩ := len_succ hl9
      obtain ⟨v10, vs, rfl, hl11⟩ := len_succ hl10
      obtain ⟨v11, vs, rfl, hl12⟩ := len_succ hl11
      obtain ⟨v12, vs, rfl, hl13⟩ := len_succ hl12
      obtain ⟨v13, vs, rfl, hl14⟩ := len_succ hl13
      obtain ⟨v14, vs, rfl, hl15⟩ := len_succ hl14
      obtain rfl := len_zero hl15
      have dd := hd 5 (by simp) _ rfl; simp only [List.getD_cons_zero, List.getD_cons_succ] at dd; refine dd.elim ?_; clear dd; intro a1 n1 c1 e hs1; subst e
      have dd := hd 11 (by simp) _ rfl; simp only [List.getD_cons_zero, List.getD_cons_succ] at dd; refine dd.elim ?_; clear dd; intro a2 n2 c2 e hs2; subst e
      clear hd hl hl1 hl2 hl3 hl4 hl5 hl6 hl7 hl8 hl9 hl10 hl11 hl12 hl13 hl14 hl15
      replace hK := hK.out
      simp only [Bp.putsO, List.set_cons_zero, List.set_cons_succ, Act.put, List.setIfInBounds_toArray] at hK ⊢
      have hK' : Shut _ := hK
      clear hK
      go_simp
      (try go_wp2_with fail)
      exact hK'.out _ _ (Below.refl _ _) (fun D hD => by cases hD; exact ⟨_, _, _, _, _, _, rfl, hs1, hs2⟩)
    · refine ⟨.box ⟨13, 14, CvP (A, B)⟩, [], by decide, by simp, rfl, by simp, (fun D hD => by cases hD; exact fun _ _ => trivial), fun vs w hl K hK => ?_⟩
      obtain ⟨v0, vs, rfl, hl1⟩ := len_succ hl
      obtain ⟨v1, vs, rfl, hl2⟩ := len_succ hl1
      obtain ⟨v2, vs, rfl, hl3⟩ := len_succ hl2
      obtain ⟨v3, vs, rfl, hl4⟩ := len_succ hl3
      obtain ⟨v4, vs, rfl, hl5⟩ := len_succ hl4
      obtain ⟨v5, vs, rfl, hl6⟩ := len_succ hl5
      obtain ⟨v6, vs, rfl, hl7⟩ := len_succ hl6
      obtain ⟨v7, vs, rfl, hl8⟩ := len_succ hl7
      obtain ⟨v8, vs, rfl, hl9⟩ := len_succ hl8
      obtain ⟨v9, vs, rfl, hl10⟩ := len_succ hl9
      obtain ⟨v10, vs, rfl, hl11⟩ := len_succ hl10
      obtain ⟨v11, vs, rfl, hl12⟩ := len_succ hl11
      obtain ⟨v12, vs, rfl, hl13⟩ := len_succ hl12
      obtain ⟨v13, vs, rfl, hl14⟩ := len_succ hl13
      obtain ⟨v14, vs, rfl, hl15⟩ := len_succ hl14
      obtain rfl := len_zero hl15
      clear hl hl1 hl2 hl3 hl4 hl5 hl6 hl7 hl8 hl9 hl10 hl11 hl12 hl13 hl14 hl15
      replace hK := hK.out
      simp only [Bp.putsO, List.set_cons_zero, List.set_cons_succ, Act.put, List.setIfInBounds_toArray] at hK ⊢
      have hK' : Shut _ := hK
      clear hK
      go_simp
      (try go_wp2_with fail)
      exact hK'.out
    · refine ⟨.fill ⟨13, 14, CvP (A, B)⟩, [13, 12], by decide, by simp, rfl, by simp, by simp, by simp, by simp, (fun D hD => by cases hD; exact fun _ _ => trivial), fun vs w g hl hd hg c0 c1 f0 f1 K hK => ?_⟩
      obtain ⟨v0, vs, rfl, hl1⟩ := len_succ hl
      obtain ⟨v1, vs, rfl, hl2⟩ := len_succ hl1
      obtain ⟨v2, vs, rfl, hl3⟩ := len_succ hl2
      obtain ⟨v3, vs, rfl, hl4⟩ := len_succ hl3
      obtain ⟨v4, vs, rfl, hl5⟩ := len_succ hl4
      obtain ⟨v5, vs, rfl, hl6⟩ := len_succ hl5
      obtain ⟨v6, vs, rfl, hl7⟩ := len_succ hl6
      obtain ⟨v7, vs, rfl, hl8⟩ := len_succ hl7
      obtain ⟨v8, vs, rfl, hl9⟩ := len_succ hl8
      obtain ⟨v9, vs, rfl, hl10⟩ := len_succ hl9
      obtain ⟨v10, vs, rfl, hl11⟩ := len_succ hl10
      obtain ⟨v11, vs, rfl, hl12⟩ := len_succ hl11
      obtain ⟨v12, vs, rfl, hl13⟩ := len_succ hl12
      obtain ⟨v13, vs, rfl, hl14⟩ := len_succ hl13
      obtain ⟨v14, vs, rfl, hl15⟩ := len_succ hl14
      obtain rfl := len_zero hl15
      have dd := hd 12 (by simp) _ rfl; simp only [List.getD_cons_zero, List.getD_cons_succ] at dd; replace dd := dd.pick; have hq := Classical.choose_spec dd; generalize Classical.choose dd = t0 at hq; clear dd; have e := hq.1; have hc := hq.2; clear hq; subst e
      simp only [List.getD_cons_zero, List.getD_cons_succ] at hg
      obtain rfl := hg
      clear hd hl hl1 hl2 hl3 hl4 hl5 hl6 hl7 hl8 hl9 hl10 hl11 hl12 hl13 hl14 hl15
      replace hK := hK.out undef _ _ (⟨_, _, _, _, _, _, rfl, rfl, hc⟩)
      simp only [Bp.putsO, List.set_cons_zero, List.set_cons_succ, Act.put, List.setIfInBounds_toArray] at hK ⊢
      have hK' : Shut _ := hK
      clear hK
      go_simp
      (try go_wp2_with fail)
      exact hK'.out
    · intro vs w1 hl hR hd hbx hne
      obtain ⟨v0, vs, rfl, hl1⟩ := len_succ hl
      obtain ⟨v1, vs, rfl, hl2⟩ := len_succ hl1
      obtain ⟨v2, vs, rfl, hl3⟩ := len_succ hl2
      obtain ⟨v3, vs, rfl, hl4⟩ := len_succ hl3
      obtain ⟨v4, vs, rfl, hl5⟩ := len_succ hl4
      obtain ⟨v5, vs, rfl, hl6⟩ := len_succ hl5
      obtain ⟨v6, vs, rfl, hl7⟩ := len_succ hl6
      obtain ⟨v7, vs, rfl, hl8⟩ := len_succ hl7
      obtain ⟨v8, vs, rfl, hl9⟩ := len_succ hl8
      obtain ⟨v9, vs, rfl, hl10⟩ := len_succ hl9
      obtain ⟨v10, vs, rfl, hl11⟩ := len_succ hl10
      obtain ⟨v11, vs, rfl, hl12⟩ := len_succ hl11
      obtain ⟨v12, vs, rfl, hl13⟩ := len_succ hl12
      obtain ⟨v13, vs, rfl, hl14⟩ := len_succ hl13
      obtain ⟨v14, vs, rfl, hl15⟩ := len_succ hl14
      obtain rfl := len_zero hl15
      obtain ⟨g0, x0, y0, e0, hg0, hh0, hP0⟩ := hbx ⟨13, 14, CvP (A, B)⟩ (by simp) (by simp) (by simp)
      simp only [List.getD_cons_zero, List.getD_cons_succ] at e0
      obtain rfl := e0
      clear hd hbx hl hl1 hl2 hl3 hl4 hl5 hl6 hl7 hl8 hl9 hl10 hl11 hl12 hl13 hl14 hl15
      simp only [Bp.putsO, List.set_cons_zero, List.set_cons_succ, Act.put, List.setIfInBounds_toArray]
      have hA0 : At2T w1 g0 _ _ _ := hh0
      refine hP0.elim ?_
      clear hP0
      intro a n c b m d ex ey hc
      subst ex
      subst ey
      have hB := step_call HB0.out hR
      have q0 := hA0.at.1
      have q1 := hA0.at.2.1
      clear hh0 hg0 hne hR HB0
      by_cases hy : textC (parseL (s.extract 0 u).data.toList) = (s.extract 0 u).data.toList
      · obtain ⟨X, eX⟩ : ∃ X, parseL (s.extract 0 u).data.toList = X := ⟨_, rfl⟩
        rw [eX] at hy
        have HSP := Lib.hid eX
        have HST := Lib.hid hy
        have HXT : Hid (s.extract 0 u = ⟨(textC X).toArray⟩) := str_eq hy.symm
        clear hy eX
        go_wp2_with (first
          | (go_at_call 32; clear tk0; (with_reducible refine (textC_t _ _ _ _ _ _ (A, B) tt _ hc ET (HW.out.below hB)).mono ?_); rintro e w2 ⟨rfl, hb⟩; have hB := step_call hB hb; replace hc := hc.below hb; replace hA0 := hA0.below hb; clear hb; clear q0 q1; have q0 := hA0.at.1; have q1 := hA0.at.2.1; have tk1 : Hid True := trivial)
          | (go_at_call 31; clear tk1; (with_reducible refine (parse_yes tt (A, B) _ HTS.out HTP HTT (HW.out.below hB)).mono ?_); rintro e w3 ⟨a2, n2, c2, b2, m2, d2, rfl, hc2, hb⟩; have hB := step_call hB hb; replace hc := hc.below hb; replace hA0 := hA0.below hb; clear hb; have hbx := (Below.refl w3.heap.size w3).alloc (Nat.le_refl _) (.cells #[.slice a2 n2 c2, .slice b2 m2 d2] 34); have hA1 := At2T.new w3 (.slice a2 n2 c2) (.slice b2 m2 d2) 34; have hB := step_call hB hbx; have r0 := hA1.at.1; have r1 := hA1.at.2.1; replace hc := hc.below hbx; replace hc2 := hc2.below hbx; replace hA0 := hA0.below hbx; clear hbx; clear q0 q1; have q0 := hA0.at.1; have q1 := hA0.at.2.1; have tk2 : Hid True := trivial)
          | (go_at_call 29; clear tk2; (with_reducible refine (equalC_yes _ _ _ _ _ _ _ _ _ _ _ _ (A, B) _ hc hc2).mono ?_); rintro e w4 ⟨rfl, hb⟩; have hB := step_call hB hb; clear hb hc hc2 hA0 hA1 q0 q1 r0 r1; have tk3 : Hid True := trivial)
          | (go_at_call 31; clear tk3; (with_reducible refine (parse_yes (s.extract 0 u) X _ HSZ.out HSP HST (HW.out.below hB)).mono ?_); rintro e w5 ⟨a5, n5, c5, b5, m5, d5, rfl, hc5, hb⟩; have hB := step_call hB hb; clear hb; have hbx := (Below.refl w5.heap.size w5).alloc (Nat.le_refl _) (.cells #[.slice a5 n5 c5, .slice b5 m5 d5] 34); have hA5 := At2T.new w5 (.slice a5 n5 c5) (.slice b5 m5 d5) 34; have hB := step_call hB hbx; have q0 := hA5.at.1; have q1 := hA5.at.2.1; replace hc5 := hc5.below hbx; clear hbx; have tk4 : Hid True := trivial)
          | (go_at_call 32; clear tk4; (with_reducible refine (textC_t _ _ _ _ _ _ X (s.extract 0 u) _ hc5 HXT (HW.out.below hB)).mono ?_); rintro e w6 ⟨rfl, hb⟩; have hB := step_call hB hb; replace hA5 := hA5.below hb; clear hb hc5; clear q0 q1; have q0 := hA5.at.1; have q1 := hA5.at.2.1; have tk5 : Hid True := trivial))
        go_ret
        exact ⟨rfl, hB⟩
      · have HSN := Lib.hid hy
        clear hy
        go_wp2_with (first
          | (go_at_call 32; clear tk0; (with_reducible refine (textC_t _ _ _ _ _ _ (A, B) tt _ hc ET (HW.out.below hB)).mono ?_); rintro e w2 ⟨rfl, hb⟩; have hB := step_call hB hb; replace hc := hc.below hb; replace hA0 := hA0.below hb; clear hb; clear q0 q1; have q0 := hA0.at.1; have q1 := hA0.at.2.1; have tk1 : Hid True := trivial)
          | (go_at_call 31; clear tk1; (with_reducible refine (parse_yes tt (A, B) _ HTS.out HTP HTT (HW.out.below hB)).mono ?_); rintro e w3 ⟨a2, n2, c2, b2, m2, d2, rfl, hc2, hb⟩; have hB := step_call hB hb; replace hc := hc.below hb; replace hA0 := hA0.below hb; clear hb; have hbx := (Below.refl w3.heap.size w3).alloc (Nat.le_refl _) (.cells #[.slice a2 n2 c2, .slice b2 m2 d2] 34); have hA1 := At2T.new w3 (.slice a2 n2 c2) (.slice b2 m2 d2) 34; have hB := step_call hB hbx; have r0 := hA1.at.1; have r1 := hA1.at.2.1; replace hc := hc.below hbx; replace hc2 := hc2.below hbx; replace hA0 := hA0.below hbx; clear hbx; clear q0 q1; have q0 := hA0.at.1; have q1 := hA0.at.2.1; have tk2 : Hid True := trivial)
          | (go_at_call 29; clear tk2; (with_reducible refine (equalC_yes _ _ _ _ _ _ _ _ _ _ _ _ (A, B) _ hc hc2).mono ?_); rintro e w4 ⟨rfl, hb⟩; have hB := step_call hB hb; clear hb hc hc2 hA0 hA1 q0 q1 r0 r1; have tk3 : Hid True := trivial)
          | (go_at_call 31; clear tk3; (with_reducible refine (parse_no (s.extract 0 u) _ HSZ.out HSN (HW.out.below hB)).mono ?_); rintro e w5 ⟨rfl, hb⟩; have hB := step_call hB hb; clear hb; have hbx := (Below.refl w5.heap.size w5).alloc (Nat.le_refl _) (.cells #[.slice none 0 0, .slice none 0 0] 34); have hA5 := At2T.new w5 (.slice none 0 0) (.slice none 0 0) 34; have hB := step_call hB hbx; have q0 := hA5.at.1; have q1 := hA5.at.2.1; clear hbx; have tk4 : Hid True := trivial)
          | (go_at_call 29; clear tk4; (with_reducible refine (equalC_yes _ _ _ _ _ _ _ _ _ _ _ _ ([], []) _ (nil_cube _) (nil_cube _)).mono ?_); rintro e w6 ⟨rfl, hb⟩; have hB := step_call hB hb; replace hA5 := hA5.below hb; clear hb; clear q0 q1; have q0 := hA5.at.1; have q1 := hA5.at.2.1; have tk5 : Hid True := trivial))
        go_ret
        exact ⟨rfl, hB⟩
  · go_enter Tryz.func5, Tryz.ntmps5
    go_upto_region 3 with (go_at_call 15; (with_reducible refine (awake_any _ HW.out).mono ?_); rintro e w0 ⟨rfl, hb⟩; have HB0 := Lib.hid hb; clear hb)
    refine Bp.region_boxes 34 (.slice none 0 0) _ [⟨13, 14, CvP (A, B)⟩] [some 14, some 15, some 16, some 17, some 18, some 19, some 20, some 21, some 22, some 23, some 24, some 25, some 26, some 7, none]
      [fun v w => v = .slice (some ⟨x1, o1, none⟩) n cap,
       fun v w => v = .slice (some ⟨x1, o1, none⟩) n cap,
       fun v w => v = .int .i64 (n : Nat),
       fun v w => v = .int .i64 (k : Nat),
       fun v w => v = .slice (some ⟨x1, o1, none⟩) k cap,
       fun v w => StV w v A,
       fun v w => v = .slice (some ⟨x2, o2, none⟩) m dap,
       fun v w => v = .slice (some ⟨x2, o2, none⟩) m dap,
       fun v w => v = .int .i64 (m : Nat),
       fun v w => v = .int .i64 (j : Nat),
       fun v w => v = .slice (some ⟨x2, o2, none⟩) j dap,
       fun v w => StV w v B,
       fun v w => CvV w v (A, B),
       fun _ _ => True,
       fun _ _ => True] (by kernel_rfl) (by kernel_rfl) rfl [undef, undef, undef, undef, undef, undef, undef, undef, undef, undef, undef, undef, undef, undef, undef] (by simp only [Bp.putsO, List.set_cons_zero, List.set_cons_succ, Act.put, List.setIfInBounds_toArray]) rfl rfl (by simp) ?_ ?_ ?_ ⟨?_, ?_, ?_, ?_, ?_, ?_, ?_, ?_, ?_, ?_, ?_, ?_, ?_, ?_, ?_, trivial⟩ ?_
    · intro j D hj v w w' hb hD
      match j, hj with
      | 0, hj => cases hj; exact hD
      | 1, hj => cases hj; exact hD
      | 2, hj => cases hj; exact hD
      | 3, hj => cases hj; exact hD
      | 4, hj => cases hj; exact hD
      | 5, hj => cases hj; exact hD.below hb
      | 6, hj => cases hj; exact hD
      | 7, hj => cases hj; exact hD
      | 8, hj => cases hj; exact hD
      | 9, hj => cases hj; exact hD
      | 10, hj => cases hj; exact hD
      | 11, hj => cases hj; exact hD.below hb
      | 12, hj => cases hj; exact hD.below hb
      | 13, hj => cases hj; exact hD
      | 14, hj => cases hj; exact hD
      | j + 15, hj => cases hj
    · intro j D hj v w g k u hc hD
      match j, hj with
      | 0, hj => cases hj; exact hD
      | 1, hj => cases hj; exact hD
      | 2, hj => cases hj; exact hD
      | 3, hj => cases hj; exact hD
      | 4, hj => cases hj; exact hD
      | 5, hj => cases hj; exact hD.set hc
      | 6, hj => cases hj; exact hD
      | 7, hj => cases hj; exact hD
      | 8, hj => cases hj; exact hD
      | 9, hj => cases hj; exact hD
      | 10, hj => cases hj; exact hD
      | 11, hj => cases hj; exact hD.set hc
      | 12, hj => cases hj; exact hD.set hc
      | 13, hj => cases hj; exact hD
      | 14, hj => cases hj; exact hD
      | j + 15, hj => cases hj
    · intro b hbm; simp only [List.mem_cons, List.not_mem_nil, or_false] at hbm
      obtain rfl := hbm
      · exact ⟨fun x y w w' hb h => by exact h.below hb, fun x y w g k u hc h => by exact h.set hc⟩
    · refine ⟨.plain, [], by decide, by simp, fun vs w hl hR hd K hK => ?_⟩
      obtain ⟨v0, vs, rfl, hl1⟩ := len_succ hl
      obtain ⟨v1, vs, rfl, hl2⟩ := len_succ hl1
      obtain ⟨v2, vs, rfl, hl3⟩ := len_succ hl2
      obtain ⟨v3, vs, rfl, hl4⟩ := len_succ hl3
      obtain ⟨v4, vs, rfl, hl5⟩ := len_succ hl4
      obtain ⟨v5, vs, rfl, hl6⟩ := len_succ hl5
      obtain ⟨v6, vs, rfl, hl7⟩ := len_succ hl6
      obtain ⟨v7, vs, rfl, hl8⟩ := len_succ hl7
      obtain ⟨v8, vs, rfl, hl9⟩ := len_succ hl8
      obtain ⟨v9, vs, rfl, hl10⟩ := len_succ hl9
      obtain ⟨v10, vs, rfl, hl11⟩ := len_succ hl10
      obtain ⟨v11, vs, rfl, hl12⟩ := len_succ hl11
      obtain ⟨v12, vs, rfl, hl13⟩ := len_succ hl12
      obtain ⟨v13, vs, rfl, hl14⟩ := len_succ hl13
      obtain ⟨v14, vs, rfl, hl15⟩ := len_succ hl14
      obtain rfl := len_zero hl15
      clear hd hl hl1 hl2 hl3 hl4 hl5 hl6 hl7 hl8 hl9 hl10 hl11 hl12 hl13 hl14 hl15
      replace hK := hK.out
      simp only [Bp.putsO, List.set_cons_zero, List.set_cons_succ, Act.put, List.setIfInBounds_toArray] at hK ⊢
      have hK' : Shut _ := hK
      clear hK
      go_simp
      (try go_wp2_with fail)
      exact hK'.out _ _ (Below.refl _ _) (fun D hD => by cases hD; rfl)
    · refine ⟨.plain, [], by decide, by simp, fun vs w hl hR hd K hK => ?_⟩
      obtain ⟨v0, vs, rfl, hl1⟩ := len_succ hl
      obtain ⟨v1, vs, rfl, hl2⟩ := len_succ hl1
      obtain ⟨v2, vs, rfl, hl3⟩ := len_succ hl2
      obtain ⟨v3, vs, rfl, hl4⟩ := len_succ hl3
      obtain ⟨v4, vs, rfl, hl5⟩ := len_succ hl4
      obtain ⟨v5, vs, rfl, hl6⟩ := len_succ hl5
      obtain ⟨v6, vs, rfl, hl7⟩ := len_succ hl6
      obtain ⟨v7, vs, rfl, hl8⟩ := len_succ hl7
      obtain ⟨v8, vs, rfl, hl9⟩ := len_succ hl8
      obtain ⟨v9, vs, rfl, hl10⟩ := len_succ hl9
      obtain ⟨v10, vs, rfl, hl11⟩ := len_succ hl10
      obtain ⟨v11, vs, rfl, hl12⟩ := len_succ hl11
      obtain ⟨v12, vs, rfl, hl13⟩ := len_succ hl12
      obtain ⟨v13, vs, rfl, hl14⟩ := len_succ hl13
      obtain ⟨v14, vs, rfl, hl15⟩ := len_succ hl14
      obtain rfl := len_zero hl15
      clear hd hl hl1 hl2 hl3 hl4 hl5 hl6 hl7 hl8 hl9 hl10 hl11 hl12 hl13 hl14 hl15
      replace hK := hK.out
      simp only [Bp.putsO, List.set_cons_zero, List.set_cons_succ, Act.put, List.setIfInBounds_toArray] at hK ⊢
      have hK' : Shut _ := hK
      clear hK
      go_simp
      (try go_wp2_with fail)
      exact hK'.out _ _ (Below.refl _ _) (fun D hD => by cases hD; rfl)
    · refine ⟨.plain, [1], by decide, by simp, fun vs w hl hR hd K hK => ?_⟩
      obtain ⟨v0, vs, rfl, hl1⟩ := len_succ hl
      obtain ⟨v1, vs, rfl, hl2⟩ := len_succ hl1
      obtain ⟨v2, vs, rfl, hl3⟩ := len_succ hl2
      obtain ⟨v3, vs, rfl, hl4⟩ := len_succ hl3
      obtain ⟨v4, vs, rfl, hl5⟩ := len_succ hl4
      obtain ⟨v5, vs, rfl, hl6⟩ := len_succ hl5
      obtain ⟨v6, vs, rfl, hl7⟩ := len_succ hl6
      obtain ⟨v7, vs, rfl, hl8⟩ := len_succ hl7
      obtain ⟨v8, vs, rfl, hl9⟩ := len_succ hl8
      obtain ⟨v9, vs, rfl, hl10⟩ := len_succ hl9
      obtain ⟨v10, vs, rfl, hl11⟩ := len_succ hl10
      obtain ⟨v11, vs, rfl, hl12⟩ := len_succ hl11
      obtain ⟨v12, vs, rfl, hl13⟩ := len_succ hl12
      obtain ⟨v13, vs, rfl, hl14⟩ := len_succ hl13
      obtain ⟨v14, vs, rfl, hl15⟩ := len_succ hl14
      obtain rfl := len_zero hl15
      have dd := hd 1 (by simp) _ rfl; simp only [List.getD_cons_zero, List.getD_cons_succ] at dd; obtain rfl := dd
      clear hd hl hl1 hl2 hl3 hl4 hl5 hl6 hl7 hl8 hl9 hl10 hl11 hl12 hl13 hl14 hl15
      replace hK := hK.out
      simp only [Bp.putsO, List.set_cons_zero, List.set_cons_succ, Act.put, List.setIfInBounds_toArray] at hK ⊢
      have hK' : Shut _ := hK
      clear hK
      go_simp
      (try go_wp2_with fail)
      exact hK'.out _ _ (Below.refl _ _) (fun D hD => by cases hD; rfl)
    · refine ⟨.plain, [2], by decide, by simp, fun vs w hl hR hd K hK => ?_⟩
      obtain ⟨v0, vs, rfl, hl1⟩ := len_succ hl
      obtain ⟨v1, vs, rfl, hl2⟩ := len_succ hl1
      obtain ⟨v2, vs, rfl, hl3⟩ := len_succ hl2
      obtain ⟨v3, vs, rfl, hl4⟩ := len_succ hl3
      obtain ⟨v4, vs, rfl, hl5⟩ := len_succ hl4
      obtain ⟨v5, vs, rfl, hl6⟩ := len_succ hl5
      obtain ⟨v6, vs, rfl, hl7⟩ := len_succ hl6
      obtain ⟨v7, vs, rfl, hl8⟩ := len_succ hl7
      obtain ⟨v8, vs, rfl, hl9⟩ := len_succ hl8
      obtain ⟨v9, vs, rfl, hl10⟩ := len_succ hl9
      obtain ⟨v10, vs, rfl, hl11⟩ := len_succ hl10
      obtain ⟨v11, vs, rfl, hl12⟩ := len_succ hl11
      obtain ⟨v12, vs, rfl, hl13⟩ := len_succ hl12
      obtain ⟨v13, vs, rfl, hl14⟩ := len_succ hl13
      obtain ⟨v14, vs, rfl, hl15⟩ := len_succ hl14
      obtain rfl := len_zero hl15
      have dd := hd 2 (by simp) _ rfl; simp only [List.getD_cons_zero, List.getD_cons_succ] at dd; obtain rfl := dd
      clear hd hl hl1 hl2 hl3 hl4 hl5 hl6 hl7 hl8 hl9 hl10 hl11 hl12 hl13 hl14 hl15
      replace hK := hK.out
      simp only [Bp.putsO, List.set_cons_zero, List.set_cons_succ, Act.put, List.setIfInBounds_toArray] at hK ⊢
      have hK' : Shut _ := hK
      clear hK
      go_simp
      (try go_wp2_with fail)
      exact hK'.out _ _ (Below.refl _ _) (fun D hD => by cases hD; (first | rfl | rw [HK.out]))
    · refine ⟨.plain, [0, 3], by decide, by simp, fun vs w hl hR hd K hK => ?_⟩
      obtain ⟨v0, vs, rfl, hl1⟩ := len_succ hl
      obtain ⟨v1, vs, rfl, hl2⟩ := len_succ hl1
      obtain ⟨v2, vs, rfl, hl3⟩ := len_succ hl2
      obtain ⟨v3, vs, rfl, hl4⟩ := len_succ hl3
      obtain ⟨v4, vs, rfl, hl5⟩ := len_succ hl4
      obtain ⟨v5, vs, rfl, hl6⟩ := len_succ hl5
      obtain ⟨v6, vs, rfl, hl7⟩ := len_succ hl6
      obtain ⟨v7, vs, rfl, hl8⟩ := len_succ hl7
      obtain ⟨v8, vs, rfl, hl9⟩ := len_succ hl8
      obtain ⟨v9, vs, rfl, hl10⟩ := len_succ hl9
      obtain ⟨v10, vs, rfl, hl11⟩ := len_succ hl10
      obtain ⟨v11, vs, rfl, hl12⟩ := len_succ hl11
      obtain ⟨v12, vs, rfl, hl13⟩ := len_succ hl12
      obtain ⟨v13, vs, rfl, hl14⟩ := len_succ hl13
      obtain ⟨v14, vs, rfl, hl15⟩ := len_succ hl14
      obtain rfl := len_zero hl15
      have dd := hd 0 (by simp) _ rfl; simp only [List.getD_cons_zero, List.getD_cons_succ] at dd; obtain rfl := dd
      have dd := hd 3 (by simp) _ rfl; simp only [List.getD_cons_zero, List.getD_cons_succ] at dd; obtain rfl := dd
      clear hd hl hl1 hl2 hl3 hl4 hl5 hl6 hl7 hl8 hl9 hl10 hl11 hl12 hl13 hl14 hl15
      replace hK := hK.out
      simp only [Bp.putsO, List.set_cons_zero, List.set_cons_succ, Act.put, List.setIfInBounds_toArray] at hK ⊢
      have hK' : Shut _ := hK
      clear hK
      go_simp
      (try go_wp2_with fail)
      exact hK'.out _ _ (Below.refl _ _) (fun D hD => by cases hD; rfl)
    · refine ⟨.plain, [4], by decide, by simp, fun vs w hl hR hd K hK => ?_⟩
      obtain ⟨v0, vs, rfl, hl1⟩ := len_succ hl
      obtain ⟨v1, vs, rfl, hl2⟩ := len_succ hl1
      obtain ⟨v2, vs, rfl, hl3⟩ := len_succ hl2
      obtain ⟨v3, vs, rfl, hl4⟩ := len_succ hl3
      obtain ⟨v4, vs, rfl, hl5⟩ := len_succ hl4
      obtain ⟨v5, vs, rfl, hl6⟩ := len_succ hl5
      obtain ⟨v6, vs, rfl, hl7⟩ := len_succ hl6
      obtain ⟨v7, vs, rfl, hl8⟩ := len_succ hl7
      obtain ⟨v8, vs, rfl, hl9⟩ := len_succ hl8
      obtain ⟨v9, vs, rfl, hl10⟩ := len_succ hl9
      obtain ⟨v10, vs, rfl, hl11⟩ := len_succ hl10
      obtain ⟨v11, vs, rfl, hl12⟩ := len_succ hl11
      obtain ⟨v12, vs, rfl, hl13⟩ := len_succ hl12
      obtain ⟨v13, vs, rfl, hl14⟩ := len_succ hl13
      obtain ⟨v14, vs, rfl, hl15⟩ := len_succ hl14
      obtain rfl := len_zero hl15
      have dd := hd 4 (by simp) _ rfl; simp only [List.getD_cons_zero, List.getD_cons_succ] at dd; obtain rfl := dd
      clear hd hl hl1 hl2 hl3 hl4 hl5 hl6 hl7 hl8 hl9 hl10 hl11 hl12 hl13 hl14 hl15
      replace hK := hK.out
      simp only [Bp.putsO, List.set_cons_zero, List.set_cons_succ, Act.put, List.setIfInBounds_toArray] at hK ⊢
      have hK' : Shut _ := hK
      clear hK
      go_simp
      go_at_call 30; (with_reducible refine (of_first _ _ _ _ A _ (HI.out.below (step_call HB0.out hR)) HKN.out EA).mono ?_); rintro e w2 ⟨a2, n2, c2, rfl, hs, hb⟩
      (try go_wp2_with fail)
      exact hK'.out _ _ (hb) (fun D hD => by cases hD; exact ⟨_, _, _, rfl, hs⟩)
    · refine ⟨.plain, [], by decide, by simp, fun vs w hl hR hd K hK => ?_⟩
      obtain ⟨v0, vs, rfl, hl1⟩ := len_succ hl
      obtain ⟨v1, vs, rfl, hl2⟩ := len_succ hl1
      obtain ⟨v2, vs, rfl, hl3⟩ := len_succ hl2
      obtain ⟨v3, vs, rfl, hl4⟩ := len_succ hl3
      obtain ⟨v4, vs, rfl, hl5⟩ := len_succ hl4
      obtain ⟨v5, vs, rfl, hl6⟩ := len_succ hl5
      obtain ⟨v6, vs, rfl, hl7⟩ := len_succ hl6
      obtain ⟨v7, vs, rfl, hl8⟩ := len_succ hl7
      obtain ⟨v8, vs, rfl, hl9⟩ := len_succ hl8
      obtain ⟨v9, vs, rfl, hl10⟩ := len_succ hl9
      obtain ⟨v10, vs, rfl, hl11⟩ := len_succ hl10
      obtain ⟨v11, vs, rfl, hl12⟩ := len_succ hl11
      obtain ⟨v12, vs, rfl, hl13⟩ := len_succ hl12
      obtain ⟨v13, vs, rfl, hl14⟩ := len_succ hl13
      obtain ⟨v14, vs, rfl, hl15⟩ := len_succ hl14
      obtain rfl := len_zero hl15
      clear hd hl hl1 hl2 hl3 hl4 hl5 hl6 hl7 hl8 hl9 hl10 hl11 hl12 hl13 hl14 hl15
      replace hK := hK.out
      simp only [Bp.putsO, List.set_cons_zero, List.set_cons_succ, Act.put, List.setIfInBounds_toArray] at hK ⊢
      have hK' : Shut _ := hK
      clear hK
      go_simp
      (try go_wp2_with fail)
      exact hK'.out _ _ (Below.refl _ _) (fun D hD => by cases hD; rfl)
    · refine ⟨.plain, [], by decide, by simp, fun vs w hl hR hd K hK => ?_⟩
      obtain ⟨v0, vs, rfl, hl1⟩ := len_succ hl
      obtain ⟨v1, vs, rfl, hl2⟩ := len_succ hl1
      obtain ⟨v2, vs, rfl, hl3⟩ := len_succ hl2
      obtain ⟨v3, vs, rfl, hl4⟩ := len_succ hl3
      obtain ⟨v4, vs, rfl, hl5⟩ := len_succ hl4
      obtain ⟨v5, vs, rfl, hl6⟩ := len_succ hl5
      obtain ⟨v6, vs, rfl, hl7⟩ := len_succ hl6
      obtain ⟨v7, vs, rfl, hl8⟩ := len_succ hl7
      obtain ⟨v8, vs, rfl, hl9⟩ := len_succ hl8
      obtain ⟨v9, vs, rfl, hl10⟩ := len_succ hl9
      obtain ⟨v10, vs, rfl, hl11⟩ := len_succ hl10
      obtain ⟨v11, vs, rfl, hl12⟩ := len_succ hl11
      obtain ⟨v12, vs, rfl, hl13⟩ := len_succ hl12
      obtain ⟨v13, vs, rfl, hl14⟩ := len_succ hl13
      obtain ⟨v14, vs, rfl, hl15⟩ := len_succ hl14
      obtain rfl := len_zero hl15
      clear hd hl hl1 hl2 hl3 hl4 hl5 hl6 hl7 hl8 hl9 hl10 hl11 hl12 hl13 hl14 hl15
      replace hK := hK.out
      simp only [Bp.putsO, List.set_cons_zero, List.set_cons_succ, Act.put, List.setIfInBounds_toArray] at hK ⊢
      have hK' : Shut _ := hK
      clear hK
      go_simp
      (try go_wp2_with fail)
      exact hK'.out _ _ (Below.refl _ _) (fun D hD => by cases hD; rfl)
    · refine ⟨.plain, [7], by decide, by simp, fun vs w hl hR hd K hK => ?_⟩
      obtain ⟨v0, vs, rfl, hl1⟩ := len_succ hl
      obtain ⟨v1, vs, rfl, hl2⟩ := len_succ hl1
      obtain ⟨v2, vs, rfl, hl3⟩ := len_succ hl2
      obtain ⟨v3, vs, rfl, hl4⟩ := len_succ hl3
      obtain ⟨v4, vs, rfl, hl5⟩ := len_succ hl4
      obtain ⟨v5, vs, rfl, hl6⟩ := len_succ hl5
      obtain ⟨v6, vs, rfl, hl7⟩ := len_succ hl6
      obtain ⟨v7, vs, rfl, hl8⟩ := len_succ hl7
      obtain ⟨v8, vs, rfl, hl9⟩ := len_succ hl8
      obtain ⟨v9, vs, rfl, hl10⟩ := len_succ hl9
      obtain ⟨v10, vs, rfl, hl11⟩ := len_succ hl10
      obtain ⟨v11, vs, rfl, hl12⟩ := len_succ hl11
      obtain ⟨v12, vs, rfl, hl13⟩ := len_succ hl12
      obtain ⟨v13, vs, rfl, hl14⟩ := len_succ hl13
      obtain ⟨v14, vs, rfl, hl15⟩ := len_succ hl14
      obtain rfl := len_zero hl15
      have dd := hd 7 (by simp) _ rfl; simp only [List.getD_cons_zero, List.getD_cons_succ] at dd; obtain rfl := dd
      clear hd hl hl1 hl2 hl3 hl4 hl5 hl6 hl7 hl8 hl9 hl10 hl11 hl12 hl13 hl14 hl15
      replace hK := hK.out
      simp only [Bp.putsO, List.set_cons_zero, List.set_cons_succ, Act.put, List.setIfInBounds_toArray] at hK ⊢
      have hK' : Shut _ := hK
      clear hK
      go_simp
      (try go_wp2_with fail)
      exact hK'.out _ _ (Below.refl _ _) (fun D hD => by cases hD; rfl)
    · refine ⟨.plain, [8], by decide, by simp, fun vs w hl hR hd K hK => ?_⟩
      obtain ⟨v0, vs, rfl, hl1⟩ := len_succ hl
      obtain ⟨v1, vs, rfl, hl2⟩ := len_succ hl1
      obtain ⟨v2, vs, rfl, hl3⟩ := len_succ hl2
      obtain ⟨v3, vs, rfl, hl4⟩ := len_succ hl3
      obtain ⟨v4, vs, rfl, hl5⟩ := len_succ hl4
      obtain ⟨v5, vs, rfl, hl6⟩ := len_succ hl5
      obtain ⟨v6, vs, rfl, hl7⟩ := len_succ hl6
      obtain ⟨v7, vs, rfl, hl8⟩ := len_succ hl7
      obtain ⟨v8, vs, rfl, hl9⟩ := len_succ hl8
      obtain ⟨v9, vs, rfl, hl10⟩ := len_succ hl9
      obtain ⟨v10, vs, rfl, hl11⟩ := len_succ hl10
      obtain ⟨v11, vs, rfl, hl12⟩ := len_succ hl11
      obtain ⟨v12, vs, rfl, hl13⟩ := len_succ hl12
      obtain ⟨v13, vs, rfl, hl14⟩ := len_succ hl13
      obtain ⟨v14, vs, rfl, hl15⟩ := len_succ hl14
      obtain rfl := len_zero hl15
      have dd := hd 8 (by simp) _ rfl; simp only [List.getD_cons_zero, List.getD_cons_succ] at dd; obtain rfl := dd
      clear hd hl hl1 hl2 hl3 hl4 hl5 hl6 hl7 hl8 hl9 hl10 hl11 hl12 hl13 hl14 hl15
      replace hK := hK.out
      simp only [Bp.putsO, List.set_cons_zero, List.set_cons_succ, Act.put, List.setIfInBounds_toArray] at hK ⊢
      have hK' : Shut _ := hK
      clear hK
      go_simp
      (try go_wp2_with fail)
      exact hK'.out _ _ (Below.refl _ _) (fun D hD => by cases hD; (first | rfl | rw [HJ.out]))
    · refine ⟨.plain, [6, 9], by decide, by simp, fun vs w hl hR hd K hK => ?_⟩
      obtain ⟨v0, vs, rfl, hl1⟩ := len_succ hl
      obtain ⟨v1, vs, rfl, hl2⟩ := len_succ hl1
      obtain ⟨v2, vs, rfl, hl3⟩ := len_succ hl2
      obtain ⟨v3, vs, rfl, hl4⟩ := len_succ hl3
      obtain ⟨v4, vs, rfl, hl5⟩ := len_succ hl4
      obtain ⟨v5, vs, rfl, hl6⟩ := len_succ hl5
      obtain ⟨v6, vs, rfl, hl7⟩ := len_succ hl6
      obtain ⟨v7, vs, rfl, hl8⟩ := len_succ hl7
      obtain ⟨v8, vs, rfl, hl9⟩ := len_succ hl8
      obtain ⟨v9, vs, rfl, hl10⟩ := len_succ hl9
      obtain ⟨v10, vs, rfl, hl11⟩ := len_succ hl10
      obtain ⟨v11, vs, rfl, hl12⟩ := len_succ hl11
      obtain ⟨v12, vs, rfl, hl13⟩ := len_succ hl12
      obtain ⟨v13, vs, rfl, hl14⟩ := len_succ hl13
      obtain ⟨v14, vs, rfl, hl15⟩ := len_succ hl14
      obtain rfl := len_zero hl15
      have dd := hd 6 (by simp) _ rfl; simp only [List.getD_cons_zero, List.getD_cons_succ] at dd; obtain rfl := dd
      have dd := hd 9 (by simp) _ rfl; simp only [List.getD_cons_zero, List.getD_cons_succ] at dd; obtain rfl := dd
      clear hd hl hl1 hl2 hl3 hl4 hl5 hl6 hl7 hl8 hl9 hl10 hl11 hl12 hl13 hl14 hl15
      replace hK := hK.out
      simp only [Bp.putsO, List.set_cons_zero, List.set_cons_succ, Act.put, List.setIfInBounds_toArray] at hK ⊢
      have hK' : Shut _ := hK
      clear hK
      go_simp
      (try go_wp2_with fail)
      exact hK'.out _ _ (Below.refl _ _) (fun D hD => by cases hD; rfl)
    · refine ⟨.plain, [10], by decide, by simp, fun vs w hl hR hd K hK => ?_⟩
      obtain ⟨v0, vs, rfl, hl1⟩ := len_succ hl
      obtain ⟨v1, vs, rfl, hl2⟩ := len_succ hl1
      obtain ⟨v2, vs, rfl, hl3⟩ := len_succ hl2
      obtain ⟨v3, vs, rfl, hl4⟩ := len_succ hl3
      obtain ⟨v4, vs, rfl, hl5⟩ := len_succ hl4
      obtain ⟨v5, vs, rfl, hl6⟩ := len_succ hl5
      obtain ⟨v6, vs, rfl, hl7⟩ := len_succ hl6
      obtain ⟨v7, vs, rfl, hl8⟩ := len_succ hl7
      obtain ⟨v8, vs, rfl, hl9⟩ := len_succ hl8
      obtain ⟨v9, vs, rfl, hl10⟩ := len_succ hl9
      obtain ⟨v10, vs, rfl, hl11⟩ := len_succ hl10
      obtain ⟨v11, vs, rfl, hl12⟩ := len_succ hl11
      obtain ⟨v12, vs, rfl, hl13⟩ := len_succ hl12
      obtain ⟨v13, vs, rfl, hl14⟩ := len_succ hl13
      obtain ⟨v14, vs, rfl, hl15⟩ := len_succ hl14
      obtain rfl := len_zero hl15
      have dd := hd 10 (by simp) _ rfl; simp only [List.getD_cons_zero, List.getD_cons_succ] at dd; obtain rfl := dd
      clear hd hl hl1 hl2 hl3 hl4 hl5 hl6 hl7 hl8 hl9 hl10 hl11 hl12 hl13 hl14 hl15
      replace hK := hK.out
      simp only [Bp.putsO, List.set_cons_zero, List.set_cons_succ, Act.put, List.setIfInBounds_toArray] at hK ⊢
      have hK' : Shut _ := hK
      clear hK
      go_simp
      go_at_call 30; (with_reducible refine (of_first _ _ _ _ B _ (HI2.out.below (step_call HB0.out hR)) HJN.out EB).mono ?_); rintro e w2 ⟨a2, n2, c2, rfl, hs, hb⟩
      (try go_wp2_with fail)
      exact hK'.out _ _ (hb) (fun D hD => by cases hD; exact ⟨_, _, _, rfl, hs⟩)
    · refine ⟨.plain, [5, 11], by decide, by simp, fun vs w hl hR hd K hK => ?_⟩
      obtain ⟨v0, vs, rfl, hl1⟩ := len_succ hl
      obtain ⟨v1, vs, rfl, hl2⟩ := len_succ hl1
      obtain ⟨v2, vs, rfl, hl3⟩ := len_succ hl2
      obtain ⟨v3, vs, rfl, hl4⟩ := len_succ hl3
      obtain ⟨v4, vs, rfl, hl5⟩ := len_succ hl4
      obtain ⟨v5, vs, rfl, hl6⟩ := len_succ hl5
      obtain ⟨v6, vs, rfl, hl7⟩ := len_succ hl6
      obtain ⟨v7, vs, rfl, hl8⟩ := len_succ hl7
      obtain ⟨v8, vs, rfl, hl9⟩ := len_succ hl8
      obtain ⟨v9, vs, rfl, hl10⟩ := len_succ hl9
      obtain ⟨v10, vs, rfl, hl11⟩ := len_succ hl10
      obtain ⟨v11, vs, rfl, hl12⟩ := len_succ hl11
      obtain ⟨v12, vs, rfl, hl13⟩ := len_succ hl12
      obtain ⟨v13, vs, rfl, hl14⟩ := len_succ hl13
      obtain ⟨v14, vs, rfl, hl15⟩ := len_succ hl14
      obtain rfl := len_zero hl15
      have dd := hd 5 (by simp) _ rfl; simp only [List.getD_cons_zero, List.getD_cons_succ] at dd; refine dd.elim ?_; clear dd; intro a1 n1 c1 e hs1; subst e
      have dd := hd 11 (by simp) _ rfl; simp only [List.getD_cons_zero, List.getD_cons_succ] at dd; refine dd.elim ?_; clear dd; intro a2 n2 c2 e hs2; subst e
      clear hd hl hl1 hl2 hl3 hl4 hl5 hl6 hl7 hl8 hl9 hl10 hl11 hl12 hl13 hl14 hl15
      replace hK := hK.out
      simp only [Bp.putsO, List.set_cons_zero, List.set_cons_succ, Act.put, List.setIfInBounds_toArray] at hK ⊢
      have hK' : Shut _ := hK
      clear hK
      go_simp
      (try go_wp2_with fail)
      exact hK'.out _ _ (Below.refl _ _) (fun D hD => by cases hD; exact ⟨_, _, _, _, _, _, rfl, hs1, hs2⟩)
    · refine ⟨.box ⟨13, 14, CvP (A, B)⟩, [], by decide, by simp, rfl, by simp, (fun D hD => by cases hD; exact fun _ _ => trivial), fun vs w hl K hK => ?_⟩
      obtain ⟨v0, vs, rfl, hl1⟩ := len_succ hl
      obtain ⟨v1, vs, rfl, hl2⟩ := len_succ hl1
      obtain ⟨v2, vs, rfl, hl3⟩ := len_succ hl2
      obtain ⟨v3, vs, rfl, hl4⟩ := len_succ hl3
      obtain ⟨v4, vs, rfl, hl5⟩ := len_succ hl4
      obtain ⟨v5, vs, rfl, hl6⟩ := len_succ hl5
      obtain ⟨v6, vs, rfl, hl7⟩ := len_succ hl6
      obtain ⟨v7, vs, rfl, hl8⟩ := len_succ hl7
      obtain ⟨v8, vs, rfl, hl9⟩ := len_succ hl8
      obtain ⟨v9, vs, rfl, hl10⟩ := len_succ hl9
      obtain ⟨v10, vs, rfl, hl11⟩ := len_succ hl10
      obtain ⟨v11, vs, rfl, hl12⟩ := len_succ hl11
      obtain ⟨v12, vs, rfl, hl13⟩ := len_succ hl12
      obtain ⟨v13, vs, rfl, hl14⟩ := len_succ hl13
      obtain ⟨v14, vs, rfl, hl15⟩ := len_succ hl14
      obtain rfl := len_zero hl15
      clear hl hl1 hl2 hl3 hl4 hl5 hl6 hl7 hl8 hl9 hl10 hl11 hl12 hl13 hl14 hl15
      replace hK := hK.out
      simp only [Bp.putsO, List.set_cons_zero, List.set_cons_succ, Act.put, List.setIfInBounds_toArray] at hK ⊢
      have hK' : Shut _ := hK
      clear hK
      go_simp
      (try go_wp2_with fail)
      exact hK'.out
    · refine ⟨.fill ⟨13, 14, CvP (A, B)⟩, [13, 12], by decide, by simp, rfl, by simp, by simp, by simp, by simp, (fun D hD => by cases hD; exact fun _ _ => trivial), fun vs w g hl hd hg c0 c1 f0 f1 K hK => ?_⟩
      obtain ⟨v0, vs, rfl, hl1⟩ := len_succ hl
      obtain ⟨v1, vs, rfl, hl2⟩ := len_succ hl1
      obtain ⟨v2, vs, rfl, hl3⟩ := len_succ hl2
      obtain ⟨v3, vs, rfl, hl4⟩ := len_succ hl3
      obtain ⟨v4, vs, rfl, hl5⟩ := len_succ hl4
      obtain ⟨v5, vs, rfl, hl6⟩ := len_succ hl5
      obtain ⟨v6, vs, rfl, hl7⟩ := len_succ hl6
      obtain ⟨v7, vs, rfl, hl8⟩ := len_succ hl7
      obtain ⟨v8, vs, rfl, hl9⟩ := len_succ hl8
      obtain ⟨v9, vs, rfl, hl10⟩ := len_succ hl9
      obtain ⟨v10, vs, rfl, hl11⟩ := len_succ hl10
      obtain ⟨v11, vs, rfl, hl12⟩ := len_succ hl11
      obtain ⟨v12, vs, rfl, hl13⟩ := len_succ hl12
      obtain ⟨v13, vs, rfl, hl14⟩ := len_succ hl13
      obtain ⟨v14, vs, rfl, hl15⟩ := len_succ hl14
      obtain rfl := len_zero hl15
      have dd := hd 12 (by simp) _ rfl; simp only [List.getD_cons_zero, List.getD_cons_succ] at dd; replace dd := dd.pick; have hq := Classical.choose_spec dd; generalize Classical.choose dd = t0 at hq; clear dd; have e := hq.1; have hc := hq.2; clear hq; subst e
      simp only [List.getD_cons_zero, List.getD_cons_succ] at hg
      obtain rfl := hg
      clear hd hl hl1 hl2 hl3 hl4 hl5 hl6 hl7 hl8 hl9 hl10 hl11 hl12 hl13 hl14 hl15
      replace hK := hK.out undef _ _ (⟨_, _, _, _, _, _, rfl, rfl, hc⟩)
      simp only [Bp.putsO, List.set_cons_zero, List.set_cons_succ, Act.put, List.setIfInBounds_toArray] at hK ⊢
      have hK' : Shut _ := hK
      clear hK
      go_simp
      (try go_wp2_with fail)
      exact hK'.out
    · intro vs w1 hl hR hd hbx hne
      obtain ⟨v0, vs, rfl, hl1⟩ := len_succ hl
      obtain ⟨v1, vs, rfl, hl2⟩ := len_succ hl1
      obtain ⟨v2, vs, rfl, hl3⟩ := len_succ hl2
      obtain ⟨v3, vs, rfl, hl4⟩ := len_succ hl3
      obtain ⟨v4, vs, rfl, hl5⟩ := len_succ hl4
      obtain ⟨v5, vs, rfl, hl6⟩ := len_succ hl5
      obtain ⟨v6, vs, rfl, hl7⟩ := len_succ hl6
      obtain ⟨v7, vs, rfl, hl8⟩ := len_succ hl7
      obtain ⟨v8, vs, rfl, hl9⟩ := len_succ hl8
      obtain ⟨v9, vs, rfl, hl10⟩ := len_succ hl9
      obtain ⟨v10, vs, rfl, hl11⟩ := len_succ hl10
      obtain ⟨v11, vs, rfl, hl12⟩ := len_succ hl11
      obtain ⟨v12, vs, rfl, hl13⟩ := len_succ hl12
      obtain ⟨v13, vs, rfl, hl14⟩ := len_succ hl13
      obtain ⟨v14, vs, rfl, hl15⟩ := len_succ hl14
      obtain rfl := len_zero hl15
      obtain ⟨g0, x0, y0, e0, hg0, hh0, hP0⟩ := hbx ⟨13, 14, CvP (A, B)⟩ (by simp) (by simp) (by simp)
      simp only [List.getD_cons_zero, List.getD_cons_succ] at e0
      obtain rfl := e0
      clear hd hbx hl hl1 hl2 hl3 hl4 hl5 hl6 hl7 hl8 hl9 hl10 hl11 hl12 hl13 hl14 hl15
      simp only [Bp.putsO, List.set_cons_zero, List.set_cons_succ, Act.put, List.setIfInBounds_toArray]
      have hA0 : At2T w1 g0 _ _ _ := hh0
      refine hP0.elim ?_
      clear hP0
      intro a n c b m d ex ey hc
      subst ex
      subst ey
      have hB := step_call HB0.out hR
      have q0 := hA0.at.1
      have q1 := hA0.at.2.1
      clear hh0 hg0 hne hR HB0
      by_cases hy : textC (parseL (s.extract 0 u).data.toList) = (s.extract 0 u).data.toList
      · obtain ⟨X, eX⟩ : ∃ X, parseL (s.extract 0 u).data.toList = X := ⟨_, rfl⟩
        rw [eX] at hy
        have HSP := Lib.hid eX
        have HST := Lib.hid hy
        have HXT : Hid (s.extract 0 u = ⟨(textC X).toArray⟩) := str_eq hy.symm
        clear hy eX
        go_wp2_with (first
          | (go_at_call 32; clear tk0; (with_reducible refine (textC_t _ _ _ _ _ _ (A, B) tt _ hc ET (HW.out.below hB)).mono ?_); rintro e w2 ⟨rfl, hb⟩; have hB := step_call hB hb; replace hc := hc.below hb; replace hA0 := hA0.below hb; clear hb; clear q0 q1; have q0 := hA0.at.1; have q1 := hA0.at.2.1; have tk1 : Hid True := trivial)
          | (go_at_call 31; clear tk1; (with_reducible refine (parse_yes tt (A, B) _ HTS.out HTP HTT (HW.out.below hB)).mono ?_); rintro e w3 ⟨a2, n2, c2, b2, m2, d2, rfl, hc2, hb⟩; have hB := step_call hB hb; replace hc := hc.below hb; replace hA0 := hA0.below hb; clear hb; have hbx := (Below.refl w3.heap.size w3).alloc (Nat.le_refl _) (.cells #[.slice a2 n2 c2, .slice b2 m2 d2] 34); have hA1 := At2T.new w3 (.slice a2 n2 c2) (.slice b2 m2 d2) 34; have hB := step_call hB hbx; have r0 := hA1.at.1; have r1 := hA1.at.2.1; replace hc := hc.below hbx; replace hc2 := hc2.below hbx; replace hA0 := hA0.below hbx; clear hbx; clear q0 q1; have q0 := hA0.at.1; have q1 := hA0.at.2.1; have tk2 : Hid True := trivial)
          | (go_at_call 29; clear tk2; (with_reducible refine (equalC_yes _ _ _ _ _ _ _ _ _ _ _ _ (A, B) _ hc hc2).mono ?_); rintro e w4 ⟨rfl, hb⟩; have hB := step_call hB hb; clear hb hc hc2 hA0 hA1 q0 q1 r0 r1; have tk3 : Hid True := trivial)
          | (go_at_call 31; clear tk3; (with_reducible refine (parse_yes (s.extract 0 u) X _ HSZ.out HSP HST (HW.out.below hB)).mono ?_); rintro e w5 ⟨a5, n5, c5, b5, m5, d5, rfl, hc5, hb⟩; have hB := step_call hB hb; clear hb; have hbx := (Below.refl w5.heap.size w5).alloc (Nat.le_refl _) (.cells #[.slice a5 n5 c5, .slice b5 m5 d5] 34); have hA5 := At2T.new w5 (.slice a5 n5 c5) (.slice b5 m5 d5) 34; have hB := step_call hB hbx; have q0 := hA5.at.1; have q1 := hA5.at.2.1; replace hc5 := hc5.below hbx; clear hbx; have tk4 : Hid True := trivial)
          | (go_at_call 32; clear tk4; (with_reducible refine (textC_t _ _ _ _ _ _ X (s.extract 0 u) _ hc5 HXT (HW.out.below hB)).mono ?_); rintro e w6 ⟨rfl, hb⟩; have hB := step_call hB hb; replace hA5 := hA5.below hb; clear hb hc5; clear q0 q1; have q0 := hA5.at.1; have q1 := hA5.at.2.1; have tk5 : Hid True := trivial))
        go_ret
        exact ⟨rfl, hB⟩
      · have HSN := Lib.hid hy
        clear hy
        go_wp2_with (first
          | (go_at_call 32; clear tk0; (with_reducible refine (textC_t _ _ _ _ _ _ (A, B) tt _ hc ET (HW.out.below hB)).mono ?_); rintro e w2 ⟨rfl, hb⟩; have hB := step_call hB hb; replace hc := hc.below hb; replace hA0 := hA0.below hb; clear hb; clear q0 q1; have q0 := hA0.at.1; have q1 := hA0.at.2.1; have tk1 : Hid True := trivial)
          | (go_at_call 31; clear tk1; (with_reducible refine (parse_yes tt (A, B) _ HTS.out HTP HTT (HW.out.below hB)).mono ?_); rintro e w3 ⟨a2, n2, c2, b2, m2, d2, rfl, hc2, hb⟩; have hB := step_call hB hb; replace hc := hc.below hb; replace hA0 := hA0.below hb; clear hb; have hbx := (Below.refl w3.heap.size w3).alloc (Nat.le_refl _) (.cells #[.slice a2 n2 c2, .slice b2 m2 d2] 34); have hA1 := At2T.new w3 (.slice a2 n2 c2) (.slice b2 m2 d2) 34; have hB := step_call hB hbx; have r0 := hA1.at.1; have r1 := hA1.at.2.1; replace hc := hc.below hbx; replace hc2 := hc2.below hbx; replace hA0 := hA0.below hbx; clear hbx; clear q0 q1; have q0 := hA0.at.1; have q1 := hA0.at.2.1; have tk2 : Hid True := trivial)
          | (go_at_call 29; clear tk2; (with_reducible refine (equalC_yes _ _ _ _ _ _ _ _ _ _ _ _ (A, B) _ hc hc2).mono ?_); rintro e w4 ⟨rfl, hb⟩; have hB := step_call hB hb; clear hb hc hc2 hA0 hA1 q0 q1 r0 r1; have tk3 : Hid True := trivial)
          | (go_at_call 31; clear tk3; (with_reducible refine (parse_no (s.extract 0 u) _ HSZ.out HSN (HW.out.below hB)).mono ?_); rintro e w5 ⟨rfl, hb⟩; have hB := step_call hB hb; clear hb; have hbx := (Below.refl w5.heap.size w5).alloc (Nat.le_refl _) (.cells #[.slice none 0 0, .slice none 0 0] 34); have hA5 := At2T.new w5 (.slice none 0 0) (.slice none 0 0) 34; have hB := step_call hB hbx; have q0 := hA5.at.1; have q1 := hA5.at.2.1; clear hbx; have tk4 : Hid True := trivial)
          | (go_at_call 29; clear tk4; (with_reducible refine (equalC_yes _ _ _ _ _ _ _ _ _ _ _ _ ([], []) _ (nil_cube _) (nil_cube _)).mono ?_); rintro e w6 ⟨rfl, hb⟩; have hB := step_call hB hb; replace hA5 := hA5.below hb; clear hb; clear q0 q1; have q0 := hA5.at.1; have q1 := hA5.at.2.1; have tk5 : Hid True := trivial))
        go_ret
        exact ⟨rfl, hB⟩
end Go.Proofs.YtadomogbakcokaaGreatDoor
