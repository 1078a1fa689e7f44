/- The walk of DaysLaws. -/
import Derived.Test.YtgbonpmakahibaaDoorDaR
namespace Go.Proofs.YtgbonpmakahibaaDoor.Dy
open Go.RowKit Go.PlainAid
set_option linter.unusedVariables false
set_option linter.unusedSimpArgs false
set_option maxHeartbeats 40000000

theorem dl1 {LA1 LB1 LC1 l1 l2 l3 l4 l5 : List (Int × Int)} (hA : Can LA1) (hB : Can LB1) (hC : Can LC1) (c1 : Can l1) (m1 : ∀ d, Dm l1 d = (Dm LA1 d || Dm LB1 d)) (c2 : Can l2) (m2 : ∀ d, Dm l2 d = (inD d && !Dm l1 d)) (c3 : Can l3) (m3 : ∀ d, Dm l3 d = (inD d && !Dm LA1 d)) (c4 : Can l4) (m4 : ∀ d, Dm l4 d = (inD d && !Dm LB1 d)) (c5 : Can l5) (m5 : ∀ d, Dm l5 d = (Dm l3 d && Dm l4 d)) : l2 = l5 := by
  refine can_ext (by assumption) (by assumption) fun d => ?_
  have e1 := dm_in hA d
  have e2 := dm_in hB d
  have e3 := dm_in hC d
  simp only [m1, m2, m3, m4, m5]
  revert e1 e2 e3
  cases inD d <;> cases Dm LA1 d <;> cases Dm LB1 d <;> cases Dm LC1 d <;> simp
theorem dl2 {LA1 LB1 LC1 l7 l8 l9 l10 l11 : List (Int × Int)} (hA : Can LA1) (hB : Can LB1) (hC : Can LC1) (c7 : Can l7) (m7 : ∀ d, Dm l7 d = (Dm LB1 d || Dm LC1 d)) (c8 : Can l8) (m8 : ∀ d, Dm l8 d = (Dm LA1 d && Dm l7 d)) (c9 : Can l9) (m9 : ∀ d, Dm l9 d = (Dm LA1 d && Dm LB1 d)) (c10 : Can l10) (m10 : ∀ d, Dm l10 d = (Dm LA1 d && Dm LC1 d)) (c11 : Can l11) (m11 : ∀ d, Dm l11 d = (Dm l9 d || Dm l10 d)) : l8 = l11 := by
  refine can_ext (by assumption) (by assumption) fun d => ?_
  have e1 := dm_in hA d
  have e2 := dm_in hB d
  have e3 := dm_in hC d
  simp only [m7, m8, m9, m10, m11]
  revert e1 e2 e3
  cases inD d <;> cases Dm LA1 d <;> cases Dm LB1 d <;> cases Dm LC1 d <;> simp
theorem dl3 {LA1 LB1 LC1 l13 l14 : List (Int × Int)} (hA : Can LA1) (hB : Can LB1) (hC : Can LC1) (c13 : Can l13) (m13 : ∀ d, Dm l13 d = (inD d && !Dm LA1 d)) (c14 : Can l14) (m14 : ∀ d, Dm l14 d = (inD d && !Dm l13 d)) : l14 = LA1 := by
  refine can_ext (by assumption) (by assumption) fun d => ?_
  have e1 := dm_in hA d
  have e2 := dm_in hB d
  have e3 := dm_in hC d
  simp only [m13, m14]
  revert e1 e2 e3
  cases inD d <;> cases Dm LA1 d <;> cases Dm LB1 d <;> cases Dm LC1 d <;> simp
theorem dl4 {LA1 LB1 LC1 l16 l17 l18 : List (Int × Int)} (hA : Can LA1) (hB : Can LB1) (hC : Can LC1) (c16 : Can l16) (m16 : ∀ d, Dm l16 d = (Dm LA1 d && !Dm LB1 d)) (c17 : Can l17) (m17 : ∀ d, Dm l17 d = (inD d && !Dm LB1 d)) (c18 : Can l18) (m18 : ∀ d, Dm l18 d = (Dm LA1 d && Dm l17 d)) : l16 = l18 := by
  refine can_ext (by assumption) (by assumption) fun d => ?_
  have e1 := dm_in hA d
  have e2 := dm_in hB d
  have e3 := dm_in hC d
  simp only [m16, m17, m18]
  revert e1 e2 e3
  cases inD d <;> cases Dm LA1 d <;> cases Dm LB1 d <;> cases Dm LC1 d <;> simp
theorem dl5 {LA1 LB1 LC1 l20 l21 l22 : List (Int × Int)} (hA : Can LA1) (hB : Can LB1) (hC : Can LC1) (c20 : Can l20) (m20 : ∀ d, Dm l20 d = (inD d && !Dm LA1 d)) (c21 : Can l21) (m21 : ∀ d, Dm l21 d = (Dm LA1 d || Dm l20 d)) (c22 : Can l22) (m22 : ∀ d, Dm l22 d = inD d) : l21 = l22 := by
  refine can_ext (by assumption) (by assumption) fun d => ?_
  have e1 := dm_in hA d
  have e2 := dm_in hB d
  have e3 := dm_in hC d
  simp only [m20, m21, m22]
  revert e1 e2 e3
  cases inD d <;> cases Dm LA1 d <;> cases Dm LB1 d <;> cases Dm LC1 d <;> simp
theorem dl6 {LA1 l24 l25 : List (Int × Int)} (hA : Can LA1) (c24 : Can l24) (m24 : ∀ d, Dm l24 d = (inD d && !Dm LA1 d)) (c25 : Can l25) (m25 : ∀ d, Dm l25 d = (Dm LA1 d && Dm l24 d)) : l25 = [] := by
  refine (can_eq_nil (by assumption)).2 fun d => ?_
  simp only [m24, m25]
  cases inD d <;> cases Dm LA1 d <;> simp

set_option maxRecDepth 100000 in
theorem daysLaws_walk (a b c : Option Addr) (n m k ca cb cc : Nat) (zs xs vs : List (Nat × Nat)) (w : World) (hP : Pow10 w) (h : Us w a n ca zs) (h2 : Us w b m cb xs) (h3 : Us w c k cc vs) :
    Calls Tryd.prog 7 #[.slice a n ca, .slice b m cb, .slice c k cc] w fun e w' => e = .returned (.bool true) ∧ RowKit.Below w.heap.size w w' := by
  have HP := Lib.hid hP
  have HMA := Lib.hid (fun W (hb : RowKit.Below w.heap.size w W) => make_any a n ca zs W (h.below hb (Nat.le_refl _)))
  have HMB := Lib.hid (fun W (hb : RowKit.Below w.heap.size w W) => make_any b m cb xs W (h2.below hb (Nat.le_refl _)))
  have HMC := Lib.hid (fun W (hb : RowKit.Below w.heap.size w W) => make_any c k cc vs W (h3.below hb (Nat.le_refl _)))
  clear hP h h2 h3
  have tk0 : Hid True := trivial
  go_enter Tryd.func7, Tryd.ntmps7
  go_wp2_with (first
    | (go_at_call 9; (with_reducible refine (awake_any _ HP.out).mono ?_); rintro e w1 ⟨rfl, hB1⟩)
    | (go_at_call 10; clear tk0; (with_reducible refine (HMA.out _ hB1).mono ?_); rintro e w2 ⟨aA, nA, cA, LA1, gA, rfl, hd2, hc2, -, hb2⟩; have HSA2 := Lib.hid hd2; have HCA := Lib.hid hc2; have hB2 := hB1.trans (hb2.mono hB1.size); have hG2 := (RowKit.Below.refl w2.heap.size w2).alloc (Nat.le_refl _) (.cells #[.slice aA nA cA] 26); have hBB2 := hB2.trans (hG2.mono hB2.size); have tk1 : Hid True := trivial; clear hd2 hc2 hb2)
    | (go_at_call 10; clear tk1; (with_reducible refine (HMB.out _ hBB2).mono ?_); rintro e w3 ⟨aB, nB, cB, LB1, gB, rfl, hd3, hc3, -, hb3⟩; have HSB2 := Lib.hid hd3; have HCB := Lib.hid hc3; have hB3 := hBB2.trans (hb3.mono hBB2.size); obtain ⟨r3, hG3⟩ := box1s hb3; have zz3 : w2.heap.size < w3.heap.size := (by have := hb3.size; simp at this; omega); have hH3 := (RowKit.Below.refl w3.heap.size w3).alloc (Nat.le_refl _) (.cells #[.slice aB nB cB] 26); have hBB3 := hB3.trans (hH3.mono hB3.size); have tk2 : Hid True := trivial; clear hd3 hc3 hb3)
    | (go_at_call 10; clear tk2; (with_reducible refine (HMC.out _ hBB3).mono ?_); rintro e w4 ⟨aC, nC, cC, LC1, gC, rfl, hd4, hc4, -, hb4⟩; have HSC2 := Lib.hid hd4; have HCC := Lib.hid hc4; have hB4 := hBB3.trans (hb4.mono hBB3.size); obtain ⟨r4, hG4⟩ := box1s hb4; have zz4 : w3.heap.size < w4.heap.size := (by have := hb4.size; simp at this; omega); have tk3 : Hid True := trivial; clear hd4 hc4 hb4))
  have hJ := ((RowKit.Below.refl w4.heap.size w4).alloc (Nat.le_refl _) (.cells #[.slice aC nC cC] 26)).drew
  have z4 : w4.heap.size < (w4.alloc (.cells #[.slice aC nC cC] 26)).drew.heap.size := by show w4.heap.size < (w4.alloc _).heap.size; simp
  have z3 := Nat.lt_trans zz4 z4
  have z2 := Nat.lt_trans zz3 z3
  have hG34 := hG3.trans (hG4.mono hG3.size)
  have q3 : (w4.alloc (.cells #[.slice aC nC cC] 26)).drew.cell? ⟨w4.heap.size, 0, none⟩ = some (.slice aC nC cC) := (new1 w4 _ _).1
  have q2 := (hJ.cell (p := ⟨w3.heap.size, 0, none⟩) zz4).trans r4
  have q1 := (hJ.cell (p := ⟨w2.heap.size, 0, none⟩) (Nat.lt_trans zz3 zz4)).trans ((hG4.cell (p := ⟨w2.heap.size, 0, none⟩) zz3).trans r3)
  have HSA := Lib.hid (HSA2.out.below (hG34.trans (hJ.mono hG34.size)) (Nat.le_refl _))
  have HSB := Lib.hid (HSB2.out.below (hG4.trans (hJ.mono hG4.size)) (Nat.le_refl _))
  have HSC := Lib.hid (HSC2.out.below hJ (Nat.le_refl _))
  have hBW := hB4.trans (hJ.mono hB4.size)
  obtain ⟨xA, hxA⟩ : ∃ x, lenD LA1 = x := ⟨_, rfl⟩
  obtain ⟨xB, hxB⟩ : ∃ x, lenD LB1 = x := ⟨_, rfl⟩
  obtain ⟨y, hy⟩ : ∃ y, cntN (fun d => Dm LA1 d || Dm LB1 d) 30001 = y := ⟨_, rfl⟩
  have HXA := Lib.hid hxA
  have HXB := Lib.hid hxB
  have HXO := Lib.hid hy
  have HXN := Lib.hid (len_not HCA.out hxA)
  have HXL := Lib.hid len_all
  have HXD := Lib.hid (len_and HCA.out HCB.out hxA hxB hy)
  have e1 : IntKind.i64.wrap (xA + (30001 - xA)) = 30001 := by rw [show xA + (30001 - xA) = 30001 by omega]; rfl
  have bA := lenD_bounds HCA.out
  have bB := lenD_bounds HCB.out
  rw [hxA] at bA
  rw [hxB] at bB
  have e2 : IntKind.i64.wrap (xA + xB) = xA + xB := by rw [IntKind.wrap_i64]; omega
  have e3 : IntKind.i64.wrap (y + (xA + xB - y)) = xA + xB := by rw [show y + (xA + xB - y) = xA + xB by omega]; exact e2
  have hF := RowKit.Below.refl (w4.alloc (.cells #[.slice aC nC cC] 26)).drew.heap.size (w4.alloc (.cells #[.slice aC nC cC] 26)).drew
  clear hxA hxB hy bA bB HSA2 HSB2 HSC2 hG2 hBB2 r3 hG3 hH3 hBB3 r4 hG4 hG34 hJ hB1 hB2 hB3 hB4
  refine wp_region_noPanic ?_
  refine region_ord (S := fun w' => w'.cell? ⟨w2.heap.size, 0, none⟩ = some (.slice aA nA cA) ∧ w'.cell? ⟨w3.heap.size, 0, none⟩ = some (.slice aB nB cB) ∧ w'.cell? ⟨w4.heap.size, 0, none⟩ = some (.slice aC nC cC)) [0, 1, 4, 6, 2, 3, 5, 7, 8, 9, 10, 11, 12, 13, 14, 17, 18, 20, 21, 15, 16, 19, 22, 23, 24, 25, 26, 27, 28, 31, 29, 30, 32, 33, 34, 35, 36, 37, 39, 40, 38, 41, 42, 43, 44, 45] (by kernel_rfl) (by decide +kernel) (fun _ _ _ _ _ h => h) ⟨(hF.cell (p := ⟨w2.heap.size, 0, none⟩) z2).trans q1, (hF.cell (p := ⟨w3.heap.size, 0, none⟩) z3).trans q2, (hF.cell (p := ⟨w4.heap.size, 0, none⟩) z4).trans q3⟩ (fun _ => ?_)
  refine' ord_light (v := _) rfl rfl rfl (fun w' hSw => ?_) ?_
  rotate_left
  · ((try dsimp only at hSw); go_simp <;> (with_reducible rfl))
  (try simp only [Act.put, List.setIfInBounds_toArray, List.set_cons_zero, List.set_cons_succ])
  refine' ord_light (v := _) rfl rfl rfl (fun w' hSw => ?_) ?_
  rotate_left
  · ((try dsimp only at hSw); go_simp <;> (with_reducible rfl))
  (try simp only [Act.put, List.setIfInBounds_toArray, List.set_cons_zero, List.set_cons_succ])
  refine' ord_light (v := _) rfl rfl rfl (fun w' hSw => ?_) ?_
  rotate_left
  · ((try dsimp only at hSw); go_simp <;> (with_reducible rfl))
  (try simp only [Act.put, List.setIfInBounds_toArray, List.set_cons_zero, List.set_cons_succ])
  refine' ord_light (v := _) rfl rfl rfl (fun w' hSw => ?_) ?_
  rotate_left
  · ((try dsimp only at hSw); go_simp <;> (with_reducible rfl))
  (try simp only [Act.put, List.setIfInBounds_toArray, List.set_cons_zero, List.set_cons_succ])
  refine ord_heavy rfl rfl (fun K hK => ?_)
  go_simp
  (go_at_call 24; clear tk3; (with_reducible refine (or_any _ _ _ _ _ _ _ _ _ (HSA.out.below hF (Nat.le_refl _)) (HSB.out.below hF (Nat.le_refl _)) HCA.out HCB.out).mono ?_); rintro e u1 ⟨a1, n1, c1, l1, rfl, hs1, hc1, hm1, hb⟩; have hF := hF.trans (hb.mono hF.size); have HC1 := Lib.hid hc1; have HM1 := Lib.hid hm1; clear hc1 hm1; clear hb; have tk4 : Hid True := trivial)
  (try go_wp2_with fail)
  refine hK.out _ _ ⟨(hF.cell (p := ⟨w2.heap.size, 0, none⟩) z2).trans q1, (hF.cell (p := ⟨w3.heap.size, 0, none⟩) z3).trans q2, (hF.cell (p := ⟨w4.heap.size, 0, none⟩) z4).trans q3⟩ ?_
  clear hK K
  (try simp only [Act.put, List.setIfInBounds_toArray, List.set_cons_zero, List.set_cons_succ])
  refine ord_heavy rfl rfl (fun K hK => ?_)
  go_simp
  (go_at_call 27; clear tk4; (with_reducible refine (not_any _ _ _ _ _ hs1 HC1.out).mono ?_); rintro e u2 ⟨a2, n2, c2, l2, rfl, hs2, hc2, hm2, hb⟩; have hF := hF.trans (hb.mono hF.size); have hs1 := hs1.below hb (Nat.le_refl _); have HC2 := Lib.hid hc2; have HM2 := Lib.hid hm2; clear hc2 hm2; clear hb; have tk5 : Hid True := trivial)
  (try go_wp2_with fail)
  refine hK.out _ _ ⟨(hF.cell (p := ⟨w2.heap.size, 0, none⟩) z2).trans q1, (hF.cell (p := ⟨w3.heap.size, 0, none⟩) z3).trans q2, (hF.cell (p := ⟨w4.heap.size, 0, none⟩) z4).trans q3⟩ ?_
  clear hK K
  (try simp only [Act.put, List.setIfInBounds_toArray, List.set_cons_zero, List.set_cons_succ])
  refine ord_heavy rfl rfl (fun K hK => ?_)
  go_simp
  (go_at_call 27; clear tk5; (with_reducible refine (not_any _ _ _ _ _ (HSA.out.below hF (Nat.le_refl _)) HCA.out).mono ?_); rintro e u3 ⟨a3, n3, c3, l3, rfl, hs3, hc3, hm3, hb⟩; have hF := hF.trans (hb.mono hF.size); have hs2 := hs2.below hb (Nat.le_refl _); have HC3 := Lib.hid hc3; have HM3 := Lib.hid hm3; clear hc3 hm3; clear hb; have tk6 : Hid True := trivial)
  (try go_wp2_with fail)
  refine hK.out _ _ ⟨(hF.cell (p := ⟨w2.heap.size, 0, none⟩) z2).trans q1, (hF.cell (p := ⟨w3.heap.size, 0, none⟩) z3).trans q2, (hF.cell (p := ⟨w4.heap.size, 0, none⟩) z4).trans q3⟩ ?_
  clear hK K
  (try simp only [Act.put, List.setIfInBounds_toArray, List.set_cons_zero, List.set_cons_succ])
  refine ord_heavy rfl rfl (fun K hK => ?_)
  go_simp
  (go_at_call 27; clear tk6; (with_reducible refine (not_any _ _ _ _ _ (HSB.out.below hF (Nat.le_refl _)) HCB.out).mono ?_); rintro e u4 ⟨a4, n4, c4, l4, rfl, hs4, hc4, hm4, hb⟩; have hF := hF.trans (hb.mono hF.size); have hs2 := hs2.below hb (Nat.le_refl _); have hs3 := hs3.below hb (Nat.le_refl _); have HC4 := Lib.hid hc4; have HM4 := Lib.hid hm4; clear hc4 hm4; clear hb; have tk7 : Hid True := trivial)
  (try go_wp2_with fail)
  refine hK.out _ _ ⟨(hF.cell (p := ⟨w2.heap.size, 0, none⟩) z2).trans q1, (hF.cell (p := ⟨w3.heap.size, 0, none⟩) z3).trans q2, (hF.cell (p := ⟨w4.heap.size, 0, none⟩) z4).trans q3⟩ ?_
  clear hK K
  (try simp only [Act.put, List.setIfInBounds_toArray, List.set_cons_zero, List.set_cons_succ])
  refine ord_heavy rfl rfl (fun K hK => ?_)
  go_simp
  (go_at_call 25; clear tk7; (with_reducible refine (and_any _ _ _ _ _ _ _ _ _ hs3 hs4 HC3.out HC4.out).mono ?_); rintro e u5 ⟨a5, n5, c5, l5, rfl, hs5, hc5, hm5, hb⟩; have hF := hF.trans (hb.mono hF.size); have hs2 := hs2.below hb (Nat.le_refl _); have hs3 := hs3.below hb (Nat.le_refl _); have hs4 := hs4.below hb (Nat.le_refl _); have HC5 := Lib.hid hc5; have HM5 := Lib.hid hm5; clear hc5 hm5; clear hb; have tk8 : Hid True := trivial)
  (try go_wp2_with fail)
  refine hK.out _ _ ⟨(hF.cell (p := ⟨w2.heap.size, 0, none⟩) z2).trans q1, (hF.cell (p := ⟨w3.heap.size, 0, none⟩) z3).trans q2, (hF.cell (p := ⟨w4.heap.size, 0, none⟩) z4).trans q3⟩ ?_
  clear hK K
  (try simp only [Act.put, List.setIfInBounds_toArray, List.set_cons_zero, List.set_cons_succ])
  refine ord_heavy rfl rfl (fun K hK => ?_)
  go_simp
  (go_at_call 18; clear tk8; (with_reducible refine (setEqual_t _ _ _ _ _ _ _ _ _ hs2 hs5 (dl1 HCA.out HCB.out HCC.out HC1.out HM1.out HC2.out HM2.out HC3.out HM3.out HC4.out HM4.out HC5.out HM5.out)).mono ?_); rintro e u6 ⟨rfl, hb⟩; have hF := hF.trans (hb.mono hF.size); have hs2 := hs2.below hb (Nat.le_refl _); have hs5 := hs5.below hb (Nat.le_refl _); clear hb; have tk9 : Hid True := trivial)
  (try go_wp2_with fail)
  refine hK.out _ _ ⟨(hF.cell (p := ⟨w2.heap.size, 0, none⟩) z2).trans q1, (hF.cell (p := ⟨w3.heap.size, 0, none⟩) z3).trans q2, (hF.cell (p := ⟨w4.heap.size, 0, none⟩) z4).trans q3⟩ ?_
  clear hK K
  (try simp only [Act.put, List.setIfInBounds_toArray, List.set_cons_zero, List.set_cons_succ])
  refine' ord_light (v := _) rfl rfl rfl (fun w' hSw => ?_) ?_
  rotate_left
  · ((try dsimp only at hSw); go_simp <;> (with_reducible rfl))
  (try simp only [Act.put, List.setIfInBounds_toArray, List.set_cons_zero, List.set_cons_succ])
  refine' ord_light (v := _) rfl rfl rfl (fun w' hSw => ?_) ?_
  rotate_left
  · ((try dsimp only at hSw); go_simp <;> (with_reducible rfl))
  (try simp only [Act.put, List.setIfInBounds_toArray, List.set_cons_zero, List.set_cons_succ])
  refine' ord_light (v := _) rfl rfl rfl (fun w' hSw => ?_) ?_
  rotate_left
  · ((try dsimp only at hSw); go_simp <;> (with_reducible rfl))
  (try simp only [Act.put, List.setIfInBounds_toArray, List.set_cons_zero, List.set_cons_succ])
  refine' ord_light (v := _) rfl rfl rfl (fun w' hSw => ?_) ?_
  rotate_left
  · ((try dsimp only at hSw); go_simp <;> (with_reducible rfl))
  (try simp only [Act.put, List.setIfInBounds_toArray, List.set_cons_zero, List.set_cons_succ])
  refine' ord_light (v := _) rfl rfl rfl (fun w' hSw => ?_) ?_
  rotate_left
  · ((try dsimp only at hSw); go_simp <;> (with_reducible rfl))
  (try simp only [Act.put, List.setIfInBounds_toArray, List.set_cons_zero, List.set_cons_succ])
  refine' ord_light (v := _) rfl rfl rfl (fun w' hSw => ?_) ?_
  rotate_left
  · ((try dsimp only at hSw); go_simp <;> (with_reducible rfl))
  (try simp only [Act.put, List.setIfInBounds_toArray, List.set_cons_zero, List.set_cons_succ])
  refine' ord_light (v := _) rfl rfl rfl (fun w' hSw => ?_) ?_
  rotate_left
  · ((try dsimp only at hSw); go_simp <;> (with_reducible rfl))
  (try simp only [Act.put, List.setIfInBounds_toArray, List.set_cons_zero, List.set_cons_succ])
  refine' ord_light (v := _) rfl rfl rfl (fun w' hSw => ?_) ?_
  rotate_left
  · ((try dsimp only at hSw); go_simp <;> (with_reducible rfl))
  (try simp only [Act.put, List.setIfInBounds_toArray, List.set_cons_zero, List.set_cons_succ])
  refine' ord_light (v := _) rfl rfl rfl (fun w' hSw => ?_) ?_
  rotate_left
  · ((try dsimp only at hSw); go_simp <;> (with_reducible rfl))
  (try simp only [Act.put, List.setIfInBounds_toArray, List.set_cons_zero, List.set_cons_succ])
  refine ord_heavy rfl rfl (fun K hK => ?_)
  go_simp
  (go_at_call 24; clear tk9; (with_reducible refine (or_any _ _ _ _ _ _ _ _ _ (HSB.out.below hF (Nat.le_refl _)) (HSC.out.below hF (Nat.le_refl _)) HCB.out HCC.out).mono ?_); rintro e u7 ⟨a7, n7, c7, l7, rfl, hs7, hc7, hm7, hb⟩; have hF := hF.trans (hb.mono hF.size); have HC7 := Lib.hid hc7; have HM7 := Lib.hid hm7; clear hc7 hm7; clear hb; have tk10 : Hid True := trivial)
  (try go_wp2_with fail)
  refine hK.out _ _ ⟨(hF.cell (p := ⟨w2.heap.size, 0, none⟩) z2).trans q1, (hF.cell (p := ⟨w3.heap.size, 0, none⟩) z3).trans q2, (hF.cell (p := ⟨w4.heap.size, 0, none⟩) z4).trans q3⟩ ?_
  clear hK K
  (try simp only [Act.put, List.setIfInBounds_toArray, List.set_cons_zero, List.set_cons_succ])
  refine ord_heavy rfl rfl (fun K hK => ?_)
  go_simp
  (go_at_call 25; clear tk10; (with_reducible refine (and_any _ _ _ _ _ _ _ _ _ (HSA.out.below hF (Nat.le_refl _)) hs7 HCA.out HC7.out).mono ?_); rintro e u8 ⟨a8, n8, c8, l8, rfl, hs8, hc8, hm8, hb⟩; have hF := hF.trans (hb.mono hF.size); have hs7 := hs7.below hb (Nat.le_refl _); have HC8 := Lib.hid hc8; have HM8 := Lib.hid hm8; clear hc8 hm8; clear hb; have tk11 : Hid True := trivial)
  (try go_wp2_with fail)
  refine hK.out _ _ ⟨(hF.cell (p := ⟨w2.heap.size, 0, none⟩) z2).trans q1, (hF.cell (p := ⟨w3.heap.size, 0, none⟩) z3).trans q2, (hF.cell (p := ⟨w4.heap.size, 0, none⟩) z4).trans q3⟩ ?_
  clear hK K
  (try simp only [Act.put, List.setIfInBounds_toArray, List.set_cons_zero, List.set_cons_succ])
  refine ord_heavy rfl rfl (fun K hK => ?_)
  go_simp
  (go_at_call 25; clear tk11; (with_reducible refine (and_any _ _ _ _ _ _ _ _ _ (HSA.out.below hF (Nat.le_refl _)) (HSB.out.below hF (Nat.le_refl _)) HCA.out HCB.out).mono ?_); rintro e u9 ⟨a9, n9, c9, l9, rfl, hs9, hc9, hm9, hb⟩; have hF := hF.trans (hb.mono hF.size); have hs8 := hs8.below hb (Nat.le_refl _); have HC9 := Lib.hid hc9; have HM9 := Lib.hid hm9; clear hc9 hm9; clear hb; have tk12 : Hid True := trivial)
  (try go_wp2_with fail)
  refine hK.out _ _ ⟨(hF.cell (p := ⟨w2.heap.size, 0, none⟩) z2).trans q1, (hF.cell (p := ⟨w3.heap.size, 0, none⟩) z3).trans q2, (hF.cell (p := ⟨w4.heap.size, 0, none⟩) z4).trans q3⟩ ?_
  clear hK K
  (try simp only [Act.put, List.setIfInBounds_toArray, List.set_cons_zero, List.set_cons_succ])
  refine ord_heavy rfl rfl (fun K hK => ?_)
  go_simp
  (go_at_call 25; clear tk12; (with_reducible refine (and_any _ _ _ _ _ _ _ _ _ (HSA.out.below hF (Nat.le_refl _)) (HSC.out.below hF (Nat.le_refl _)) HCA.out HCC.out).mono ?_); rintro e u10 ⟨a10, n10, c10, l10, rfl, hs10, hc10, hm10, hb⟩; have hF := hF.trans (hb.mono hF.size); have hs8 := hs8.below hb (Nat.le_refl _); have hs9 := hs9.below hb (Nat.le_refl _); have HC10 := Lib.hid hc10; have HM10 := Lib.hid hm10; clear hc10 hm10; clear hb; have tk13 : Hid True := trivial)
  (try go_wp2_with fail)
  refine hK.out _ _ ⟨(hF.cell (p := ⟨w2.heap.size, 0, none⟩) z2).trans q1, (hF.cell (p := ⟨w3.heap.size, 0, none⟩) z3).trans q2, (hF.cell (p := ⟨w4.heap.size, 0, none⟩) z4).trans q3⟩ ?_
  clear hK K
  (try simp only [Act.put, List.setIfInBounds_toArray, List.set_cons_zero, List.set_cons_succ])
  refine ord_heavy rfl rfl (fun K hK => ?_)
  go_simp
  (go_at_call 24; clear tk13; (with_reducible refine (or_any _ _ _ _ _ _ _ _ _ hs9 hs10 HC9.out HC10.out).mono ?_); rintro e u11 ⟨a11, n11, c11, l11, rfl, hs11, hc11, hm11, hb⟩; have hF := hF.trans (hb.mono hF.size); have hs8 := hs8.below hb (Nat.le_refl _); have hs9 := hs9.below hb (Nat.le_refl _); have hs10 := hs10.below hb (Nat.le_refl _); have HC11 := Lib.hid hc11; have HM11 := Lib.hid hm11; clear hc11 hm11; clear hb; have tk14 : Hid True := trivial)
  (try go_wp2_with fail)
  refine hK.out _ _ ⟨(hF.cell (p := ⟨w2.heap.size, 0, none⟩) z2).trans q1, (hF.cell (p := ⟨w3.heap.size, 0, none⟩) z3).trans q2, (hF.cell (p := ⟨w4.heap.size, 0, none⟩) z4).trans q3⟩ ?_
  clear hK K
  (try simp only [Act.put, List.setIfInBounds_toArray, List.set_cons_zero, List.set_cons_succ])
  refine ord_heavy rfl rfl (fun K hK => ?_)
  go_simp
  (go_at_call 18; clear tk14; (with_reducible refine (setEqual_t _ _ _ _ _ _ _ _ _ hs8 hs11 (dl2 HCA.out HCB.out HCC.out HC7.out HM7.out HC8.out HM8.out HC9.out HM9.out HC10.out HM10.out HC11.out HM11.out)).mono ?_); rintro e u12 ⟨rfl, hb⟩; have hF := hF.trans (hb.mono hF.size); have hs8 := hs8.below hb (Nat.le_refl _); have hs11 := hs11.below hb (Nat.le_refl _); clear hb; have tk15 : Hid True := trivial)
  (try go_wp2_with fail)
  refine hK.out _ _ ⟨(hF.cell (p := ⟨w2.heap.size, 0, none⟩) z2).trans q1, (hF.cell (p := ⟨w3.heap.size, 0, none⟩) z3).trans q2, (hF.cell (p := ⟨w4.heap.size, 0, none⟩) z4).trans q3⟩ ?_
  clear hK K
  (try simp only [Act.put, List.setIfInBounds_toArray, List.set_cons_zero, List.set_cons_succ])
  refine' ord_light (v := _) rfl rfl rfl (fun w' hSw => ?_) ?_
  rotate_left
  · ((try dsimp only at hSw); go_simp <;> (with_reducible rfl))
  (try simp only [Act.put, List.setIfInBounds_toArray, List.set_cons_zero, List.set_cons_succ])
  refine' ord_light (v := _) rfl rfl rfl (fun w' hSw => ?_) ?_
  rotate_left
  · ((try dsimp only at hSw); go_simp <;> (with_reducible rfl))
  (try simp only [Act.put, List.setIfInBounds_toArray, List.set_cons_zero, List.set_cons_succ])
  refine' ord_light (v := _) rfl rfl rfl (fun w' hSw => ?_) ?_
  rotate_left
  · ((try dsimp only at hSw); go_simp <;> (with_reducible rfl))
  (try simp only [Act.put, List.setIfInBounds_toArray, List.set_cons_zero, List.set_cons_succ])
  refine' ord_light (v := _) rfl rfl rfl (fun w' hSw => ?_) ?_
  rotate_left
  · ((try dsimp only at hSw); go_simp <;> (with_reducible rfl))
  (try simp only [Act.put, List.setIfInBounds_toArray, List.set_cons_zero, List.set_cons_succ])
  refine' ord_light (v := _) rfl rfl rfl (fun w' hSw => ?_) ?_
  rotate_left
  · ((try dsimp only at hSw); go_simp <;> (with_reducible rfl))
  (try simp only [Act.put, List.setIfInBounds_toArray, List.set_cons_zero, List.set_cons_succ])
  refine ord_heavy rfl rfl (fun K hK => ?_)
  go_simp
  (go_at_call 27; clear tk15; (with_reducible refine (not_any _ _ _ _ _ (HSA.out.below hF (Nat.le_refl _)) HCA.out).mono ?_); rintro e u13 ⟨a13, n13, c13, l13, rfl, hs13, hc13, hm13, hb⟩; have hF := hF.trans (hb.mono hF.size); have HC13 := Lib.hid hc13; have HM13 := Lib.hid hm13; clear hc13 hm13; clear hb; have tk16 : Hid True := trivial)
  (try go_wp2_with fail)
  refine hK.out _ _ ⟨(hF.cell (p := ⟨w2.heap.size, 0, none⟩) z2).trans q1, (hF.cell (p := ⟨w3.heap.size, 0, none⟩) z3).trans q2, (hF.cell (p := ⟨w4.heap.size, 0, none⟩) z4).trans q3⟩ ?_
  clear hK K
  (try simp only [Act.put, List.setIfInBounds_toArray, List.set_cons_zero, List.set_cons_succ])
  refine ord_heavy rfl rfl (fun K hK => ?_)
  go_simp
  (go_at_call 27; clear tk16; (with_reducible refine (not_any _ _ _ _ _ hs13 HC13.out).mono ?_); rintro e u14 ⟨a14, n14, c14, l14, rfl, hs14, hc14, hm14, hb⟩; have hF := hF.trans (hb.mono hF.size); have hs13 := hs13.below hb (Nat.le_refl _); have HC14 := Lib.hid hc14; have HM14 := Lib.hid hm14; clear hc14 hm14; clear hb; have tk17 : Hid True := trivial)
  (try go_wp2_with fail)
  refine hK.out _ _ ⟨(hF.cell (p := ⟨w2.heap.size, 0, none⟩) z2).trans q1, (hF.cell (p := ⟨w3.heap.size, 0, none⟩) z3).trans q2, (hF.cell (p := ⟨w4.heap.size, 0, none⟩) z4).trans q3⟩ ?_
  clear hK K
  (try simp only [Act.put, List.setIfInBounds_toArray, List.set_cons_zero, List.set_cons_succ])
  refine ord_heavy rfl rfl (fun K hK => ?_)
  go_simp
  (go_at_call 18; clear tk17; (with_reducible refine (setEqual_t _ _ _ _ _ _ _ _ _ hs14 (HSA.out.below hF (Nat.le_refl _)) (dl3 HCA.out HCB.out HCC.out HC13.out HM13.out HC14.out HM14.out)).mono ?_); rintro e u15 ⟨rfl, hb⟩; have hF := hF.trans (hb.mono hF.size); have hs14 := hs14.below hb (Nat.le_refl _); clear hb; have tk18 : Hid True := trivial)
  (try go_wp2_with fail)
  refine hK.out _ _ ⟨(hF.cell (p := ⟨w2.heap.size, 0, none⟩) z2).trans q1, (hF.cell (p := ⟨w3.heap.size, 0, none⟩) z3).trans q2, (hF.cell (p := ⟨w4.heap.size, 0, none⟩) z4).trans q3⟩ ?_
  clear hK K
  (try simp only [Act.put, List.setIfInBounds_toArray, List.set_cons_zero, List.set_cons_succ])
  refine' ord_light (v := _) rfl rfl rfl (fun w' hSw => ?_) ?_
  rotate_left
  · ((try dsimp only at hSw); go_simp <;> (with_reducible rfl))
  (try simp only [Act.put, List.setIfInBounds_toArray, List.set_cons_zero, List.set_cons_succ])
  refine' ord_light (v := _) rfl rfl rfl (fun w' hSw => ?_) ?_
  rotate_left
  · ((try dsimp only at hSw); go_simp <;> (with_reducible rfl))
  (try simp only [Act.put, List.setIfInBounds_toArray, List.set_cons_zero, List.set_cons_succ])
  refine' ord_light (v := _) rfl rfl rfl (fun w' hSw => ?_) ?_
  rotate_left
  · ((try dsimp only at hSw); go_simp <;> (with_reducible rfl))
  (try simp only [Act.put, List.setIfInBounds_toArray, List.set_cons_zero, List.set_cons_succ])
  refine' ord_light (v := _) rfl rfl rfl (fun w' hSw => ?_) ?_
  rotate_left
  · ((try dsimp only at hSw); go_simp <;> (with_reducible rfl))
  (try simp only [Act.put, List.setIfInBounds_toArray, List.set_cons_zero, List.set_cons_succ])
  refine' ord_light (v := _) rfl rfl rfl (fun w' hSw => ?_) ?_
  rotate_left
  · ((try dsimp only at hSw); go_simp <;> (with_reducible rfl))
  (try simp only [Act.put, List.setIfInBounds_toArray, List.set_cons_zero, List.set_cons_succ])
  refine' ord_light (v := _) rfl rfl rfl (fun w' hSw => ?_) ?_
  rotate_left
  · ((try dsimp only at hSw); go_simp <;> (with_reducible rfl))
  (try simp only [Act.put, List.setIfInBounds_toArray, List.set_cons_zero, List.set_cons_succ])
  refine' ord_light (v := _) rfl rfl rfl (fun w' hSw => ?_) ?_
  rotate_left
  · ((try dsimp only at hSw); go_simp <;> (with_reducible rfl))
  (try simp only [Act.put, List.setIfInBounds_toArray, List.set_cons_zero, List.set_cons_succ])
  refine ord_heavy rfl rfl (fun K hK => ?_)
  go_simp
  (go_at_call 26; clear tk18; (with_reducible refine (minus_any _ _ _ _ _ _ _ _ _ (HSA.out.below hF (Nat.le_refl _)) (HSB.out.below hF (Nat.le_refl _)) HCA.out HCB.out).mono ?_); rintro e u16 ⟨a16, n16, c16, l16, rfl, hs16, hc16, hm16, hb⟩; have hF := hF.trans (hb.mono hF.size); have HC16 := Lib.hid hc16; have HM16 := Lib.hid hm16; clear hc16 hm16; clear hb; have tk19 : Hid True := trivial)
  (try go_wp2_with fail)
  refine hK.out _ _ ⟨(hF.cell (p := ⟨w2.heap.size, 0, none⟩) z2).trans q1, (hF.cell (p := ⟨w3.heap.size, 0, none⟩) z3).trans q2, (hF.cell (p := ⟨w4.heap.size, 0, none⟩) z4).trans q3⟩ ?_
  clear hK K
  (try simp only [Act.put, List.setIfInBounds_toArray, List.set_cons_zero, List.set_cons_succ])
  refine ord_heavy rfl rfl (fun K hK => ?_)
  go_simp
  (go_at_call 27; clear tk19; (with_reducible refine (not_any _ _ _ _ _ (HSB.out.below hF (Nat.le_refl _)) HCB.out).mono ?_); rintro e u17 ⟨a17, n17, c17, l17, rfl, hs17, hc17, hm17, hb⟩; have hF := hF.trans (hb.mono hF.size); have hs16 := hs16.below hb (Nat.le_refl _); have HC17 := Lib.hid hc17; have HM17 := Lib.hid hm17; clear hc17 hm17; clear hb; have tk20 : Hid True := trivial)
  (try go_wp2_with fail)
  refine hK.out _ _ ⟨(hF.cell (p := ⟨w2.heap.size, 0, none⟩) z2).trans q1, (hF.cell (p := ⟨w3.heap.size, 0, none⟩) z3).trans q2, (hF.cell (p := ⟨w4.heap.size, 0, none⟩) z4).trans q3⟩ ?_
  clear hK K
  (try simp only [Act.put, List.setIfInBounds_toArray, List.set_cons_zero, List.set_cons_succ])
  refine ord_heavy rfl rfl (fun K hK => ?_)
  go_simp
  (go_at_call 25; clear tk20; (with_reducible refine (and_any _ _ _ _ _ _ _ _ _ (HSA.out.below hF (Nat.le_refl _)) hs17 HCA.out HC17.out).mono ?_); rintro e u18 ⟨a18, n18, c18, l18, rfl, hs18, hc18, hm18, hb⟩; have hF := hF.trans (hb.mono hF.size); have hs16 := hs16.below hb (Nat.le_refl _); have hs17 := hs17.below hb (Nat.le_refl _); have HC18 := Lib.hid hc18; have HM18 := Lib.hid hm18; clear hc18 hm18; clear hb; have tk21 : Hid True := trivial)
  (try go_wp2_with fail)
  refine hK.out _ _ ⟨(hF.cell (p := ⟨w2.heap.size, 0, none⟩) z2).trans q1, (hF.cell (p := ⟨w3.heap.size, 0, none⟩) z3).trans q2, (hF.cell (p := ⟨w4.heap.size, 0, none⟩) z4).trans q3⟩ ?_
  clear hK K
  (try simp only [Act.put, List.setIfInBounds_toArray, List.set_cons_zero, List.set_cons_succ])
  refine ord_heavy rfl rfl (fun K hK => ?_)
  go_simp
  (go_at_call 18; clear tk21; (with_reducible refine (setEqual_t _ _ _ _ _ _ _ _ _ hs16 hs18 (dl4 HCA.out HCB.out HCC.out HC16.out HM16.out HC17.out HM17.out HC18.out HM18.out)).mono ?_); rintro e u19 ⟨rfl, hb⟩; have hF := hF.trans (hb.mono hF.size); have hs16 := hs16.below hb (Nat.le_refl _); have hs18 := hs18.below hb (Nat.le_refl _); clear hb; have tk22 : Hid True := trivial)
  (try go_wp2_with fail)
  refine hK.out _ _ ⟨(hF.cell (p := ⟨w2.heap.size, 0, none⟩) z2).trans q1, (hF.cell (p := ⟨w3.heap.size, 0, none⟩) z3).trans q2, (hF.cell (p := ⟨w4.heap.size, 0, none⟩) z4).trans q3⟩ ?_
  clear hK K
  (try simp only [Act.put, List.setIfInBounds_toArray, List.set_cons_zero, List.set_cons_succ])
  refine' ord_light (v := _) rfl rfl rfl (fun w' hSw => ?_) ?_
  rotate_left
  · ((try dsimp only at hSw); go_simp <;> (with_reducible rfl))
  (try simp only [Act.put, List.setIfInBounds_toArray, List.set_cons_zero, List.set_cons_succ])
  refine' ord_light (v := _) rfl rfl rfl (fun w' hSw => ?_) ?_
  rotate_left
  · ((try dsimp only at hSw); go_simp <;> (with_reducible rfl))
  (try simp only [Act.put, List.setIfInBounds_toArray, List.set_cons_zero, List.set_cons_succ])
  refine ord_nil (NoPanic.normal ?_)
  go_wp2_with fail
  have hF := hF.drew
  refine wp_region_noPanic ?_
  refine region_ord (S := fun w' => w'.cell? ⟨w2.heap.size, 0, none⟩ = some (.slice aA nA cA) ∧ w'.cell? ⟨w3.heap.size, 0, none⟩ = some (.slice aB nB cB) ∧ w'.cell? ⟨w4.heap.size, 0, none⟩ = some (.slice aC nC cC)) [0, 1, 2, 3, 4, 5, 6, 7, 8, 9, 10, 11, 12, 13, 14, 16, 15, 17, 18, 19, 20, 21, 22, 23, 24, 25, 26, 29, 30, 34, 36, 27, 28, 31, 32, 33, 35, 37, 38, 39, 40, 41, 42, 43, 44, 45, 46] (by kernel_rfl) (by decide +kernel) (fun _ _ _ _ _ h => h) ⟨(hF.cell (p := ⟨w2.heap.size, 0, none⟩) z2).trans q1, (hF.cell (p := ⟨w3.heap.size, 0, none⟩) z3).trans q2, (hF.cell (p := ⟨w4.heap.size, 0, none⟩) z4).trans q3⟩ (fun _ => ?_)
  refine' ord_light (v := _) rfl rfl rfl (fun w' hSw => ?_) ?_
  rotate_left
  · ((try dsimp only at hSw); go_simp <;> (with_reducible rfl))
  (try simp only [Act.put, List.setIfInBounds_toArray, List.set_cons_zero, List.set_cons_succ])
  refine' ord_light (v := _) rfl rfl rfl (fun w' hSw => ?_) ?_
  rotate_left
  · ((try dsimp only at hSw); go_simp <;> (with_reducible rfl))
  (try simp only [Act.put, List.setIfInBounds_toArray, List.set_cons_zero, List.set_cons_succ])
  refine ord_heavy rfl rfl (fun K hK => ?_)
  go_simp
  (go_at_call 27; clear tk22; (with_reducible refine (not_any _ _ _ _ _ (HSA.out.below hF (Nat.le_refl _)) HCA.out).mono ?_); rintro e u20 ⟨a20, n20, c20, l20, rfl, hs20, hc20, hm20, hb⟩; have hF := hF.trans (hb.mono hF.size); have HC20 := Lib.hid hc20; have HM20 := Lib.hid hm20; clear hc20 hm20; clear hb; have tk23 : Hid True := trivial)
  (try go_wp2_with fail)
  refine hK.out _ _ ⟨(hF.cell (p := ⟨w2.heap.size, 0, none⟩) z2).trans q1, (hF.cell (p := ⟨w3.heap.size, 0, none⟩) z3).trans q2, (hF.cell (p := ⟨w4.heap.size, 0, none⟩) z4).trans q3⟩ ?_
  clear hK K
  (try simp only [Act.put, List.setIfInBounds_toArray, List.set_cons_zero, List.set_cons_succ])
  refine ord_heavy rfl rfl (fun K hK => ?_)
  go_simp
  (go_at_call 24; clear tk23; (with_reducible refine (or_any _ _ _ _ _ _ _ _ _ (HSA.out.below hF (Nat.le_refl _)) hs20 HCA.out HC20.out).mono ?_); rintro e u21 ⟨a21, n21, c21, l21, rfl, hs21, hc21, hm21, hb⟩; have hF := hF.trans (hb.mono hF.size); have hs20 := hs20.below hb (Nat.le_refl _); have HC21 := Lib.hid hc21; have HM21 := Lib.hid hm21; clear hc21 hm21; clear hb; have tk24 : Hid True := trivial)
  (try go_wp2_with fail)
  refine hK.out _ _ ⟨(hF.cell (p := ⟨w2.heap.size, 0, none⟩) z2).trans q1, (hF.cell (p := ⟨w3.heap.size, 0, none⟩) z3).trans q2, (hF.cell (p := ⟨w4.heap.size, 0, none⟩) z4).trans q3⟩ ?_
  clear hK K
  (try simp only [Act.put, List.setIfInBounds_toArray, List.set_cons_zero, List.set_cons_succ])
  refine ord_heavy rfl rfl (fun K hK => ?_)
  go_simp
  (go_at_call 28; clear tk24; (with_reducible refine (all_any _).mono ?_); rintro e u22 ⟨a22, n22, c22, l22, rfl, hs22, hc22, hm22, hb⟩; have hF := hF.trans (hb.mono hF.size); have hs21 := hs21.below hb (Nat.le_refl _); have HC22 := Lib.hid hc22; have HM22 := Lib.hid hm22; clear hc22 hm22; clear hb; have tk25 : Hid True := trivial)
  (try go_wp2_with fail)
  refine hK.out _ _ ⟨(hF.cell (p := ⟨w2.heap.size, 0, none⟩) z2).trans q1, (hF.cell (p := ⟨w3.heap.size, 0, none⟩) z3).trans q2, (hF.cell (p := ⟨w4.heap.size, 0, none⟩) z4).trans q3⟩ ?_
  clear hK K
  (try simp only [Act.put, List.setIfInBounds_toArray, List.set_cons_zero, List.set_cons_succ])
  refine ord_heavy rfl rfl (fun K hK => ?_)
  go_simp
  (go_at_call 18; clear tk25; (with_reducible refine (setEqual_t _ _ _ _ _ _ _ _ _ hs21 hs22 (dl5 HCA.out HCB.out HCC.out HC20.out HM20.out HC21.out HM21.out HC22.out HM22.out)).mono ?_); rintro e u23 ⟨rfl, hb⟩; have hF := hF.trans (hb.mono hF.size); have hs21 := hs21.below hb (Nat.le_refl _); have hs22 := hs22.below hb (Nat.le_refl _); clear hb; have tk26 : Hid True := trivial)
  (try go_wp2_with fail)
  refine hK.out _ _ ⟨(hF.cell (p := ⟨w2.heap.size, 0, none⟩) z2).trans q1, (hF.cell (p := ⟨w3.heap.size, 0, none⟩) z3).trans q2, (hF.cell (p := ⟨w4.heap.size, 0, none⟩) z4).trans q3⟩ ?_
  clear hK K
  (try simp only [Act.put, List.setIfInBounds_toArray, List.set_cons_zero, List.set_cons_succ])
  refine' ord_light (v := _) rfl rfl rfl (fun w' hSw => ?_) ?_
  rotate_left
  · ((try dsimp only at hSw); go_simp <;> (with_reducible rfl))
  (try simp only [Act.put, List.setIfInBounds_toArray, List.set_cons_zero, List.set_cons_succ])
  refine' ord_light (v := _) rfl rfl rfl (fun w' hSw => ?_) ?_
  rotate_left
  · ((try dsimp only at hSw); go_simp <;> (with_reducible rfl))
  (try simp only [Act.put, List.setIfInBounds_toArray, List.set_cons_zero, List.set_cons_succ])
  refine' ord_light (v := _) rfl rfl rfl (fun w' hSw => ?_) ?_
  rotate_left
  · ((try dsimp only at hSw); go_simp <;> (with_reducible rfl))
  (try simp only [Act.put, List.setIfInBounds_toArray, List.set_cons_zero, List.set_cons_succ])
  refine ord_heavy rfl rfl (fun K hK => ?_)
  go_simp
  (go_at_call 27; clear tk26; (with_reducible refine (not_any _ _ _ _ _ (HSA.out.below hF (Nat.le_refl _)) HCA.out).mono ?_); rintro e u24 ⟨a24, n24, c24, l24, rfl, hs24, hc24, hm24, hb⟩; have hF := hF.trans (hb.mono hF.size); have HC24 := Lib.hid hc24; have HM24 := Lib.hid hm24; clear hc24 hm24; clear hb; have tk27 : Hid True := trivial)
  (try go_wp2_with fail)
  refine hK.out _ _ ⟨(hF.cell (p := ⟨w2.heap.size, 0, none⟩) z2).trans q1, (hF.cell (p := ⟨w3.heap.size, 0, none⟩) z3).trans q2, (hF.cell (p := ⟨w4.heap.size, 0, none⟩) z4).trans q3⟩ ?_
  clear hK K
  (try simp only [Act.put, List.setIfInBounds_toArray, List.set_cons_zero, List.set_cons_succ])
  refine ord_heavy rfl rfl (fun K hK => ?_)
  go_simp
  (go_at_call 25; clear tk27; (with_reducible refine (and_any _ _ _ _ _ _ _ _ _ (HSA.out.below hF (Nat.le_refl _)) hs24 HCA.out HC24.out).mono ?_); rintro e u25 ⟨a25, n25, c25, l25, rfl, hs25, hc25, hm25, hb⟩; have hF := hF.trans (hb.mono hF.size); have hs24 := hs24.below hb (Nat.le_refl _); have HC25 := Lib.hid hc25; have HM25 := Lib.hid hm25; clear hc25 hm25; clear hb; have tk28 : Hid True := trivial)
  (try go_wp2_with fail)
  refine hK.out _ _ ⟨(hF.cell (p := ⟨w2.heap.size, 0, none⟩) z2).trans q1, (hF.cell (p := ⟨w3.heap.size, 0, none⟩) z3).trans q2, (hF.cell (p := ⟨w4.heap.size, 0, none⟩) z4).trans q3⟩ ?_
  clear hK K
  (try simp only [Act.put, List.setIfInBounds_toArray, List.set_cons_zero, List.set_cons_succ])
  refine ord_heavy rfl rfl (fun K hK => ?_)
  go_simp
  (go_at_call 17; clear tk28; (with_reducible refine (empty_t _ _ _ _ _ hs25 (dl6 HCA.out HC24.out HM24.out HC25.out HM25.out)).mono ?_); rintro e u26 ⟨rfl, hb⟩; have hF := hF.trans (hb.mono hF.size); have hs25 := hs25.below hb (Nat.le_refl _); clear hb; have tk29 : Hid True := trivial)
  (try go_wp2_with fail)
  refine hK.out _ _ ⟨(hF.cell (p := ⟨w2.heap.size, 0, none⟩) z2).trans q1, (hF.cell (p := ⟨w3.heap.size, 0, none⟩) z3).trans q2, (hF.cell (p := ⟨w4.heap.size, 0, none⟩) z4).trans q3⟩ ?_
  clear hK K
  (try simp only [Act.put, List.setIfInBounds_toArray, List.set_cons_zero, List.set_cons_succ])
  refine' ord_light (v := _) rfl rfl rfl (fun w' hSw => ?_) ?_
  rotate_left
  · ((try dsimp only at hSw); go_simp <;> (with_reducible rfl))
  (try simp only [Act.put, List.setIfInBounds_toArray, List.set_cons_zero, List.set_cons_succ])
  refine' ord_light (v := _) rfl rfl rfl (fun w' hSw => ?_) ?_
  rotate_left
  · ((try dsimp only at hSw); go_simp <;> (with_reducible rfl))
  (try simp only [Act.put, List.setIfInBounds_toArray, List.set_cons_zero, List.set_cons_succ])
  refine' ord_light (v := _) rfl rfl rfl (fun w' hSw => ?_) ?_
  rotate_left
  · ((try dsimp only at hSw); go_simp <;> (with_reducible rfl))
  (try simp only [Act.put, List.setIfInBounds_toArray, List.set_cons_zero, List.set_cons_succ])
  refine' ord_light (v := _) rfl rfl rfl (fun w' hSw => ?_) ?_
  rotate_left
  · ((try dsimp only at hSw); go_simp <;> (with_reducible rfl))
  (try simp only [Act.put, List.setIfInBounds_toArray, List.set_cons_zero, List.set_cons_succ])
  refine ord_heavy rfl rfl (fun K hK => ?_)
  go_simp
  (go_at_call 29; clear tk29; (with_reducible refine (len_x _ _ _ _ _ (HSA.out.below hF (Nat.le_refl _)) HCA.out _ HXA.out).mono ?_); rintro e u27 ⟨rfl, hb⟩; have hF := hF.trans (hb.mono hF.size); clear hb; have tk30 : Hid True := trivial)
  (try go_wp2_with fail)
  refine hK.out _ _ ⟨(hF.cell (p := ⟨w2.heap.size, 0, none⟩) z2).trans q1, (hF.cell (p := ⟨w3.heap.size, 0, none⟩) z3).trans q2, (hF.cell (p := ⟨w4.heap.size, 0, none⟩) z4).trans q3⟩ ?_
  clear hK K
  (try simp only [Act.put, List.setIfInBounds_toArray, List.set_cons_zero, List.set_cons_succ])
  refine ord_heavy rfl rfl (fun K hK => ?_)
  go_simp
  (go_at_call 27; clear tk30; (with_reducible refine (not_any _ _ _ _ _ (HSA.out.below hF (Nat.le_refl _)) HCA.out).mono ?_); rintro e u28 ⟨a28, n28, c28, l28, rfl, hs28, hc28, hm28, hb⟩; have hF := hF.trans (hb.mono hF.size); have HC28 := Lib.hid hc28; have HM28 := Lib.hid hm28; clear hc28 hm28; clear hb; have tk31 : Hid True := trivial)
  (try go_wp2_with fail)
  refine hK.out _ _ ⟨(hF.cell (p := ⟨w2.heap.size, 0, none⟩) z2).trans q1, (hF.cell (p := ⟨w3.heap.size, 0, none⟩) z3).trans q2, (hF.cell (p := ⟨w4.heap.size, 0, none⟩) z4).trans q3⟩ ?_
  clear hK K
  (try simp only [Act.put, List.setIfInBounds_toArray, List.set_cons_zero, List.set_cons_succ])
  refine ord_heavy rfl rfl (fun K hK => ?_)
  go_simp
  (go_at_call 29; clear tk31; (with_reducible refine (len_t _ _ _ _ _ hs28 HC28.out _ _ HM28.out HXN.out).mono ?_); rintro e u29 ⟨rfl, hb⟩; have hF := hF.trans (hb.mono hF.size); have hs28 := hs28.below hb (Nat.le_refl _); clear hb; have tk32 : Hid True := trivial)
  (try go_wp2_with fail)
  refine hK.out _ _ ⟨(hF.cell (p := ⟨w2.heap.size, 0, none⟩) z2).trans q1, (hF.cell (p := ⟨w3.heap.size, 0, none⟩) z3).trans q2, (hF.cell (p := ⟨w4.heap.size, 0, none⟩) z4).trans q3⟩ ?_
  clear hK K
  (try simp only [Act.put, List.setIfInBounds_toArray, List.set_cons_zero, List.set_cons_succ])
  refine' ord_light (v := _) rfl rfl rfl (fun w' hSw => ?_) ?_
  rotate_left
  · ((try dsimp only at hSw); go_simp <;> (with_reducible rfl))
  (try simp only [Act.put, List.setIfInBounds_toArray, List.set_cons_zero, List.set_cons_succ])
  refine ord_heavy rfl rfl (fun K hK => ?_)
  go_simp
  (go_at_call 28; clear tk32; (with_reducible refine (all_any _).mono ?_); rintro e u30 ⟨a30, n30, c30, l30, rfl, hs30, hc30, hm30, hb⟩; have hF := hF.trans (hb.mono hF.size); have HC30 := Lib.hid hc30; have HM30 := Lib.hid hm30; clear hc30 hm30; clear hb; have tk33 : Hid True := trivial)
  (try go_wp2_with fail)
  refine hK.out _ _ ⟨(hF.cell (p := ⟨w2.heap.size, 0, none⟩) z2).trans q1, (hF.cell (p := ⟨w3.heap.size, 0, none⟩) z3).trans q2, (hF.cell (p := ⟨w4.heap.size, 0, none⟩) z4).trans q3⟩ ?_
  clear hK K
  (try simp only [Act.put, List.setIfInBounds_toArray, List.set_cons_zero, List.set_cons_succ])
  refine ord_heavy rfl rfl (fun K hK => ?_)
  go_simp
  (go_at_call 29; clear tk33; (with_reducible refine (len_t _ _ _ _ _ hs30 HC30.out _ _ HM30.out HXL.out).mono ?_); rintro e u31 ⟨rfl, hb⟩; have hF := hF.trans (hb.mono hF.size); have hs30 := hs30.below hb (Nat.le_refl _); clear hb; have tk34 : Hid True := trivial)
  (try go_wp2_with fail)
  refine hK.out _ _ ⟨(hF.cell (p := ⟨w2.heap.size, 0, none⟩) z2).trans q1, (hF.cell (p := ⟨w3.heap.size, 0, none⟩) z3).trans q2, (hF.cell (p := ⟨w4.heap.size, 0, none⟩) z4).trans q3⟩ ?_
  clear hK K
  (try simp only [Act.put, List.setIfInBounds_toArray, List.set_cons_zero, List.set_cons_succ])
  refine' ord_light (v := _) rfl rfl rfl (fun w' hSw => ?_) ?_
  rotate_left
  · ((try dsimp only at hSw); go_simp <;> (with_reducible rfl))
  (try simp only [Act.put, List.setIfInBounds_toArray, List.set_cons_zero, List.set_cons_succ])
  refine' ord_light (v := _) rfl rfl rfl (fun w' hSw => ?_) ?_
  rotate_left
  · ((try dsimp only at hSw); go_simp <;> (with_reducible rfl))
  (try simp only [Act.put, List.setIfInBounds_toArray, List.set_cons_zero, List.set_cons_succ])
  refine' ord_light (v := _) rfl rfl rfl (fun w' hSw => ?_) ?_
  rotate_left
  · ((try dsimp only at hSw); go_simp <;> (with_reducible rfl))
  (try simp only [Act.put, List.setIfInBounds_toArray, List.set_cons_zero, List.set_cons_succ])
  refine' ord_light (v := _) rfl rfl rfl (fun w' hSw => ?_) ?_
  rotate_left
  · ((try dsimp only at hSw); go_simp <;> (with_reducible rfl))
  (try simp only [Act.put, List.setIfInBounds_toArray, List.set_cons_zero, List.set_cons_succ])
  refine' ord_light (v := _) rfl rfl rfl (fun w' hSw => ?_) ?_
  rotate_left
  · ((try dsimp only at hSw); go_simp <;> (with_reducible rfl))
  (try simp only [Act.put, List.setIfInBounds_toArray, List.set_cons_zero, List.set_cons_succ])
  refine' ord_light (v := _) rfl rfl rfl (fun w' hSw => ?_) ?_
  rotate_left
  · ((try dsimp only at hSw); go_simp <;> (with_reducible rfl))
  (try simp only [Act.put, List.setIfInBounds_toArray, List.set_cons_zero, List.set_cons_succ])
  refine' ord_light (v := _) rfl rfl rfl (fun w' hSw => ?_) ?_
  rotate_left
  · ((try dsimp only at hSw); go_simp <;> (with_reducible rfl))
  (try simp only [Act.put, List.setIfInBounds_toArray, List.set_cons_zero, List.set_cons_succ])
  refine' ord_light (v := _) rfl rfl rfl (fun w' hSw => ?_) ?_
  rotate_left
  · ((try dsimp only at hSw); go_simp <;> (with_reducible rfl))
  (try simp only [Act.put, List.setIfInBounds_toArray, List.set_cons_zero, List.set_cons_succ])
  refine' ord_light (v := _) rfl rfl rfl (fun w' hSw => ?_) ?_
  rotate_left
  · ((try dsimp only at hSw); go_simp <;> (with_reducible rfl))
  (try simp only [Act.put, List.setIfInBounds_toArray, List.set_cons_zero, List.set_cons_succ])
  refine ord_heavy rfl rfl (fun K hK => ?_)
  go_simp
  (go_at_call 24; clear tk34; (with_reducible refine (or_any _ _ _ _ _ _ _ _ _ (HSA.out.below hF (Nat.le_refl _)) (HSB.out.below hF (Nat.le_refl _)) HCA.out HCB.out).mono ?_); rintro e u32 ⟨a32, n32, c32, l32, rfl, hs32, hc32, hm32, hb⟩; have hF := hF.trans (hb.mono hF.size); have HC32 := Lib.hid hc32; have HM32 := Lib.hid hm32; clear hc32 hm32; clear hb; have tk35 : Hid True := trivial)
  (try go_wp2_with fail)
  refine hK.out _ _ ⟨(hF.cell (p := ⟨w2.heap.size, 0, none⟩) z2).trans q1, (hF.cell (p := ⟨w3.heap.size, 0, none⟩) z3).trans q2, (hF.cell (p := ⟨w4.heap.size, 0, none⟩) z4).trans q3⟩ ?_
  clear hK K
  (try simp only [Act.put, List.setIfInBounds_toArray, List.set_cons_zero, List.set_cons_succ])
  refine ord_heavy rfl rfl (fun K hK => ?_)
  go_simp
  (go_at_call 29; clear tk35; (with_reducible refine (len_t _ _ _ _ _ hs32 HC32.out _ _ HM32.out HXO.out).mono ?_); rintro e u33 ⟨rfl, hb⟩; have hF := hF.trans (hb.mono hF.size); have hs32 := hs32.below hb (Nat.le_refl _); clear hb; have tk36 : Hid True := trivial)
  (try go_wp2_with fail)
  refine hK.out _ _ ⟨(hF.cell (p := ⟨w2.heap.size, 0, none⟩) z2).trans q1, (hF.cell (p := ⟨w3.heap.size, 0, none⟩) z3).trans q2, (hF.cell (p := ⟨w4.heap.size, 0, none⟩) z4).trans q3⟩ ?_
  clear hK K
  (try simp only [Act.put, List.setIfInBounds_toArray, List.set_cons_zero, List.set_cons_succ])
  refine ord_heavy rfl rfl (fun K hK => ?_)
  go_simp
  (go_at_call 25; clear tk36; (with_reducible refine (and_any _ _ _ _ _ _ _ _ _ (HSA.out.below hF (Nat.le_refl _)) (HSB.out.below hF (Nat.le_refl _)) HCA.out HCB.out).mono ?_); rintro e u34 ⟨a34, n34, c34, l34, rfl, hs34, hc34, hm34, hb⟩; have hF := hF.trans (hb.mono hF.size); have HC34 := Lib.hid hc34; have HM34 := Lib.hid hm34; clear hc34 hm34; clear hb; have tk37 : Hid True := trivial)
  (try go_wp2_with fail)
  refine hK.out _ _ ⟨(hF.cell (p := ⟨w2.heap.size, 0, none⟩) z2).trans q1, (hF.cell (p := ⟨w3.heap.size, 0, none⟩) z3).trans q2, (hF.cell (p := ⟨w4.heap.size, 0, none⟩) z4).trans q3⟩ ?_
  clear hK K
  (try simp only [Act.put, List.setIfInBounds_toArray, List.set_cons_zero, List.set_cons_succ])
  refine ord_heavy rfl rfl (fun K hK => ?_)
  go_simp
  (go_at_call 29; clear tk37; (with_reducible refine (len_t _ _ _ _ _ hs34 HC34.out _ _ HM34.out HXD.out).mono ?_); rintro e u35 ⟨rfl, hb⟩; have hF := hF.trans (hb.mono hF.size); have hs34 := hs34.below hb (Nat.le_refl _); clear hb; have tk38 : Hid True := trivial)
  (try go_wp2_with fail)
  refine hK.out _ _ ⟨(hF.cell (p := ⟨w2.heap.size, 0, none⟩) z2).trans q1, (hF.cell (p := ⟨w3.heap.size, 0, none⟩) z3).trans q2, (hF.cell (p := ⟨w4.heap.size, 0, none⟩) z4).trans q3⟩ ?_
  clear hK K
  (try simp only [Act.put, List.setIfInBounds_toArray, List.set_cons_zero, List.set_cons_succ])
  refine' ord_light (v := _) rfl rfl rfl (fun w' hSw => ?_) ?_
  rotate_left
  · ((try dsimp only at hSw); go_simp <;> (with_reducible rfl))
  (try simp only [Act.put, List.setIfInBounds_toArray, List.set_cons_zero, List.set_cons_succ])
  refine ord_heavy rfl rfl (fun K hK => ?_)
  go_simp
  (go_at_call 29; clear tk38; (with_reducible refine (len_x _ _ _ _ _ (HSA.out.below hF (Nat.le_refl _)) HCA.out _ HXA.out).mono ?_); rintro e u36 ⟨rfl, hb⟩; have hF := hF.trans (hb.mono hF.size); clear hb; have tk39 : Hid True := trivial)
  (try go_wp2_with fail)
  refine hK.out _ _ ⟨(hF.cell (p := ⟨w2.heap.size, 0, none⟩) z2).trans q1, (hF.cell (p := ⟨w3.heap.size, 0, none⟩) z3).trans q2, (hF.cell (p := ⟨w4.heap.size, 0, none⟩) z4).trans q3⟩ ?_
  clear hK K
  (try simp only [Act.put, List.setIfInBounds_toArray, List.set_cons_zero, List.set_cons_succ])
  refine ord_heavy rfl rfl (fun K hK => ?_)
  go_simp
  (go_at_call 29; clear tk39; (with_reducible refine (len_x _ _ _ _ _ (HSB.out.below hF (Nat.le_refl _)) HCB.out _ HXB.out).mono ?_); rintro e u37 ⟨rfl, hb⟩; have hF := hF.trans (hb.mono hF.size); clear hb; have tk40 : Hid True := trivial)
  (try go_wp2_with fail)
  refine hK.out _ _ ⟨(hF.cell (p := ⟨w2.heap.size, 0, none⟩) z2).trans q1, (hF.cell (p := ⟨w3.heap.size, 0, none⟩) z3).trans q2, (hF.cell (p := ⟨w4.heap.size, 0, none⟩) z4).trans q3⟩ ?_
  clear hK K
  (try simp only [Act.put, List.setIfInBounds_toArray, List.set_cons_zero, List.set_cons_succ])
  refine' ord_light (v := _) rfl rfl rfl (fun w' hSw => ?_) ?_
  rotate_left
  · ((try dsimp only at hSw); go_simp <;> (with_reducible rfl))
  (try simp only [Act.put, List.setIfInBounds_toArray, List.set_cons_zero, List.set_cons_succ])
  refine' ord_light (v := _) rfl rfl rfl (fun w' hSw => ?_) ?_
  rotate_left
  · ((try dsimp only at hSw); go_simp <;> (with_reducible rfl))
  (try simp only [Act.put, List.setIfInBounds_toArray, List.set_cons_zero, List.set_cons_succ])
  refine' ord_light (v := _) rfl rfl rfl (fun w' hSw => ?_) ?_
  rotate_left
  · ((try dsimp only at hSw); go_simp <;> (with_reducible rfl))
  (try simp only [Act.put, List.setIfInBounds_toArray, List.set_cons_zero, List.set_cons_succ])
  refine' ord_light (v := _) rfl rfl rfl (fun w' hSw => ?_) ?_
  rotate_left
  · ((try dsimp only at hSw); go_simp <;> (with_reducible rfl))
  (try simp only [Act.put, List.setIfInBounds_toArray, List.set_cons_zero, List.set_cons_succ])
  refine ord_heavy rfl rfl (fun K hK => ?_)
  go_simp
  (go_at_call 28; clear tk40; (with_reducible refine (all_any _).mono ?_); rintro e u38 ⟨a38, n38, c38, l38, rfl, hs38, hc38, hm38, hb⟩; have hF := hF.trans (hb.mono hF.size); have HC38 := Lib.hid hc38; have HM38 := Lib.hid hm38; clear hc38 hm38; clear hb; have tk41 : Hid True := trivial)
  (try go_wp2_with fail)
  refine hK.out _ _ ⟨(hF.cell (p := ⟨w2.heap.size, 0, none⟩) z2).trans q1, (hF.cell (p := ⟨w3.heap.size, 0, none⟩) z3).trans q2, (hF.cell (p := ⟨w4.heap.size, 0, none⟩) z4).trans q3⟩ ?_
  clear hK K
  (try simp only [Act.put, List.setIfInBounds_toArray, List.set_cons_zero, List.set_cons_succ])
  refine ord_heavy rfl rfl (fun K hK => ?_)
  go_simp
  (go_at_call 29; clear tk41; (with_reducible refine (len_t _ _ _ _ _ hs38 HC38.out _ _ HM38.out HXL.out).mono ?_); rintro e u39 ⟨rfl, hb⟩; have hF := hF.trans (hb.mono hF.size); have hs38 := hs38.below hb (Nat.le_refl _); clear hb; have tk42 : Hid True := trivial)
  (try go_wp2_with fail)
  refine hK.out _ _ ⟨(hF.cell (p := ⟨w2.heap.size, 0, none⟩) z2).trans q1, (hF.cell (p := ⟨w3.heap.size, 0, none⟩) z3).trans q2, (hF.cell (p := ⟨w4.heap.size, 0, none⟩) z4).trans q3⟩ ?_
  clear hK K
  (try simp only [Act.put, List.setIfInBounds_toArray, List.set_cons_zero, List.set_cons_succ])
  refine' ord_light (v := _) rfl rfl rfl (fun w' hSw => ?_) ?_
  rotate_left
  · ((try dsimp only at hSw); go_simp <;> (with_reducible rfl))
  (try simp only [Act.put, List.setIfInBounds_toArray, List.set_cons_zero, List.set_cons_succ])
  refine' ord_light (v := _) rfl rfl rfl (fun w' hSw => ?_) ?_
  rotate_left
  · ((try dsimp only at hSw); go_simp <;> (with_reducible rfl))
  (try simp only [Act.put, List.setIfInBounds_toArray, List.set_cons_zero, List.set_cons_succ])
  refine' ord_light (v := _) rfl rfl rfl (fun w' hSw => ?_) ?_
  rotate_left
  · ((try dsimp only at hSw); go_simp <;> (with_reducible rfl))
  (try simp only [Act.put, List.setIfInBounds_toArray, List.set_cons_zero, List.set_cons_succ])
  refine ord_nil (NoPanic.normal ?_)
  go_wp2_with fail
  go_ret
  exact ⟨rfl, hBW.trans (hF.mono hBW.size)⟩
end Go.Proofs.YtgbonpmakahibaaDoor.Dy
