/- The walk of BitsOrders. -/
import Derived.Test.YtaekkpoknpnnbaaDoorBuE
namespace Go.Proofs.YtaekkpoknpnnbaaDoor
open Go.RowKit Go.PlainAid
set_option linter.unusedVariables false
set_option linter.unusedSimpArgs false
set_option maxHeartbeats 8000000

set_option maxRecDepth 20000 in
theorem bitsOrders_walk (a b d : Option Addr) (n m k cap dap eap : Nat) (zs xs vs : List Int) (w : World) (hW : Wld w) (h : Iw w a n cap zs) (h2 : Iw w b m dap xs) (h3 : Iw w d k eap vs) :
    Calls Tryd.prog 8 #[.slice a n cap, .slice b m dap, .slice d k eap] w fun e w' => e = .returned (.bool true) ∧ Below w.heap.size w w' := by
  obtain ⟨n', ys, hn, hi, hf⟩ := few_do a n cap zs w h
  obtain ⟨m', us, hm, hj, hg⟩ := few_do b m dap xs w h2
  obtain ⟨k', ts, hk, hl, hh⟩ := few_do d k eap vs w h3
  obtain ⟨L, eL⟩ : ∃ L, L = ofL ys := ⟨_, rfl⟩
  obtain ⟨M, eM⟩ : ∃ M, M = ofL us := ⟨_, rfl⟩
  obtain ⟨K, eK⟩ : ∃ K, K = ofL ts := ⟨_, rfl⟩
  obtain ⟨x, ex⟩ : ∃ x, cmpL L M = x := ⟨_, rfl⟩
  obtain ⟨y, ey⟩ : ∃ y, cmpL M K = y := ⟨_, rfl⟩
  obtain ⟨z, ez⟩ : ∃ z, cmpL L K = z := ⟨_, rfl⟩
  have e2 : cmpL M L = -x := by rw [cmpL_neg, ex]
  have e3 : decide (L = M) = decide (x = 0) := by
    rw [decide_eq_decide, ← ex]
    exact ⟨fun h => by rw [h]; exact cmpL_self _, cmpL_zero L M⟩
  have c1 := cmpL_cases L M
  have c2 := cmpL_cases M K
  have c3 := cmpL_cases L K
  have tr := cmpL_trans L M K
  rw [ex] at c1 tr
  rw [ey] at c2 tr
  rw [ez] at c3 tr
  have hcase : x = 1 ∨ ((x = 0 ∨ x = -1) ∧ (y = 1 ∨ ((y = 0 ∨ y = -1) ∧ (z = 0 ∨ z = -1)))) := by omega
  have EL := Lib.hid eL
  have EM := Lib.hid eM
  have EK := Lib.hid eK
  have HC1 := Lib.hid ex
  have HC2 := Lib.hid e2
  have HC3 := Lib.hid e3
  have HC4 := Lib.hid ey
  have HC5 := Lib.hid ez
  have HW := Lib.hid hW
  have HF := Lib.hid hf
  have HI := Lib.hid hi
  have HG := Lib.hid hg
  have HJ := Lib.hid hj
  have HH := Lib.hid hh
  have HK := Lib.hid hl
  clear hW hf hi h hg hj h2 hh hl h3 eL eM eK ex e2 e3 ey ez c1 c2 c3 tr
  have tk0 : Hid True := trivial
  rcases hcase with rfl | ⟨rfl | rfl, rfl | ⟨rfl | rfl, rfl | rfl⟩⟩
  all_goals
    go_enter Tryd.func8, Tryd.ntmps8
    go_wp2_with (first
      | (go_at_call 13; (with_reducible refine (awake_any _ HW.out).mono ?_); rintro e w0 ⟨rfl, hB⟩)
      | (go_at_call 14; (with_reducible refine (HF.out _ hB).mono ?_); rintro e wf ⟨rfl, hw⟩; rw [hw]; clear hw)
      | (go_at_call 16; clear tk0; (with_reducible refine (of_any _ _ _ _ _ (HI.out.below hB) (by omega)).mono ?_); have tk1 : Hid True := trivial; rintro e w1 ⟨a1, n1, c1, rfl, hs1, hb⟩; have hB := step_call hB hb; clear hb; rw [← EL.out] at hs1)
      | (go_at_call 14; (with_reducible refine (HG.out _ hB).mono ?_); rintro e wf ⟨rfl, hw⟩; rw [hw]; clear hw)
      | (go_at_call 16; clear tk1; (with_reducible refine (of_any _ _ _ _ _ (HJ.out.below hB) (by omega)).mono ?_); have tk2 : Hid True := trivial; rintro e w2 ⟨a2, n2, c2, rfl, hs2, hb⟩; have hB := step_call hB hb; have hs1 := hs1.below hb; clear hb; rw [← EM.out] at hs2)
      | (go_at_call 14; (with_reducible refine (HH.out _ hB).mono ?_); rintro e wf ⟨rfl, hw⟩; rw [hw]; clear hw)
      | (go_at_call 16; clear tk2; (with_reducible refine (of_any _ _ _ _ _ (HK.out.below hB) (by omega)).mono ?_); have tk3 : Hid True := trivial; rintro e w3 ⟨a3, n3, c3, rfl, hs3, hb⟩; have hB := step_call hB hb; have hs1 := hs1.below hb; have hs2 := hs2.below hb; clear hb; rw [← EK.out] at hs3; have hBW := hB; have hz : w3.heap.size + 3 ≤ ((((w3).alloc (.cells #[.slice a1 n1 c1] 27)).alloc (.cells #[.slice a2 n2 c2] 27)).alloc (.cells #[.slice a3 n3 c3] 27)).heap.size := (by simp); have hE := Below.refl (w3.heap.size + 3) ((((w3).alloc (.cells #[.slice a1 n1 c1] 27)).alloc (.cells #[.slice a2 n2 c2] 27)).alloc (.cells #[.slice a3 n3 c3] 27)); clear hB; obtain ⟨q1, q2, q3, -, -, hD⟩ := box3 hE; have hB := step_call hBW hD; have HXs1 := Lib.hid hs1; have HXs2 := Lib.hid hs2; have HXs3 := Lib.hid hs3; clear hs1 hs2 hs3)
      | (go_at_call 32; clear tk3; (with_reducible refine (compare_any _ _ _ _ _ _ _ _ _ (HXs1.out.below hD) (HXs2.out.below hD) (HW.out.below hB).tz).mono ?_); have tk4 : Hid True := trivial; rintro e w4 ⟨rfl, hb⟩; have hE := step_callB hE hz hb; clear q1 q2 q3 hD hB; obtain ⟨q1, q2, q3, -, -, hD⟩ := box3 hE; have hB := step_call hBW hD; clear hb; rw [HC1.out])
      | (go_at_call 17; clear tk4; (with_reducible refine (r_of _ _ _ _ _ (HI.out.below hB)).mono ?_); have tk5 : Hid True := trivial; rintro e w5 ⟨a5, n5, c5, rfl, hi5, hb⟩; have hE := step_callB hE hz hb; clear q1 q2 q3 hD hB; obtain ⟨q1, q2, q3, -, -, hD⟩ := box3 hE; have hB := step_call hBW hD; clear hb; rw [← EL.out] at hi5)
      | (go_at_call 17; clear tk5; (with_reducible refine (r_of _ _ _ _ _ (HJ.out.below hB)).mono ?_); have tk6 : Hid True := trivial; rintro e w6 ⟨a6, n6, c6, rfl, hi6, hb⟩; have hE := step_callB hE hz hb; clear q1 q2 q3 hD hB; obtain ⟨q1, q2, q3, -, -, hD⟩ := box3 hE; have hB := step_call hBW hD; have hi5 := hi5.below hb; clear hb; rw [← EM.out] at hi6)
      | (go_at_call 33; clear tk6; (with_reducible refine (rcompare_any _ _ _ _ _ _ _ _ _ hi5 hi6).mono ?_); have tk7 : Hid True := trivial; rintro e w7 ⟨rfl, hb⟩; have hE := step_callB hE hz hb; clear q1 q2 q3 hD hB; obtain ⟨q1, q2, q3, -, -, hD⟩ := box3 hE; have hB := step_call hBW hD; have hi5 := hi5.below hb; have hi6 := hi6.below hb; clear hb; rw [HC1.out])
      | (go_at_call 32; clear tk7; (with_reducible refine (compare_any _ _ _ _ _ _ _ _ _ (HXs2.out.below hD) (HXs1.out.below hD) (HW.out.below hB).tz).mono ?_); have tk8 : Hid True := trivial; rintro e w8 ⟨rfl, hb⟩; have hE := step_callB hE hz hb; clear q1 q2 q3 hD hB; obtain ⟨q1, q2, q3, -, -, hD⟩ := box3 hE; have hB := step_call hBW hD; clear hb; rw [HC2.out])
      | (go_at_call 34; clear tk8; (with_reducible refine (equal_any _ _ _ _ _ _ _ _ _ (HXs1.out.below hD) (HXs2.out.below hD)).mono ?_); have tk9 : Hid True := trivial; rintro e w9 ⟨rfl, hb⟩; have hE := step_callB hE hz hb; clear q1 q2 q3 hD hB; obtain ⟨q1, q2, q3, -, -, hD⟩ := box3 hE; have hB := step_call hBW hD; clear hb; rw [HC3.out])
      | (go_at_call 32; clear tk9; (with_reducible refine (compare_any _ _ _ _ _ _ _ _ _ (HXs2.out.below hD) (HXs3.out.below hD) (HW.out.below hB).tz).mono ?_); have tk10 : Hid True := trivial; rintro e w10 ⟨rfl, hb⟩; have hE := step_callB hE hz hb; clear q1 q2 q3 hD hB; obtain ⟨q1, q2, q3, -, -, hD⟩ := box3 hE; have hB := step_call hBW hD; clear hb; rw [HC4.out])
      | (go_at_call 32; clear tk10; (with_reducible refine (compare_any _ _ _ _ _ _ _ _ _ (HXs1.out.below hD) (HXs3.out.below hD) (HW.out.below hB).tz).mono ?_); have tk11 : Hid True := trivial; rintro e w11 ⟨rfl, hb⟩; have hE := step_callB hE hz hb; clear q1 q2 q3 hD hB; obtain ⟨q1, q2, q3, -, -, hD⟩ := box3 hE; have hB := step_call hBW hD; clear hb; rw [HC5.out]))
    go_ret
    exact ⟨rfl, hB⟩
end Go.Proofs.YtaekkpoknpnnbaaDoor
