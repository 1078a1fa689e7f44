/- The walk of BitsTexts. -/
import Derived.Test.YtaekkpoknpnnbaaDoorBuE
namespace Go.Proofs.YtaekkpoknpnnbaaDoor
open Go.RowKit Go.PlainAid
set_option linter.unusedVariables false
set_option linter.unusedSimpArgs false
set_option maxHeartbeats 4000000

set_option maxRecDepth 20000 in
theorem bitsTexts_walk (a : Option Addr) (n cap : Nat) (zs : List Int) (w : World) (hW : Wld w) (h : Iw w a n cap zs) :
    Calls Tryd.prog 5 #[.slice a n cap] w fun e w' => e = .returned (.bool true) ∧ Below w.heap.size w w' := by
  obtain ⟨n', ys, hn, hi, hf⟩ := few_do a n cap zs w h
  obtain ⟨L, eL⟩ : ∃ L, L = ofL ys := ⟨_, rfl⟩
  have AL : Hid (Asc L) := by rw [eL]; exact asc_ofL ys
  obtain ⟨t, ht⟩ : ∃ t : ByteArray, t = ⟨(textB L).toArray⟩ := ⟨_, rfl⟩
  have EL := Lib.hid eL
  have HT := Lib.hid ht
  have HW := Lib.hid hW
  have HF := Lib.hid hf
  have HI := Lib.hid hi
  clear hW hf hi h eL ht
  have tk0 : Hid True := trivial
  go_enter Tryd.func5, Tryd.ntmps5
  go_wp2_with (first
    | (go_at_call 13; (with_reducible refine (awake_any _ HW.out).mono ?_); rintro e w0 ⟨rfl, hB⟩)
    | (go_at_call 14; (with_reducible refine (HF.out _ hB).mono ?_); rintro e wf ⟨rfl, hw⟩; rw [hw]; clear hw)
    | (go_at_call 17; clear tk0; (with_reducible refine (r_of _ _ _ _ _ (HI.out.below hB)).mono ?_); have tk1 : Hid True := trivial; rintro e w1 ⟨a1, n1, c1, rfl, hi1, hb⟩; have hB := step_call hB hb; clear hb; rw [← EL.out] at hi1)
    | (go_at_call 25; clear tk1; (with_reducible refine (r_text t _ _ _ L _ HT.out hi1 AL.out).mono ?_); have tk2 : Hid True := trivial; rintro e w2 ⟨rfl, hb⟩; have hB := step_call hB hb; have hi1 := hi1.below hb; clear hb)
    | (go_at_call 24; clear tk2; (with_reducible refine (p_text t L _ HT.out AL.out (HW.out.below hB)).mono ?_); have tk3 : Hid True := trivial; rintro e w3 ⟨a3, n3, c3, rfl, hs3, hb⟩; have hB := step_call hB hb; have hi1 := hi1.below hb; clear hb; have hBW := hB; have hz : w3.heap.size + 1 ≤ ((w3).alloc (.cells #[.slice a3 n3 c3] 27)).heap.size := (by simp); have hE := Below.refl (w3.heap.size + 1) ((w3).alloc (.cells #[.slice a3 n3 c3] 27)); clear hB; obtain ⟨q1, hD⟩ := box1 hE; have hB := step_call hBW hD; have HXi1 := Lib.hid hi1; have HXs3 := Lib.hid hs3; clear hi1 hs3)
    | (go_at_call 16; clear tk3; (with_reducible refine (of_self _ _ _ L _ (HXi1.out.below hD) AL.out).mono ?_); have tk4 : Hid True := trivial; rintro e w4 ⟨a4, n4, c4, rfl, hs4, hb⟩; have hE := step_callB hE hz hb; clear q1 hD hB; obtain ⟨q1, hD⟩ := box1 hE; have hB := step_call hBW hD; clear hb)
    | (go_at_call 26; clear tk4; (with_reducible refine (b_text t _ _ _ L _ HT.out hs4 (HW.out.below hB)).mono ?_); have tk5 : Hid True := trivial; rintro e w5 ⟨rfl, hb⟩; have hE := step_callB hE hz hb; clear q1 hD hB; obtain ⟨q1, hD⟩ := box1 hE; have hB := step_call hBW hD; have hs4 := hs4.below hb; clear hb)
    | (go_at_call 25; clear tk5; (with_reducible refine (r_text t _ _ _ L _ HT.out (HXi1.out.below hD) AL.out).mono ?_); have tk6 : Hid True := trivial; rintro e w6 ⟨rfl, hb⟩; have hE := step_callB hE hz hb; clear q1 hD hB; obtain ⟨q1, hD⟩ := box1 hE; have hB := step_call hBW hD; clear hb)
    | (go_at_call 15; clear tk6; (with_reducible refine (is_yes _ _ _ _ _ _ _ _ (HXs3.out.below hD) (HXi1.out.below hD) (HW.out.below hB)).mono ?_); have tk7 : Hid True := trivial; rintro e w7 ⟨rfl, hb⟩; have hE := step_callB hE hz hb; clear q1 hD hB; obtain ⟨q1, hD⟩ := box1 hE; have hB := step_call hBW hD; clear hb))
  go_ret
  exact ⟨rfl, hB⟩
end Go.Proofs.YtaekkpoknpnnbaaDoor
