/- The walk of BitsReads. -/
import Derived.Test.YtaekkpoknpnnbaaDoorBuG
namespace Go.Proofs.YtaekkpoknpnnbaaDoor
open Go.RowKit Go.PlainAid
set_option linter.unusedVariables false
set_option linter.unusedSimpArgs false
set_option maxHeartbeats 4000000

set_option maxRecDepth 20000 in
theorem bitsReads_walk (a b : Option Addr) (n m cap dap : Nat) (zs : List Int) (ps : List Nat) (w : World) (hW : Wld w) (h : Iw w a n cap zs) (h2 : Bw w b m dap ps) (h3 : b = none ∧ m = 0 ∧ dap = 0 ∨ ∃ b' o, b = some ⟨b', o, none⟩) :
    Calls Tryd.prog 7 #[.slice a n cap, .slice b m dap] w fun e w' => e = .returned (.bool true) ∧ Below w.heap.size w w' := by
  obtain ⟨n', ys, hn, hi, hf⟩ := few_do a n cap zs w h
  obtain ⟨k, hk⟩ : ∃ k : Nat, min (m : Int) 600 = k := ⟨min m 600, by omega⟩
  have hk2 : min m 600 = k := by omega
  have hp := h2.take 600
  rw [hk2] at hp
  have hmd := h2.2.1
  have hmd2 := h2.2.2.1
  have hkd : k ≤ dap := by omega
  obtain ⟨qs, hqs⟩ : ∃ qs, qs = ps.take 600 := ⟨_, rfl⟩
  rw [← hqs] at hp
  obtain ⟨L, eL⟩ : ∃ L, L = ofL ys := ⟨_, rfl⟩
  have AL : Hid (Asc L) := by rw [eL]; exact asc_ofL ys
  have HM6 : Hid (k ≤ 600) := by show _ ≤ _; omega
  have HM1 : Hid (k ≤ 1000000) := by show _ ≤ _; omega
  have EL := Lib.hid eL
  have HW := Lib.hid hW
  have HF := Lib.hid hf
  have HI := Lib.hid hi
  have HP := Lib.hid hp
  clear hW hf hi h eL h2 hp hqs hk2
  have tk0 : Hid True := trivial
  have hkz : b = none → k = 0 := fun e => by
    rcases h3 with ⟨_, hm0, _⟩ | ⟨b', o, e2⟩
    · subst hm0; omega
    · rw [e] at e2; cases e2
  have h3' : b = none ∧ k = 0 ∧ dap = 0 ∧ m = 0 ∨ ∃ b' o, b = some ⟨b', o, none⟩ := by
    rcases h3 with ⟨e, hm0, hd⟩ | h3
    · exact .inl ⟨e, hkz e, hd, hm0⟩
    · exact .inr h3
  clear h3 hkz
  have hz600 : min (0 : Int) 600 = 0 := by decide
  rcases h3' with ⟨rfl, rfl, rfl, rfl⟩ | ⟨b', o, rfl⟩
  all_goals
    by_cases hok : readOK qs
    · have HOK := Lib.hid hok
      have HY : Hid (Yw w _ _ _ (readL qs)) := ⟨qs, bytes_readL hok HP.out.2.2.2.1, HP.out⟩
      clear hok
      go_enter Tryd.func7, Tryd.ntmps7
      go_wp2_with (first
        | (go_at_call 13; (with_reducible refine (awake_any _ HW.out).mono ?_); rintro e w0 ⟨rfl, hB⟩)
        | (go_at_call 14; (with_reducible refine (HF.out _ hB).mono ?_); rintro e wf ⟨rfl, hw⟩; rw [hw]; clear hw)
        | (go_at_call 17; clear tk0; (with_reducible refine (r_of _ _ _ _ _ (HI.out.below hB)).mono ?_); have tk1 : Hid True := trivial; rintro e w1 ⟨a1, n1, c1, rfl, hi1, hb⟩; have hB := step_call hB hb; clear hb; rw [← EL.out] at hi1)
        | (go_at_call 16; clear tk1; (with_reducible refine (of_self _ _ _ L _ hi1 AL.out).mono ?_); have tk2 : Hid True := trivial; rintro e w2 ⟨a2, n2, c2, rfl, hs2, hb⟩; have hB := step_call hB hb; have hi1 := hi1.below hb; clear hb)
        | (go_at_call 23; clear tk2; (with_reducible refine (b_bytes _ _ _ L _ hs2).mono ?_); have tk3 : Hid True := trivial; rintro e w3 ⟨a3, n3, c3, rfl, hi3, hb⟩; have hB := step_call hB hb; have hi1 := hi1.below hb; have hs2 := hs2.below hb; clear hb)
        | (go_at_call 29; clear tk3; (with_reducible refine (r_bytes _ _ _ L _ hi1 AL.out).mono ?_); have tk4 : Hid True := trivial; rintro e w4 ⟨a4, n4, c4, rfl, hi4, hb⟩; have hB := step_call hB hb; have hi1 := hi1.below hb; have hi3 := hi3.below hb; clear hb)
        | (go_at_call 28; clear tk4; (with_reducible refine (eqY _ _ _ _ _ _ L _ hi3 hi4).mono ?_); have tk5 : Hid True := trivial; rintro e w5 ⟨rfl, hb⟩; have hB := step_call hB hb; have hi3 := hi3.below hb; have hi4 := hi4.below hb; clear hb)
        | (go_at_call 30; clear tk5; (with_reducible refine (read_yes _ _ _ _ _ (HP.out.below hB) HM6.out HOK.out).mono ?_); have tk6 : Hid True := trivial; rintro e w6 ⟨a6, n6, c6, rfl, hs6, hb⟩; have hB := step_call hB hb; clear hb; have hBW := hB; have hz : w6.heap.size + 1 ≤ ((w6).alloc (.cells #[.slice a6 n6 c6] 27)).heap.size := (by simp); have hE := Below.refl (w6.heap.size + 1) ((w6).alloc (.cells #[.slice a6 n6 c6] 27)); clear hB; obtain ⟨q1, hD⟩ := box1 hE; have hB := step_call hBW hD; have HXs6 := Lib.hid hs6; clear hs6)
        | (go_at_call 31; clear tk6; (with_reducible refine (rread_yes _ _ _ _ _ (HP.out.below hB) HM6.out HOK.out).mono ?_); have tk7 : Hid True := trivial; rintro e w7 ⟨a7, n7, c7, rfl, hi7, hb⟩; have hE := step_callB hE hz hb; clear q1 hD hB; obtain ⟨q1, hD⟩ := box1 hE; have hB := step_call hBW hD; clear hb)
        | (go_at_call 15; clear tk7; (with_reducible refine (is_yes _ _ _ _ _ _ _ _ (HXs6.out.below hD) hi7 (HW.out.below hB)).mono ?_); have tk8 : Hid True := trivial; rintro e w8 ⟨rfl, hb⟩; have hE := step_callB hE hz hb; clear q1 hD hB; obtain ⟨q1, hD⟩ := box1 hE; have hB := step_call hBW hD; have hi7 := hi7.below hb; clear hb)
        | (go_at_call 23; clear tk8; (with_reducible refine (b_bytes _ _ _ _ _ (HXs6.out.below hD)).mono ?_); have tk9 : Hid True := trivial; rintro e w9 ⟨a9, n9, c9, rfl, hi9, hb⟩; have hE := step_callB hE hz hb; clear q1 hD hB; obtain ⟨q1, hD⟩ := box1 hE; have hB := step_call hBW hD; clear hb)
        | (go_at_call 28; clear tk9; (with_reducible refine (eqY _ _ _ _ _ _ _ _ hi9 (HY.out.below hB)).mono ?_); have tk10 : Hid True := trivial; rintro e w10 ⟨rfl, hb⟩; have hE := step_callB hE hz hb; clear q1 hD hB; obtain ⟨q1, hD⟩ := box1 hE; have hB := step_call hBW hD; have hi9 := hi9.below hb; clear hb))
      go_ret
      exact ⟨rfl, hB⟩
    · have HNO := Lib.hid hok
      clear hok
      go_enter Tryd.func7, Tryd.ntmps7
      go_wp2_with (first
        | (go_at_call 13; (with_reducible refine (awake_any _ HW.out).mono ?_); rintro e w0 ⟨rfl, hB⟩)
        | (go_at_call 14; (with_reducible refine (HF.out _ hB).mono ?_); rintro e wf ⟨rfl, hw⟩; rw [hw]; clear hw)
        | (go_at_call 17; clear tk0; (with_reducible refine (r_of _ _ _ _ _ (HI.out.below hB)).mono ?_); have tk1 : Hid True := trivial; rintro e w1 ⟨a1, n1, c1, rfl, hi1, hb⟩; have hB := step_call hB hb; clear hb; rw [← EL.out] at hi1)
        | (go_at_call 16; clear tk1; (with_reducible refine (of_self _ _ _ L _ hi1 AL.out).mono ?_); have tk2 : Hid True := trivial; rintro e w2 ⟨a2, n2, c2, rfl, hs2, hb⟩; have hB := step_call hB hb; have hi1 := hi1.below hb; clear hb)
        | (go_at_call 23; clear tk2; (with_reducible refine (b_bytes _ _ _ L _ hs2).mono ?_); have tk3 : Hid True := trivial; rintro e w3 ⟨a3, n3, c3, rfl, hi3, hb⟩; have hB := step_call hB hb; have hi1 := hi1.below hb; have hs2 := hs2.below hb; clear hb)
        | (go_at_call 29; clear tk3; (with_reducible refine (r_bytes _ _ _ L _ hi1 AL.out).mono ?_); have tk4 : Hid True := trivial; rintro e w4 ⟨a4, n4, c4, rfl, hi4, hb⟩; have hB := step_call hB hb; have hi1 := hi1.below hb; have hi3 := hi3.below hb; clear hb)
        | (go_at_call 28; clear tk4; (with_reducible refine (eqY _ _ _ _ _ _ L _ hi3 hi4).mono ?_); have tk5 : Hid True := trivial; rintro e w5 ⟨rfl, hb⟩; have hB := step_call hB hb; have hi3 := hi3.below hb; have hi4 := hi4.below hb; clear hb)
        | (go_at_call 30; clear tk5; (with_reducible refine (read_bad _ _ _ _ _ (HP.out.below hB) HM1.out HNO.out).mono ?_); have tk6 : Hid True := trivial; rintro e w6 ⟨rfl, hb⟩; have hB := step_call hB hb; clear hb)
        | (go_at_call 31; (with_reducible refine (rread_no _ _ _ _ _ (HP.out.below (hB.alloc hB.size _)) HM6.out HNO.out).mono ?_); rintro e w7 ⟨rfl, hb⟩; have q7 := (hb.cell (p := ⟨w6.heap.size, 0, none⟩) (by simp)).trans (new1 w6 _ _).1; have hB := step_call (hB.alloc hB.size _) hb)
        | (go_at_call 27; (with_reducible refine (empty_any _ _ _ [] _ (Bs.nil _)).mono ?_); rintro e w8 ⟨rfl, hb⟩; have hB := step_call hB hb))
      go_ret
      exact ⟨rfl, hB⟩
end Go.Proofs.YtaekkpoknpnnbaaDoor
