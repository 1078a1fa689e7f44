/- The walk of BitsCombines. -/
import Derived.Test.YtaekkpoknpnnbaaDoorBuE
namespace Go.Proofs.YtaekkpoknpnnbaaDoor
open Go.RowKit Go.PlainAid
set_option linter.unusedVariables false
set_option linter.unusedSimpArgs false
set_option maxHeartbeats 4000000

theorem or_ofL (ys us : List Int) : orL (ofL ys) (ofL us) = ofL (ys ++ us) := by
  refine asc_ext (asc_orL _ _) (asc_ofL _) fun x => ?_
  rw [mem_orL, mem_ofL, mem_ofL, mem_ofL, List.mem_append]
  constructor
  · rintro ⟨h, ⟨_, h2⟩ | ⟨_, h2⟩⟩
    · exact ⟨h, .inl h2⟩
    · exact ⟨h, .inr h2⟩
  · rintro ⟨h, h2 | h2⟩
    · exact ⟨h, .inl ⟨h, h2⟩⟩
    · exact ⟨h, .inr ⟨h, h2⟩⟩
set_option maxRecDepth 20000 in
theorem bitsCombines_walk (a b : Option Addr) (n m cap dap : Nat) (zs xs : List Int) (w : World) (hW : Wld w) (h : Iw w a n cap zs) (h2 : Iw w b m dap xs) :
    Calls Tryd.prog 9 #[.slice a n cap, .slice b m dap] w fun e w' => e = .returned (.bool true) ∧ Below w.heap.size w w' := by
  obtain ⟨i0, hif, hz0, hz1, hz2⟩ := info_parts info3i
  obtain ⟨n', ys, hn, hi, hf⟩ := few_do a n cap zs w h
  obtain ⟨m', us, hm, hj, hg⟩ := few_do b m dap xs w h2
  have HO := Lib.hid (or_ofL ys us)
  have HW := Lib.hid hW
  have HF := Lib.hid hf
  have HI := Lib.hid hi
  have HG := Lib.hid hg
  have HJ := Lib.hid hj
  clear hW hf hi h hg hj h2
  have tk0 : Hid True := trivial
  go_enter Tryd.func9, Tryd.ntmps9
  go_wp2_with (first
    | (go_at_call 13; (with_reducible refine (awake_any _ HW.out).mono ?_); rintro e w0 ⟨rfl, hB⟩)
    | (go_at_call 14; (with_reducible refine (HF.out _ hB).mono ?_); rintro e wf ⟨rfl, hw⟩; rw [hw]; clear hw)
    | (go_at_call 14; (with_reducible refine (HG.out _ hB).mono ?_); rintro e wf ⟨rfl, hw⟩; rw [hw]; clear hw)
    | (go_at_call 16; clear tk0; (with_reducible refine (of_any _ _ _ _ _ (HI.out.below hB) (by omega)).mono ?_); have tk1 : Hid True := trivial; rintro e w1 ⟨a1, n1, c1, rfl, hs1, hb⟩; have hB := step_call hB hb; clear hb)
    | (go_at_call 16; clear tk1; (with_reducible refine (of_any _ _ _ _ _ (HJ.out.below hB) (by omega)).mono ?_); have tk2 : Hid True := trivial; rintro e w2 ⟨a2, n2, c2, rfl, hs2, hb⟩; have hB := step_call hB hb; have hs1 := hs1.below hb; clear hb)
    | (go_at_call 17; clear tk2; (with_reducible refine (r_of _ _ _ _ _ (HI.out.below hB)).mono ?_); have tk3 : Hid True := trivial; rintro e w3 ⟨a3, n3, c3, rfl, hi3, hb⟩; have hB := step_call hB hb; have hs1 := hs1.below hb; have hs2 := hs2.below hb; clear hb)
    | (go_at_call 17; clear tk3; (with_reducible refine (r_of _ _ _ _ _ (HJ.out.below hB)).mono ?_); have tk4 : Hid True := trivial; rintro e w4 ⟨a4, n4, c4, rfl, hi4, hb⟩; have hB := step_call hB hb; have hs1 := hs1.below hb; have hs2 := hs2.below hb; have hi3 := hi3.below hb; clear hb; have hBW := hB; have hz : w4.heap.size + 2 ≤ (((w4).alloc (.cells #[.slice a1 n1 c1] 27)).alloc (.cells #[.slice a2 n2 c2] 27)).heap.size := (by simp); have hE := Below.refl (w4.heap.size + 2) (((w4).alloc (.cells #[.slice a1 n1 c1] 27)).alloc (.cells #[.slice a2 n2 c2] 27)); clear hB; obtain ⟨q1, q2, -, -, hD⟩ := box2 hE; have hB := step_call hBW hD; have HXs1 := Lib.hid hs1; have HXs2 := Lib.hid hs2; have HXi3 := Lib.hid hi3; have HXi4 := Lib.hid hi4; clear hs1 hs2 hi3 hi4)
    | (go_at_call 35; clear tk4; (with_reducible refine (or_any _ _ _ _ _ _ _ _ _ (HXs1.out.below hD) (HXs2.out.below hD)).mono ?_); have tk5 : Hid True := trivial; rintro e w5 ⟨a5, n5, c5, rfl, hs5, hb⟩; have hE := step_callB hE hz hb; clear q1 q2 hD hB; obtain ⟨q1, q2, -, -, hD⟩ := box2 hE; have hB := step_call hBW hD; clear hb; rw [HO.out] at hs5)
    | (at_builtin; refine wpList_append_iw rfl (.tmp 26) (.tmp 27) rfl w5.heap.size i0 hif hz0 hz1 hz2 _ 0 [] rfl (empty_rowI w5) a n' cap ys rfl (HI.out.below (hB.alloc hB.size _)) (by omega) (by simp) ?_; intro v6 w6 ho6 hg6; have h6 : Below w5.heap.size w5 w6 := ((Below.refl w5.heap.size w5).alloc (Nat.le_refl _) _).grown hg6 (by simp) (fun b hb => by cases hb; exact Nat.le_refl _); clear hg6; have hB6 := step_call hB h6)
    | (at_builtin; refine wpList_append_iw rfl (.tmp 28) (.tmp 29) rfl w5.heap.size i0 hif hz0 hz1 hz2 v6 _ _ rfl ho6 b m' dap us rfl (HJ.out.below hB6) (by omega) h6.size ?_; intro v7 w7 ho7 hg7; have hb : Below w5.heap.size w5 w7 := h6.grown hg7 h6.size (fun b hb => (World.ownsRow.lt ho6 b hb).1); clear hg7 h6; obtain ⟨a7, c7, rfl, hi7⟩ := iw_of_row (zs := ys ++ us) (k := n' + m') (by simpa using ho7) (by rw [List.length_append, HI.out.1, HJ.out.1]); have hE := step_callB hE hz hb; clear q1 q2 hD hB; obtain ⟨q1, q2, -, -, hD⟩ := box2 hE; have hB := step_call hBW hD; have hs5 := hs5.below hb; clear hb)
    | (go_at_call 17; clear tk5; (with_reducible refine (r_of _ _ _ _ _ hi7).mono ?_); have tk6 : Hid True := trivial; rintro e w8 ⟨a8, n8, c8, rfl, hi8, hb⟩; have hE := step_callB hE hz hb; clear q1 q2 hD hB; obtain ⟨q1, q2, -, -, hD⟩ := box2 hE; have hB := step_call hBW hD; have hs5 := hs5.below hb; have hi7 := hi7.below hb; clear hb)
    | (go_at_call 15; clear tk6; (with_reducible refine (is_yes _ _ _ _ _ _ _ _ hs5 hi8 (HW.out.below hB)).mono ?_); have tk7 : Hid True := trivial; rintro e w9 ⟨rfl, hb⟩; have hE := step_callB hE hz hb; clear q1 q2 hD hB; obtain ⟨q1, q2, -, -, hD⟩ := box2 hE; have hB := step_call hBW hD; have hs5 := hs5.below hb; have hi8 := hi8.below hb; clear hb)
    | (go_at_call 36; clear tk7; (with_reducible refine (and_any _ _ _ _ _ _ _ _ _ (HXs1.out.below hD) (HXs2.out.below hD)).mono ?_); have tk8 : Hid True := trivial; rintro e w10 ⟨a10, n10, c10, rfl, hs10, hb⟩; have hE := step_callB hE hz hb; clear q1 q2 hD hB; obtain ⟨q1, q2, -, -, hD⟩ := box2 hE; have hB := step_call hBW hD; clear hb)
    | (go_at_call 37; clear tk8; (with_reducible refine (r_and _ _ _ _ _ _ _ _ _ (HXi3.out.below hD) (HXi4.out.below hD) (asc_ofL _)).mono ?_); have tk9 : Hid True := trivial; rintro e w11 ⟨a11, n11, c11, rfl, hi11, hb⟩; have hE := step_callB hE hz hb; clear q1 q2 hD hB; obtain ⟨q1, q2, -, -, hD⟩ := box2 hE; have hB := step_call hBW hD; have hs10 := hs10.below hb; clear hb)
    | (go_at_call 15; clear tk9; (with_reducible refine (is_yes _ _ _ _ _ _ _ _ hs10 hi11 (HW.out.below hB)).mono ?_); have tk10 : Hid True := trivial; rintro e w12 ⟨rfl, hb⟩; have hE := step_callB hE hz hb; clear q1 q2 hD hB; obtain ⟨q1, q2, -, -, hD⟩ := box2 hE; have hB := step_call hBW hD; have hs10 := hs10.below hb; have hi11 := hi11.below hb; clear hb)
    | (go_at_call 38; clear tk10; (with_reducible refine (minus_any _ _ _ _ _ _ _ _ _ (HXs1.out.below hD) (HXs2.out.below hD)).mono ?_); have tk11 : Hid True := trivial; rintro e w13 ⟨a13, n13, c13, rfl, hs13, hb⟩; have hE := step_callB hE hz hb; clear q1 q2 hD hB; obtain ⟨q1, q2, -, -, hD⟩ := box2 hE; have hB := step_call hBW hD; clear hb)
    | (go_at_call 39; clear tk11; (with_reducible refine (r_minus _ _ _ _ _ _ _ _ _ (HXi3.out.below hD) (HXi4.out.below hD) (asc_ofL _)).mono ?_); have tk12 : Hid True := trivial; rintro e w14 ⟨a14, n14, c14, rfl, hi14, hb⟩; have hE := step_callB hE hz hb; clear q1 q2 hD hB; obtain ⟨q1, q2, -, -, hD⟩ := box2 hE; have hB := step_call hBW hD; have hs13 := hs13.below hb; clear hb)
    | (go_at_call 15; clear tk12; (with_reducible refine (is_yes _ _ _ _ _ _ _ _ hs13 hi14 (HW.out.below hB)).mono ?_); have tk13 : Hid True := trivial; rintro e w15 ⟨rfl, hb⟩; have hE := step_callB hE hz hb; clear q1 q2 hD hB; obtain ⟨q1, q2, -, -, hD⟩ := box2 hE; have hB := step_call hBW hD; have hs13 := hs13.below hb; have hi14 := hi14.below hb; clear hb)
    | (go_at_call 15; clear tk13; (with_reducible refine (is_yes _ _ _ _ _ _ _ _ (HXs1.out.below hD) (HXi3.out.below hD) (HW.out.below hB)).mono ?_); have tk14 : Hid True := trivial; rintro e w16 ⟨rfl, hb⟩; have hE := step_callB hE hz hb; clear q1 q2 hD hB; obtain ⟨q1, q2, -, -, hD⟩ := box2 hE; have hB := step_call hBW hD; clear hb)
    | (go_at_call 15; clear tk14; (with_reducible refine (is_yes _ _ _ _ _ _ _ _ (HXs2.out.below hD) (HXi4.out.below hD) (HW.out.below hB)).mono ?_); have tk15 : Hid True := trivial; rintro e w17 ⟨rfl, hb⟩; have hE := step_callB hE hz hb; clear q1 q2 hD hB; obtain ⟨q1, q2, -, -, hD⟩ := box2 hE; have hB := step_call hBW hD; clear hb))
  go_ret
  exact ⟨rfl, hB⟩
end Go.Proofs.YtaekkpoknpnnbaaDoor
