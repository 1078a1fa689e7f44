/- The walk of BitsLaws. -/
import Derived.Test.YtaekkpoknpnnbaaDoorBuE
import Derived.Test.YtaekkpoknpnnbaaDoorReg
namespace Go.Proofs.YtaekkpoknpnnbaaDoor
open Go.RowKit Go.PlainAid
set_option linter.unusedVariables false
set_option linter.unusedSimpArgs false
set_option maxHeartbeats 8000000
set_option maxRecDepth 50000

theorem lwP0 {L M K : List Nat} (hL : Asc L) (hM : Asc M) (hK : Asc K) : decide ((orL L M) = (orL M L)) = true := decide_eq_true (by
    refine asc_ext (by repeat (first | assumption | apply asc_orL | apply asc_andL | apply asc_minL)) (by repeat (first | assumption | apply asc_orL | apply asc_andL | apply asc_minL)) fun x => ?_
    have q1 := hL.2 x
    have q2 := hM.2 x
    have q3 := hK.2 x
    by_cases p1 : x ∈ L <;> by_cases p2 : x ∈ M <;> by_cases p3 : x ∈ K <;> simp_all [mem_orL, mem_andL, mem_minL])

theorem lwP1 {L M K : List Nat} (hL : Asc L) (hM : Asc M) (hK : Asc K) : decide ((andL L M) = (andL M L)) = true := decide_eq_true (by
    refine asc_ext (by repeat (first | assumption | apply asc_orL | apply asc_andL | apply asc_minL)) (by repeat (first | assumption | apply asc_orL | apply asc_andL | apply asc_minL)) fun x => ?_
    have q1 := hL.2 x
    have q2 := hM.2 x
    have q3 := hK.2 x
    by_cases p1 : x ∈ L <;> by_cases p2 : x ∈ M <;> by_cases p3 : x ∈ K <;> simp_all [mem_orL, mem_andL, mem_minL])

theorem lwP2 {L M K : List Nat} (hL : Asc L) (hM : Asc M) (hK : Asc K) : decide ((orL L (orL M K)) = (orL (orL L M) K)) = true := decide_eq_true (by
    refine asc_ext (by repeat (first | assumption | apply asc_orL | apply asc_andL | apply asc_minL)) (by repeat (first | assumption | apply asc_orL | apply asc_andL | apply asc_minL)) fun x => ?_
    have q1 := hL.2 x
    have q2 := hM.2 x
    have q3 := hK.2 x
    by_cases p1 : x ∈ L <;> by_cases p2 : x ∈ M <;> by_cases p3 : x ∈ K <;> simp_all [mem_orL, mem_andL, mem_minL])

theorem lwP3 {L M K : List Nat} (hL : Asc L) (hM : Asc M) (hK : Asc K) : decide ((andL L (andL M K)) = (andL (andL L M) K)) = true := decide_eq_true (by
    refine asc_ext (by repeat (first | assumption | apply asc_orL | apply asc_andL | apply asc_minL)) (by repeat (first | assumption | apply asc_orL | apply asc_andL | apply asc_minL)) fun x => ?_
    have q1 := hL.2 x
    have q2 := hM.2 x
    have q3 := hK.2 x
    by_cases p1 : x ∈ L <;> by_cases p2 : x ∈ M <;> by_cases p3 : x ∈ K <;> simp_all [mem_orL, mem_andL, mem_minL])

theorem lwP4 {L M K : List Nat} (hL : Asc L) (hM : Asc M) (hK : Asc K) : decide ((andL L (orL M K)) = (orL (andL L M) (andL L K))) = true := decide_eq_true (by
    refine asc_ext (by repeat (first | assumption | apply asc_orL | apply asc_andL | apply asc_minL)) (by repeat (first | assumption | apply asc_orL | apply asc_andL | apply asc_minL)) fun x => ?_
    have q1 := hL.2 x
    have q2 := hM.2 x
    have q3 := hK.2 x
    by_cases p1 : x ∈ L <;> by_cases p2 : x ∈ M <;> by_cases p3 : x ∈ K <;> simp_all [mem_orL, mem_andL, mem_minL])

theorem lwP5 {L M K : List Nat} (hL : Asc L) (hM : Asc M) (hK : Asc K) : decide ((orL L (andL M K)) = (andL (orL L M) (orL L K))) = true := decide_eq_true (by
    refine asc_ext (by repeat (first | assumption | apply asc_orL | apply asc_andL | apply asc_minL)) (by repeat (first | assumption | apply asc_orL | apply asc_andL | apply asc_minL)) fun x => ?_
    have q1 := hL.2 x
    have q2 := hM.2 x
    have q3 := hK.2 x
    by_cases p1 : x ∈ L <;> by_cases p2 : x ∈ M <;> by_cases p3 : x ∈ K <;> simp_all [mem_orL, mem_andL, mem_minL])

theorem lwP6 {L M K : List Nat} (hL : Asc L) (hM : Asc M) (hK : Asc K) : decide ((minL L (orL M K)) = (minL (minL L M) K)) = true := decide_eq_true (by
    refine asc_ext (by repeat (first | assumption | apply asc_orL | apply asc_andL | apply asc_minL)) (by repeat (first | assumption | apply asc_orL | apply asc_andL | apply asc_minL)) fun x => ?_
    have q1 := hL.2 x
    have q2 := hM.2 x
    have q3 := hK.2 x
    by_cases p1 : x ∈ L <;> by_cases p2 : x ∈ M <;> by_cases p3 : x ∈ K <;> simp_all [mem_orL, mem_andL, mem_minL])

theorem lwP7 {L M K : List Nat} (hL : Asc L) (hM : Asc M) (hK : Asc K) : decide ((orL (minL L M) (andL L M)) = L) = true := decide_eq_true (by
    refine asc_ext (by repeat (first | assumption | apply asc_orL | apply asc_andL | apply asc_minL)) (by repeat (first | assumption | apply asc_orL | apply asc_andL | apply asc_minL)) fun x => ?_
    have q1 := hL.2 x
    have q2 := hM.2 x
    have q3 := hK.2 x
    by_cases p1 : x ∈ L <;> by_cases p2 : x ∈ M <;> by_cases p3 : x ∈ K <;> simp_all [mem_orL, mem_andL, mem_minL])

theorem lwP8 (L M K : List Nat) : decide (∃ x ∈ (minL L M), x ∈ M) = false := decide_eq_false (by rintro ⟨x, h1, h2⟩; exact (mem_minL.1 h1).2 h2)

theorem lwP9 {L M K : List Nat} (hL : Asc L) (hM : Asc M) (hK : Asc K) : decide ((orL L L) = L) = true := decide_eq_true (by
    refine asc_ext (by repeat (first | assumption | apply asc_orL | apply asc_andL | apply asc_minL)) (by repeat (first | assumption | apply asc_orL | apply asc_andL | apply asc_minL)) fun x => ?_
    have q1 := hL.2 x
    have q2 := hM.2 x
    have q3 := hK.2 x
    by_cases p1 : x ∈ L <;> by_cases p2 : x ∈ M <;> by_cases p3 : x ∈ K <;> simp_all [mem_orL, mem_andL, mem_minL])

theorem lwP10 {L M K : List Nat} (hL : Asc L) (hM : Asc M) (hK : Asc K) : decide ((orL L (andL L M)) = L) = true := decide_eq_true (by
    refine asc_ext (by repeat (first | assumption | apply asc_orL | apply asc_andL | apply asc_minL)) (by repeat (first | assumption | apply asc_orL | apply asc_andL | apply asc_minL)) fun x => ?_
    have q1 := hL.2 x
    have q2 := hM.2 x
    have q3 := hK.2 x
    by_cases p1 : x ∈ L <;> by_cases p2 : x ∈ M <;> by_cases p3 : x ∈ K <;> simp_all [mem_orL, mem_andL, mem_minL])

theorem bitsLaws_walk (a b d : Option Addr) (n m k cap dap eap : Nat) (zs xs vs : List Int) (w : World) (hW : Wld w) (h : Iw w a n cap zs) (h2 : Iw w b m dap xs) (h3 : Iw w d k eap vs) :
    Calls Tryd.prog 11 #[.slice a n cap, .slice b m dap, .slice d k eap] w fun e w' => e = .returned (.bool true) ∧ Below w.heap.size w w' := by
  obtain ⟨n', ys, hn, hi, hf⟩ := few_do a n cap zs w h
  obtain ⟨m', us, hm, hj, hg⟩ := few_do b m dap xs w h2
  obtain ⟨k', ts, hk, hl, hh⟩ := few_do d k eap vs w h3
  have hL := asc_ofL ys
  have hM := asc_ofL us
  have hK := asc_ofL ts
  obtain ⟨L, eL⟩ : ∃ L, L = ofL ys := ⟨_, rfl⟩
  obtain ⟨M, eM⟩ : ∃ M, M = ofL us := ⟨_, rfl⟩
  obtain ⟨K, eK⟩ : ∃ K, K = ofL ts := ⟨_, rfl⟩
  rw [← eL] at hL
  rw [← eM] at hM
  rw [← eK] at hK
  have HP0 : Hid (decide ((orL L M) = (orL M L)) = true) := lwP0 hL hM hK
  have HP1 : Hid (decide ((andL L M) = (andL M L)) = true) := lwP1 hL hM hK
  have HP2 : Hid (decide ((orL L (orL M K)) = (orL (orL L M) K)) = true) := lwP2 hL hM hK
  have HP3 : Hid (decide ((andL L (andL M K)) = (andL (andL L M) K)) = true) := lwP3 hL hM hK
  have HP4 : Hid (decide ((andL L (orL M K)) = (orL (andL L M) (andL L K))) = true) := lwP4 hL hM hK
  have HP5 : Hid (decide ((orL L (andL M K)) = (andL (orL L M) (orL L K))) = true) := lwP5 hL hM hK
  have HP6 : Hid (decide ((minL L (orL M K)) = (minL (minL L M) K)) = true) := lwP6 hL hM hK
  have HP7 : Hid (decide ((orL (minL L M) (andL L M)) = L) = true) := lwP7 hL hM hK
  have HP8 : Hid (decide (∃ x ∈ (minL L M), x ∈ M) = false) := lwP8 L M K
  have HP9 : Hid (decide ((orL L L) = L) = true) := lwP9 hL hM hK
  have HP10 : Hid (decide ((orL L (andL L M)) = L) = true) := lwP10 hL hM hK
  have EL := Lib.hid eL
  have EM := Lib.hid eM
  have EK := Lib.hid eK
  have HW := Lib.hid hW
  have HF := Lib.hid hf
  have HI := Lib.hid hi
  have HG := Lib.hid hg
  have HJ := Lib.hid hj
  have HH := Lib.hid hh
  have HK := Lib.hid hl
  clear hW hf hi h hg hj h2 hh hl h3 eL eM eK hL hM hK
  have tk0 : Hid True := trivial
  go_enter Tryd.func11, Tryd.ntmps11
  go_wp2_with (first
    | (go_at_call 13; (with_reducible refine (awake_any _ HW.out).mono ?_); rintro e w0 ⟨rfl, hB⟩)
    | (go_at_call 14; (with_reducible refine (HF.out _ hB).mono ?_); rintro e wf ⟨rfl, hw⟩; rw [hw]; clear hw)
    | (go_at_call 16; clear tk0; (with_reducible refine (of_any _ _ _ _ _ (HI.out.below hB) (by omega)).mono ?_); have tk1 : Hid True := trivial; rintro e w1 ⟨a1, n1, c1, rfl, hs1, hb⟩; rw [← EL.out] at hs1; have hB := step_call hB hb; clear hb)
    | (go_at_call 14; (with_reducible refine (HG.out _ hB).mono ?_); rintro e wf ⟨rfl, hw⟩; rw [hw]; clear hw)
    | (go_at_call 16; clear tk1; (with_reducible refine (of_any _ _ _ _ _ (HJ.out.below hB) (by omega)).mono ?_); have tk2 : Hid True := trivial; rintro e w2 ⟨a2, n2, c2, rfl, hs2, hb⟩; rw [← EM.out] at hs2; have hB := step_call hB hb; have hs1 := hs1.below hb; clear hb)
    | (go_at_call 14; (with_reducible refine (HH.out _ hB).mono ?_); rintro e wf ⟨rfl, hw⟩; rw [hw]; clear hw)
    | (go_at_call 16; clear tk2; (with_reducible refine (of_any _ _ _ _ _ (HK.out.below hB) (by omega)).mono ?_); have tk3 : Hid True := trivial; rintro e w3 ⟨a3, n3, c3, rfl, hs3, hb⟩; rw [← EK.out] at hs3; have hB := step_call hB hb; have hs1 := hs1.below hb; have hs2 := hs2.below hb; clear hb; have hBW := hB; have hz : w3.heap.size + 3 ≤ ((((w3).alloc (.cells #[.slice a1 n1 c1] 27)).alloc (.cells #[.slice a2 n2 c2] 27)).alloc (.cells #[.slice a3 n3 c3] 27)).heap.size := (by simp); have hE := (Below.refl (w3.heap.size + 3) ((((w3).alloc (.cells #[.slice a1 n1 c1] 27)).alloc (.cells #[.slice a2 n2 c2] 27)).alloc (.cells #[.slice a3 n3 c3] 27))).drew; clear hB; obtain ⟨q1, q2, q3, -, -, hD⟩ := box3 hE; have hB := step_call hBW hD; have HXs1 := Lib.hid hs1; have HXs2 := Lib.hid hs2; have HXs3 := Lib.hid hs3; clear hs1 hs2 hs3))
  simp only [List.append_eq, List.cons_append, List.nil_append]
  refine wp_region_noPanic ?_
  refine region_ord (S := fun w' => w'.cell? ⟨w3.heap.size, 0, none⟩ = some (.slice a1 n1 c1) ∧ w'.cell? ⟨w3.heap.size + 1, 0, none⟩ = some (.slice a2 n2 c2) ∧ w'.cell? ⟨w3.heap.size + 1 + 1, 0, none⟩ = some (.slice a3 n3 c3)) [0, 1, 3, 4, 2, 5, 6, 7, 8, 9, 11, 12, 10, 13, 14, 15, 16, 17, 18, 19, 22, 23, 25, 20, 21, 24, 26, 27, 28, 29, 30, 31, 32, 35, 36, 38, 33, 34, 37, 39, 40, 41, 42, 43, 44, 45, 48, 49, 51, 52, 46, 47, 50, 53, 54, 55, 56, 57, 58, 59, 60, 63, 64, 66, 67, 61, 62, 65, 68, 69, 70, 71, 72, 73, 74, 75, 78, 79, 81, 76, 77, 80, 82, 83, 84, 85, 86, 87, 89, 90, 93, 88, 91, 92, 94, 95, 96, 97, 98, 100, 99, 101, 102, 103, 104, 105, 106, 108, 107, 109, 110, 111, 112, 113, 114, 117, 115, 116, 118, 119, 120] (by kernel_rfl) (by decide +kernel) (fun _ _ _ _ _ h => h) ⟨q1, q2, q3⟩ (fun _ => ?_)
  refine' ord_light (v := _) rfl rfl rfl (fun w' hSw => ?_) ?_
  rotate_left
  · ((try dsimp only at hSw); go_simp <;> (with_reducible rfl))
  (try simp only [Act.put, List.setIfInBounds_toArray, List.set_cons_zero, List.set_cons_succ])
  refine' ord_light (v := _) rfl rfl rfl (fun w' hSw => ?_) ?_
  rotate_left
  · ((try dsimp only at hSw); go_simp <;> (with_reducible rfl))
  (try simp only [Act.put, List.setIfInBounds_toArray, List.set_cons_zero, List.set_cons_succ])
  refine' ord_light (v := _) rfl rfl rfl (fun w' hSw => ?_) ?_
  rotate_left
  · ((try dsimp only at hSw); go_simp <;> (with_reducible rfl))
  (try simp only [Act.put, List.setIfInBounds_toArray, List.set_cons_zero, List.set_cons_succ])
  refine' ord_light (v := _) rfl rfl rfl (fun w' hSw => ?_) ?_
  rotate_left
  · ((try dsimp only at hSw); go_simp <;> (with_reducible rfl))
  (try simp only [Act.put, List.setIfInBounds_toArray, List.set_cons_zero, List.set_cons_succ])
  refine ord_heavy rfl rfl (fun K hK => ?_)
  go_simp
  (go_at_call 35; clear tk3; (with_reducible refine (or_any _ _ _ _ _ _ _ _ _ (HXs1.out.below hD) (HXs2.out.below hD)).mono ?_); have tk4 : Hid True := trivial; rintro e w4 ⟨a4, n4, c4, rfl, hs4, hb⟩; have hE := step_callB hE hz hb; clear q1 q2 q3 hD hB; obtain ⟨q1, q2, q3, -, -, hD⟩ := box3 hE; have hB := step_call hBW hD; clear hb)
  (try go_wp2_with fail)
  refine hK.out _ _ ⟨q1, q2, q3⟩ ?_
  clear hK K
  (try simp only [Act.put, List.setIfInBounds_toArray, List.set_cons_zero, List.set_cons_succ])
  refine ord_heavy rfl rfl (fun K hK => ?_)
  go_simp
  (go_at_call 35; clear tk4; (with_reducible refine (or_any _ _ _ _ _ _ _ _ _ (HXs2.out.below hD) (HXs1.out.below hD)).mono ?_); have tk5 : Hid True := trivial; rintro e w5 ⟨a5, n5, c5, rfl, hs5, hb⟩; have hE := step_callB hE hz hb; clear q1 q2 q3 hD hB; obtain ⟨q1, q2, q3, -, -, hD⟩ := box3 hE; have hB := step_call hBW hD; have hs4 := hs4.below hb; clear hb)
  (try go_wp2_with fail)
  refine hK.out _ _ ⟨q1, q2, q3⟩ ?_
  clear hK K
  (try simp only [Act.put, List.setIfInBounds_toArray, List.set_cons_zero, List.set_cons_succ])
  refine ord_heavy rfl rfl (fun K hK => ?_)
  go_simp
  (go_at_call 34; clear tk5; (with_reducible refine (equal_any _ _ _ _ _ _ _ _ _ hs4 hs5).mono ?_); have tk6 : Hid True := trivial; rintro e w6 ⟨rfl, hb⟩; have hE := step_callB hE hz hb; clear q1 q2 q3 hD hB; obtain ⟨q1, q2, q3, -, -, hD⟩ := box3 hE; have hB := step_call hBW hD; have hs4 := hs4.below hb; have hs5 := hs5.below hb; clear hb; rw [HP0.out])
  (try go_wp2_with fail)
  refine hK.out _ _ ⟨q1, q2, q3⟩ ?_
  clear hK K
  (try simp only [Act.put, List.setIfInBounds_toArray, List.set_cons_zero, List.set_cons_succ])
  refine' ord_light (v := _) rfl rfl rfl (fun w' hSw => ?_) ?_
  rotate_left
  · ((try dsimp only at hSw); go_simp <;> (with_reducible rfl))
  (try simp only [Act.put, List.setIfInBounds_toArray, List.set_cons_zero, List.set_cons_succ])
  refine' ord_light (v := _) rfl rfl rfl (fun w' hSw => ?_) ?_
  rotate_left
  · ((try dsimp only at hSw); go_simp <;> (with_reducible rfl))
  (try simp only [Act.put, List.setIfInBounds_toArray, List.set_cons_zero, List.set_cons_succ])
  refine' ord_light (v := _) rfl rfl rfl (fun w' hSw => ?_) ?_
  rotate_left
  · ((try dsimp only at hSw); go_simp <;> (with_reducible rfl))
  (try simp only [Act.put, List.setIfInBounds_toArray, List.set_cons_zero, List.set_cons_succ])
  refine' ord_light (v := _) rfl rfl rfl (fun w' hSw => ?_) ?_
  rotate_left
  · ((try dsimp only at hSw); go_simp <;> (with_reducible rfl))
  (try simp only [Act.put, List.setIfInBounds_toArray, List.set_cons_zero, List.set_cons_succ])
  refine' ord_light (v := _) rfl rfl rfl (fun w' hSw => ?_) ?_
  rotate_left
  · ((try dsimp only at hSw); go_simp <;> (with_reducible rfl))
  (try simp only [Act.put, List.setIfInBounds_toArray, List.set_cons_zero, List.set_cons_succ])
  refine ord_heavy rfl rfl (fun K hK => ?_)
  go_simp
  (go_at_call 36; clear tk6; (with_reducible refine (and_any _ _ _ _ _ _ _ _ _ (HXs1.out.below hD) (HXs2.out.below hD)).mono ?_); have tk7 : Hid True := trivial; rintro e w7 ⟨a7, n7, c7, rfl, hs7, hb⟩; have hE := step_callB hE hz hb; clear q1 q2 q3 hD hB; obtain ⟨q1, q2, q3, -, -, hD⟩ := box3 hE; have hB := step_call hBW hD; clear hb)
  (try go_wp2_with fail)
  refine hK.out _ _ ⟨q1, q2, q3⟩ ?_
  clear hK K
  (try simp only [Act.put, List.setIfInBounds_toArray, List.set_cons_zero, List.set_cons_succ])
  refine ord_heavy rfl rfl (fun K hK => ?_)
  go_simp
  (go_at_call 36; clear tk7; (with_reducible refine (and_any _ _ _ _ _ _ _ _ _ (HXs2.out.below hD) (HXs1.out.below hD)).mono ?_); have tk8 : Hid True := trivial; rintro e w8 ⟨a8, n8, c8, rfl, hs8, hb⟩; have hE := step_callB hE hz hb; clear q1 q2 q3 hD hB; obtain ⟨q1, q2, q3, -, -, hD⟩ := box3 hE; have hB := step_call hBW hD; have hs7 := hs7.below hb; clear hb)
  (try go_wp2_with fail)
  refine hK.out _ _ ⟨q1, q2, q3⟩ ?_
  clear hK K
  (try simp only [Act.put, List.setIfInBounds_toArray, List.set_cons_zero, List.set_cons_succ])
  refine ord_heavy rfl rfl (fun K hK => ?_)
  go_simp
  (go_at_call 34; clear tk8; (with_reducible refine (equal_any _ _ _ _ _ _ _ _ _ hs7 hs8).mono ?_); have tk9 : Hid True := trivial; rintro e w9 ⟨rfl, hb⟩; have hE := step_callB hE hz hb; clear q1 q2 q3 hD hB; obtain ⟨q1, q2, q3, -, -, hD⟩ := box3 hE; have hB := step_call hBW hD; have hs7 := hs7.below hb; have hs8 := hs8.below hb; clear hb; rw [HP1.out])
  (try go_wp2_with fail)
  refine hK.out _ _ ⟨q1, q2, q3⟩ ?_
  clear hK K
  (try simp only [Act.put, List.setIfInBounds_toArray, List.set_cons_zero, List.set_cons_succ])
  refine' ord_light (v := _) rfl rfl rfl (fun w' hSw => ?_) ?_
  rotate_left
  · ((try dsimp only at hSw); go_simp <;> (with_reducible rfl))
  (try simp only [Act.put, List.setIfInBounds_toArray, List.set_cons_zero, List.set_cons_succ])
  refine' ord_light (v := _) rfl rfl rfl (fun w' hSw => ?_) ?_
  rotate_left
  · ((try dsimp only at hSw); go_simp <;> (with_reducible rfl))
  (try simp only [Act.put, List.setIfInBounds_toArray, List.set_cons_zero, List.set_cons_succ])
  refine' ord_light (v := _) rfl rfl rfl (fun w' hSw => ?_) ?_
  rotate_left
  · ((try dsimp only at hSw); go_simp <;> (with_reducible rfl))
  (try simp only [Act.put, List.setIfInBounds_toArray, List.set_cons_zero, List.set_cons_succ])
  refine' ord_light (v := _) rfl rfl rfl (fun w' hSw => ?_) ?_
  rotate_left
  · ((try dsimp only at hSw); go_simp <;> (with_reducible rfl))
  (try simp only [Act.put, List.setIfInBounds_toArray, List.set_cons_zero, List.set_cons_succ])
  refine' ord_light (v := _) rfl rfl rfl (fun w' hSw => ?_) ?_
  rotate_left
  · ((try dsimp only at hSw); go_simp <;> (with_reducible rfl))
  (try simp only [Act.put, List.setIfInBounds_toArray, List.set_cons_zero, List.set_cons_succ])
  refine' ord_light (v := _) rfl rfl rfl (fun w' hSw => ?_) ?_
  rotate_left
  · ((try dsimp only at hSw); go_simp <;> (with_reducible rfl))
  (try simp only [Act.put, List.setIfInBounds_toArray, List.set_cons_zero, List.set_cons_succ])
  refine' ord_light (v := _) rfl rfl rfl (fun w' hSw => ?_) ?_
  rotate_left
  · ((try dsimp only at hSw); go_simp <;> (with_reducible rfl))
  (try simp only [Act.put, List.setIfInBounds_toArray, List.set_cons_zero, List.set_cons_succ])
  refine' ord_light (v := _) rfl rfl rfl (fun w' hSw => ?_) ?_
  rotate_left
  · ((try dsimp only at hSw); go_simp <;> (with_reducible rfl))
  (try simp only [Act.put, List.setIfInBounds_toArray, List.set_cons_zero, List.set_cons_succ])
  refine ord_heavy rfl rfl (fun K hK => ?_)
  go_simp
  (go_at_call 35; clear tk9; (with_reducible refine (or_any _ _ _ _ _ _ _ _ _ (HXs2.out.below hD) (HXs3.out.below hD)).mono ?_); have tk10 : Hid True := trivial; rintro e w10 ⟨a10, n10, c10, rfl, hs10, hb⟩; have hE := step_callB hE hz hb; clear q1 q2 q3 hD hB; obtain ⟨q1, q2, q3, -, -, hD⟩ := box3 hE; have hB := step_call hBW hD; clear hb)
  (try go_wp2_with fail)
  refine hK.out _ _ ⟨q1, q2, q3⟩ ?_
  clear hK K
  (try simp only [Act.put, List.setIfInBounds_toArray, List.set_cons_zero, List.set_cons_succ])
  refine ord_heavy rfl rfl (fun K hK => ?_)
  go_simp
  (go_at_call 35; clear tk10; (with_reducible refine (or_any _ _ _ _ _ _ _ _ _ (HXs1.out.below hD) hs10).mono ?_); have tk11 : Hid True := trivial; rintro e w11 ⟨a11, n11, c11, rfl, hs11, hb⟩; have hE := step_callB hE hz hb; clear q1 q2 q3 hD hB; obtain ⟨q1, q2, q3, -, -, hD⟩ := box3 hE; have hB := step_call hBW hD; have hs10 := hs10.below hb; clear hb)
  (try go_wp2_with fail)
  refine hK.out _ _ ⟨q1, q2, q3⟩ ?_
  clear hK K
  (try simp only [Act.put, List.setIfInBounds_toArray, List.set_cons_zero, List.set_cons_succ])
  refine ord_heavy rfl rfl (fun K hK => ?_)
  go_simp
  (go_at_call 35; clear tk11; (with_reducible refine (or_any _ _ _ _ _ _ _ _ _ (HXs1.out.below hD) (HXs2.out.below hD)).mono ?_); have tk12 : Hid True := trivial; rintro e w12 ⟨a12, n12, c12, rfl, hs12, hb⟩; have hE := step_callB hE hz hb; clear q1 q2 q3 hD hB; obtain ⟨q1, q2, q3, -, -, hD⟩ := box3 hE; have hB := step_call hBW hD; have hs11 := hs11.below hb; clear hb)
  (try go_wp2_with fail)
  refine hK.out _ _ ⟨q1, q2, q3⟩ ?_
  clear hK K
  (try simp only [Act.put, List.setIfInBounds_toArray, List.set_cons_zero, List.set_cons_succ])
  refine ord_heavy rfl rfl (fun K hK => ?_)
  go_simp
  (go_at_call 35; clear tk12; (with_reducible refine (or_any _ _ _ _ _ _ _ _ _ hs12 (HXs3.out.below hD)).mono ?_); have tk13 : Hid True := trivial; rintro e w13 ⟨a13, n13, c13, rfl, hs13, hb⟩; have hE := step_callB hE hz hb; clear q1 q2 q3 hD hB; obtain ⟨q1, q2, q3, -, -, hD⟩ := box3 hE; have hB := step_call hBW hD; have hs11 := hs11.below hb; have hs12 := hs12.below hb; clear hb)
  (try go_wp2_with fail)
  refine hK.out _ _ ⟨q1, q2, q3⟩ ?_
  clear hK K
  (try simp only [Act.put, List.setIfInBounds_toArray, List.set_cons_zero, List.set_cons_succ])
  refine ord_heavy rfl rfl (fun K hK => ?_)
  go_simp
  (go_at_call 34; clear tk13; (with_reducible refine (equal_any _ _ _ _ _ _ _ _ _ hs11 hs13).mono ?_); have tk14 : Hid True := trivial; rintro e w14 ⟨rfl, hb⟩; have hE := step_callB hE hz hb; clear q1 q2 q3 hD hB; obtain ⟨q1, q2, q3, -, -, hD⟩ := box3 hE; have hB := step_call hBW hD; have hs11 := hs11.below hb; have hs13 := hs13.below hb; clear hb; rw [HP2.out])
  (try go_wp2_with fail)
  refine hK.out _ _ ⟨q1, q2, q3⟩ ?_
  clear hK K
  (try simp only [Act.put, List.setIfInBounds_toArray, List.set_cons_zero, List.set_cons_succ])
  refine' ord_light (v := _) rfl rfl rfl (fun w' hSw => ?_) ?_
  rotate_left
  · ((try dsimp only at hSw); go_simp <;> (with_reducible rfl))
  (try simp only [Act.put, List.setIfInBounds_toArray, List.set_cons_zero, List.set_cons_succ])
  refine' ord_light (v := _) rfl rfl rfl (fun w' hSw => ?_) ?_
  rotate_left
  · ((try dsimp only at hSw); go_simp <;> (with_reducible rfl))
  (try simp only [Act.put, List.setIfInBounds_toArray, List.set_cons_zero, List.set_cons_succ])
  refine' ord_light (v := _) rfl rfl rfl (fun w' hSw => ?_) ?_
  rotate_left
  · ((try dsimp only at hSw); go_simp <;> (with_reducible rfl))
  (try simp only [Act.put, List.setIfInBounds_toArray, List.set_cons_zero, List.set_cons_succ])
  refine' ord_light (v := _) rfl rfl rfl (fun w' hSw => ?_) ?_
  rotate_left
  · ((try dsimp only at hSw); go_simp <;> (with_reducible rfl))
  (try simp only [Act.put, List.setIfInBounds_toArray, List.set_cons_zero, List.set_cons_succ])
  refine' ord_light (v := _) rfl rfl rfl (fun w' hSw => ?_) ?_
  rotate_left
  · ((try dsimp only at hSw); go_simp <;> (with_reducible rfl))
  (try simp only [Act.put, List.setIfInBounds_toArray, List.set_cons_zero, List.set_cons_succ])
  refine' ord_light (v := _) rfl rfl rfl (fun w' hSw => ?_) ?_
  rotate_left
  · ((try dsimp only at hSw); go_simp <;> (with_reducible rfl))
  (try simp only [Act.put, List.setIfInBounds_toArray, List.set_cons_zero, List.set_cons_succ])
  refine' ord_light (v := _) rfl rfl rfl (fun w' hSw => ?_) ?_
  rotate_left
  · ((try dsimp only at hSw); go_simp <;> (with_reducible rfl))
  (try simp only [Act.put, List.setIfInBounds_toArray, List.set_cons_zero, List.set_cons_succ])
  refine' ord_light (v := _) rfl rfl rfl (fun w' hSw => ?_) ?_
  rotate_left
  · ((try dsimp only at hSw); go_simp <;> (with_reducible rfl))
  (try simp only [Act.put, List.setIfInBounds_toArray, List.set_cons_zero, List.set_cons_succ])
  refine ord_heavy rfl rfl (fun K hK => ?_)
  go_simp
  (go_at_call 36; clear tk14; (with_reducible refine (and_any _ _ _ _ _ _ _ _ _ (HXs2.out.below hD) (HXs3.out.below hD)).mono ?_); have tk15 : Hid True := trivial; rintro e w15 ⟨a15, n15, c15, rfl, hs15, hb⟩; have hE := step_callB hE hz hb; clear q1 q2 q3 hD hB; obtain ⟨q1, q2, q3, -, -, hD⟩ := box3 hE; have hB := step_call hBW hD; clear hb)
  (try go_wp2_with fail)
  refine hK.out _ _ ⟨q1, q2, q3⟩ ?_
  clear hK K
  (try simp only [Act.put, List.setIfInBounds_toArray, List.set_cons_zero, List.set_cons_succ])
  refine ord_heavy rfl rfl (fun K hK => ?_)
  go_simp
  (go_at_call 36; clear tk15; (with_reducible refine (and_any _ _ _ _ _ _ _ _ _ (HXs1.out.below hD) hs15).mono ?_); have tk16 : Hid True := trivial; rintro e w16 ⟨a16, n16, c16, rfl, hs16, hb⟩; have hE := step_callB hE hz hb; clear q1 q2 q3 hD hB; obtain ⟨q1, q2, q3, -, -, hD⟩ := box3 hE; have hB := step_call hBW hD; have hs15 := hs15.below hb; clear hb)
  (try go_wp2_with fail)
  refine hK.out _ _ ⟨q1, q2, q3⟩ ?_
  clear hK K
  (try simp only [Act.put, List.setIfInBounds_toArray, List.set_cons_zero, List.set_cons_succ])
  refine ord_heavy rfl rfl (fun K hK => ?_)
  go_simp
  (go_at_call 36; clear tk16; (with_reducible refine (and_any _ _ _ _ _ _ _ _ _ (HXs1.out.below hD) (HXs2.out.below hD)).mono ?_); have tk17 : Hid True := trivial; rintro e w17 ⟨a17, n17, c17, rfl, hs17, hb⟩; have hE := step_callB hE hz hb; clear q1 q2 q3 hD hB; obtain ⟨q1, q2, q3, -, -, hD⟩ := box3 hE; have hB := step_call hBW hD; have hs16 := hs16.below hb; clear hb)
  (try go_wp2_with fail)
  refine hK.out _ _ ⟨q1, q2, q3⟩ ?_
  clear hK K
  (try simp only [Act.put, List.setIfInBounds_toArray, List.set_cons_zero, List.set_cons_succ])
  refine ord_heavy rfl rfl (fun K hK => ?_)
  go_simp
  (go_at_call 36; clear tk17; (with_reducible refine (and_any _ _ _ _ _ _ _ _ _ hs17 (HXs3.out.below hD)).mono ?_); have tk18 : Hid True := trivial; rintro e w18 ⟨a18, n18, c18, rfl, hs18, hb⟩; have hE := step_callB hE hz hb; clear q1 q2 q3 hD hB; obtain ⟨q1, q2, q3, -, -, hD⟩ := box3 hE; have hB := step_call hBW hD; have hs16 := hs16.below hb; have hs17 := hs17.below hb; clear hb)
  (try go_wp2_with fail)
  refine hK.out _ _ ⟨q1, q2, q3⟩ ?_
  clear hK K
  (try simp only [Act.put, List.setIfInBounds_toArray, List.set_cons_zero, List.set_cons_succ])
  refine ord_heavy rfl rfl (fun K hK => ?_)
  go_simp
  (go_at_call 34; clear tk18; (with_reducible refine (equal_any _ _ _ _ _ _ _ _ _ hs16 hs18).mono ?_); have tk19 : Hid True := trivial; rintro e w19 ⟨rfl, hb⟩; have hE := step_callB hE hz hb; clear q1 q2 q3 hD hB; obtain ⟨q1, q2, q3, -, -, hD⟩ := box3 hE; have hB := step_call hBW hD; have hs16 := hs16.below hb; have hs18 := hs18.below hb; clear hb; rw [HP3.out])
  (try go_wp2_with fail)
  refine hK.out _ _ ⟨q1, q2, q3⟩ ?_
  clear hK K
  (try simp only [Act.put, List.setIfInBounds_toArray, List.set_cons_zero, List.set_cons_succ])
  refine' ord_light (v := _) rfl rfl rfl (fun w' hSw => ?_) ?_
  rotate_left
  · ((try dsimp only at hSw); go_simp <;> (with_reducible rfl))
  (try simp only [Act.put, List.setIfInBounds_toArray, List.set_cons_zero, List.set_cons_succ])
  refine' ord_light (v := _) rfl rfl rfl (fun w' hSw => ?_) ?_
  rotate_left
  · ((try dsimp only at hSw); go_simp <;> (with_reducible rfl))
  (try simp only [Act.put, List.setIfInBounds_toArray, List.set_cons_zero, List.set_cons_succ])
  refine' ord_light (v := _) rfl rfl rfl (fun w' hSw => ?_) ?_
  rotate_left
  · ((try dsimp only at hSw); go_simp <;> (with_reducible rfl))
  (try simp only [Act.put, List.setIfInBounds_toArray, List.set_cons_zero, List.set_cons_succ])
  refine' ord_light (v := _) rfl rfl rfl (fun w' hSw => ?_) ?_
  rotate_left
  · ((try dsimp only at hSw); go_simp <;> (with_reducible rfl))
  (try simp only [Act.put, List.setIfInBounds_toArray, List.set_cons_zero, List.set_cons_succ])
  refine' ord_light (v := _) rfl rfl rfl (fun w' hSw => ?_) ?_
  rotate_left
  · ((try dsimp only at hSw); go_simp <;> (with_reducible rfl))
  (try simp only [Act.put, List.setIfInBounds_toArray, List.set_cons_zero, List.set_cons_succ])
  refine' ord_light (v := _) rfl rfl rfl (fun w' hSw => ?_) ?_
  rotate_left
  · ((try dsimp only at hSw); go_simp <;> (with_reducible rfl))
  (try simp only [Act.put, List.setIfInBounds_toArray, List.set_cons_zero, List.set_cons_succ])
  refine' ord_light (v := _) rfl rfl rfl (fun w' hSw => ?_) ?_
  rotate_left
  · ((try dsimp only at hSw); go_simp <;> (with_reducible rfl))
  (try simp only [Act.put, List.setIfInBounds_toArray, List.set_cons_zero, List.set_cons_succ])
  refine' ord_light (v := _) rfl rfl rfl (fun w' hSw => ?_) ?_
  rotate_left
  · ((try dsimp only at hSw); go_simp <;> (with_reducible rfl))
  (try simp only [Act.put, List.setIfInBounds_toArray, List.set_cons_zero, List.set_cons_succ])
  refine' ord_light (v := _) rfl rfl rfl (fun w' hSw => ?_) ?_
  rotate_left
  · ((try dsimp only at hSw); go_simp <;> (with_reducible rfl))
  (try simp only [Act.put, List.setIfInBounds_toArray, List.set_cons_zero, List.set_cons_succ])
  refine ord_heavy rfl rfl (fun K hK => ?_)
  go_simp
  (go_at_call 35; clear tk19; (with_reducible refine (or_any _ _ _ _ _ _ _ _ _ (HXs2.out.below hD) (HXs3.out.below hD)).mono ?_); have tk20 : Hid True := trivial; rintro e w20 ⟨a20, n20, c20, rfl, hs20, hb⟩; have hE := step_callB hE hz hb; clear q1 q2 q3 hD hB; obtain ⟨q1, q2, q3, -, -, hD⟩ := box3 hE; have hB := step_call hBW hD; clear hb)
  (try go_wp2_with fail)
  refine hK.out _ _ ⟨q1, q2, q3⟩ ?_
  clear hK K
  (try simp only [Act.put, List.setIfInBounds_toArray, List.set_cons_zero, List.set_cons_succ])
  refine ord_heavy rfl rfl (fun K hK => ?_)
  go_simp
  (go_at_call 36; clear tk20; (with_reducible refine (and_any _ _ _ _ _ _ _ _ _ (HXs1.out.below hD) hs20).mono ?_); have tk21 : Hid True := trivial; rintro e w21 ⟨a21, n21, c21, rfl, hs21, hb⟩; have hE := step_callB hE hz hb; clear q1 q2 q3 hD hB; obtain ⟨q1, q2, q3, -, -, hD⟩ := box3 hE; have hB := step_call hBW hD; have hs20 := hs20.below hb; clear hb)
  (try go_wp2_with fail)
  refine hK.out _ _ ⟨q1, q2, q3⟩ ?_
  clear hK K
  (try simp only [Act.put, List.setIfInBounds_toArray, List.set_cons_zero, List.set_cons_succ])
  refine ord_heavy rfl rfl (fun K hK => ?_)
  go_simp
  (go_at_call 36; clear tk21; (with_reducible refine (and_any _ _ _ _ _ _ _ _ _ (HXs1.out.below hD) (HXs2.out.below hD)).mono ?_); have tk22 : Hid True := trivial; rintro e w22 ⟨a22, n22, c22, rfl, hs22, hb⟩; have hE := step_callB hE hz hb; clear q1 q2 q3 hD hB; obtain ⟨q1, q2, q3, -, -, hD⟩ := box3 hE; have hB := step_call hBW hD; have hs21 := hs21.below hb; clear hb)
  (try go_wp2_with fail)
  refine hK.out _ _ ⟨q1, q2, q3⟩ ?_
  clear hK K
  (try simp only [Act.put, List.setIfInBounds_toArray, List.set_cons_zero, List.set_cons_succ])
  refine ord_heavy rfl rfl (fun K hK => ?_)
  go_simp
  (go_at_call 36; clear tk22; (with_reducible refine (and_any _ _ _ _ _ _ _ _ _ (HXs1.out.below hD) (HXs3.out.below hD)).mono ?_); have tk23 : Hid True := trivial; rintro e w23 ⟨a23, n23, c23, rfl, hs23, hb⟩; have hE := step_callB hE hz hb; clear q1 q2 q3 hD hB; obtain ⟨q1, q2, q3, -, -, hD⟩ := box3 hE; have hB := step_call hBW hD; have hs21 := hs21.below hb; have hs22 := hs22.below hb; clear hb)
  (try go_wp2_with fail)
  refine hK.out _ _ ⟨q1, q2, q3⟩ ?_
  clear hK K
  (try simp only [Act.put, List.setIfInBounds_toArray, List.set_cons_zero, List.set_cons_succ])
  refine ord_heavy rfl rfl (fun K hK => ?_)
  go_simp
  (go_at_call 35; clear tk23; (with_reducible refine (or_any _ _ _ _ _ _ _ _ _ hs22 hs23).mono ?_); have tk24 : Hid True := trivial; rintro e w24 ⟨a24, n24, c24, rfl, hs24, hb⟩; have hE := step_callB hE hz hb; clear q1 q2 q3 hD hB; obtain ⟨q1, q2, q3, -, -, hD⟩ := box3 hE; have hB := step_call hBW hD; have hs21 := hs21.below hb; have hs22 := hs22.below hb; have hs23 := hs23.below hb; clear hb)
  (try go_wp2_with fail)
  refine hK.out _ _ ⟨q1, q2, q3⟩ ?_
  clear hK K
  (try simp only [Act.put, List.setIfInBounds_toArray, List.set_cons_zero, List.set_cons_succ])
  refine ord_heavy rfl rfl (fun K hK => ?_)
  go_simp
  (go_at_call 34; clear tk24; (with_reducible refine (equal_any _ _ _ _ _ _ _ _ _ hs21 hs24).mono ?_); have tk25 : Hid True := trivial; rintro e w25 ⟨rfl, hb⟩; have hE := step_callB hE hz hb; clear q1 q2 q3 hD hB; obtain ⟨q1, q2, q3, -, -, hD⟩ := box3 hE; have hB := step_call hBW hD; have hs21 := hs21.below hb; have hs24 := hs24.below hb; clear hb; rw [HP4.out])
  (try go_wp2_with fail)
  refine hK.out _ _ ⟨q1, q2, q3⟩ ?_
  clear hK K
  (try simp only [Act.put, List.setIfInBounds_toArray, List.set_cons_zero, List.set_cons_succ])
  refine' ord_light (v := _) rfl rfl rfl (fun w' hSw => ?_) ?_
  rotate_left
  · ((try dsimp only at hSw); go_simp <;> (with_reducible rfl))
  (try simp only [Act.put, List.setIfInBounds_toArray, List.set_cons_zero, List.set_cons_succ])
  refine' ord_light (v := _) rfl rfl rfl (fun w' hSw => ?_) ?_
  rotate_left
  · ((try dsimp only at hSw); go_simp <;> (with_reducible rfl))
  (try simp only [Act.put, List.setIfInBounds_toArray, List.set_cons_zero, List.set_cons_succ])
  refine' ord_light (v := _) rfl rfl rfl (fun w' hSw => ?_) ?_
  rotate_left
  · ((try dsimp only at hSw); go_simp <;> (with_reducible rfl))
  (try simp only [Act.put, List.setIfInBounds_toArray, List.set_cons_zero, List.set_cons_succ])
  refine' ord_light (v := _) rfl rfl rfl (fun w' hSw => ?_) ?_
  rotate_left
  · ((try dsimp only at hSw); go_simp <;> (with_reducible rfl))
  (try simp only [Act.put, List.setIfInBounds_toArray, List.set_cons_zero, List.set_cons_succ])
  refine' ord_light (v := _) rfl rfl rfl (fun w' hSw => ?_) ?_
  rotate_left
  · ((try dsimp only at hSw); go_simp <;> (with_reducible rfl))
  (try simp only [Act.put, List.setIfInBounds_toArray, List.set_cons_zero, List.set_cons_succ])
  refine' ord_light (v := _) rfl rfl rfl (fun w' hSw => ?_) ?_
  rotate_left
  · ((try dsimp only at hSw); go_simp <;> (with_reducible rfl))
  (try simp only [Act.put, List.setIfInBounds_toArray, List.set_cons_zero, List.set_cons_succ])
  refine' ord_light (v := _) rfl rfl rfl (fun w' hSw => ?_) ?_
  rotate_left
  · ((try dsimp only at hSw); go_simp <;> (with_reducible rfl))
  (try simp only [Act.put, List.setIfInBounds_toArray, List.set_cons_zero, List.set_cons_succ])
  refine' ord_light (v := _) rfl rfl rfl (fun w' hSw => ?_) ?_
  rotate_left
  · ((try dsimp only at hSw); go_simp <;> (with_reducible rfl))
  (try simp only [Act.put, List.setIfInBounds_toArray, List.set_cons_zero, List.set_cons_succ])
  refine' ord_light (v := _) rfl rfl rfl (fun w' hSw => ?_) ?_
  rotate_left
  · ((try dsimp only at hSw); go_simp <;> (with_reducible rfl))
  (try simp only [Act.put, List.setIfInBounds_toArray, List.set_cons_zero, List.set_cons_succ])
  refine ord_heavy rfl rfl (fun K hK => ?_)
  go_simp
  (go_at_call 36; clear tk25; (with_reducible refine (and_any _ _ _ _ _ _ _ _ _ (HXs2.out.below hD) (HXs3.out.below hD)).mono ?_); have tk26 : Hid True := trivial; rintro e w26 ⟨a26, n26, c26, rfl, hs26, hb⟩; have hE := step_callB hE hz hb; clear q1 q2 q3 hD hB; obtain ⟨q1, q2, q3, -, -, hD⟩ := box3 hE; have hB := step_call hBW hD; clear hb)
  (try go_wp2_with fail)
  refine hK.out _ _ ⟨q1, q2, q3⟩ ?_
  clear hK K
  (try simp only [Act.put, List.setIfInBounds_toArray, List.set_cons_zero, List.set_cons_succ])
  refine ord_heavy rfl rfl (fun K hK => ?_)
  go_simp
  (go_at_call 35; clear tk26; (with_reducible refine (or_any _ _ _ _ _ _ _ _ _ (HXs1.out.below hD) hs26).mono ?_); have tk27 : Hid True := trivial; rintro e w27 ⟨a27, n27, c27, rfl, hs27, hb⟩; have hE := step_callB hE hz hb; clear q1 q2 q3 hD hB; obtain ⟨q1, q2, q3, -, -, hD⟩ := box3 hE; have hB := step_call hBW hD; have hs26 := hs26.below hb; clear hb)
  (try go_wp2_with fail)
  refine hK.out _ _ ⟨q1, q2, q3⟩ ?_
  clear hK K
  (try simp only [Act.put, List.setIfInBounds_toArray, List.set_cons_zero, List.set_cons_succ])
  refine ord_heavy rfl rfl (fun K hK => ?_)
  go_simp
  (go_at_call 35; clear tk27; (with_reducible refine (or_any _ _ _ _ _ _ _ _ _ (HXs1.out.below hD) (HXs2.out.below hD)).mono ?_); have tk28 : Hid True := trivial; rintro e w28 ⟨a28, n28, c28, rfl, hs28, hb⟩; have hE := step_callB hE hz hb; clear q1 q2 q3 hD hB; obtain ⟨q1, q2, q3, -, -, hD⟩ := box3 hE; have hB := step_call hBW hD; have hs27 := hs27.below hb; clear hb)
  (try go_wp2_with fail)
  refine hK.out _ _ ⟨q1, q2, q3⟩ ?_
  clear hK K
  (try simp only [Act.put, List.setIfInBounds_toArray, List.set_cons_zero, List.set_cons_succ])
  refine ord_heavy rfl rfl (fun K hK => ?_)
  go_simp
  (go_at_call 35; clear tk28; (with_reducible refine (or_any _ _ _ _ _ _ _ _ _ (HXs1.out.below hD) (HXs3.out.below hD)).mono ?_); have tk29 : Hid True := trivial; rintro e w29 ⟨a29, n29, c29, rfl, hs29, hb⟩; have hE := step_callB hE hz hb; clear q1 q2 q3 hD hB; obtain ⟨q1, q2, q3, -, -, hD⟩ := box3 hE; have hB := step_call hBW hD; have hs27 := hs27.below hb; have hs28 := hs28.below hb; clear hb)
  (try go_wp2_with fail)
  refine hK.out _ _ ⟨q1, q2, q3⟩ ?_
  clear hK K
  (try simp only [Act.put, List.setIfInBounds_toArray, List.set_cons_zero, List.set_cons_succ])
  refine ord_heavy rfl rfl (fun K hK => ?_)
  go_simp
  (go_at_call 36; clear tk29; (with_reducible refine (and_any _ _ _ _ _ _ _ _ _ hs28 hs29).mono ?_); have tk30 : Hid True := trivial; rintro e w30 ⟨a30, n30, c30, rfl, hs30, hb⟩; have hE := step_callB hE hz hb; clear q1 q2 q3 hD hB; obtain ⟨q1, q2, q3, -, -, hD⟩ := box3 hE; have hB := step_call hBW hD; have hs27 := hs27.below hb; have hs28 := hs28.below hb; have hs29 := hs29.below hb; clear hb)
  (try go_wp2_with fail)
  refine hK.out _ _ ⟨q1, q2, q3⟩ ?_
  clear hK K
  (try simp only [Act.put, List.setIfInBounds_toArray, List.set_cons_zero, List.set_cons_succ])
  refine ord_heavy rfl rfl (fun K hK => ?_)
  go_simp
  (go_at_call 34; clear tk30; (with_reducible refine (equal_any _ _ _ _ _ _ _ _ _ hs27 hs30).mono ?_); have tk31 : Hid True := trivial; rintro e w31 ⟨rfl, hb⟩; have hE := step_callB hE hz hb; clear q1 q2 q3 hD hB; obtain ⟨q1, q2, q3, -, -, hD⟩ := box3 hE; have hB := step_call hBW hD; have hs27 := hs27.below hb; have hs30 := hs30.below hb; clear hb; rw [HP5.out])
  (try go_wp2_with fail)
  refine hK.out _ _ ⟨q1, q2, q3⟩ ?_
  clear hK K
  (try simp only [Act.put, List.setIfInBounds_toArray, List.set_cons_zero, List.set_cons_succ])
  refine' ord_light (v := _) rfl rfl rfl (fun w' hSw => ?_) ?_
  rotate_left
  · ((try dsimp only at hSw); go_simp <;> (with_reducible rfl))
  (try simp only [Act.put, List.setIfInBounds_toArray, List.set_cons_zero, List.set_cons_succ])
  refine' ord_light (v := _) rfl rfl rfl (fun w' hSw => ?_) ?_
  rotate_left
  · ((try dsimp only at hSw); go_simp <;> (with_reducible rfl))
  (try simp only [Act.put, List.setIfInBounds_toArray, List.set_cons_zero, List.set_cons_succ])
  refine' ord_light (v := _) rfl rfl rfl (fun w' hSw => ?_) ?_
  rotate_left
  · ((try dsimp only at hSw); go_simp <;> (with_reducible rfl))
  (try simp only [Act.put, List.setIfInBounds_toArray, List.set_cons_zero, List.set_cons_succ])
  refine' ord_light (v := _) rfl rfl rfl (fun w' hSw => ?_) ?_
  rotate_left
  · ((try dsimp only at hSw); go_simp <;> (with_reducible rfl))
  (try simp only [Act.put, List.setIfInBounds_toArray, List.set_cons_zero, List.set_cons_succ])
  refine' ord_light (v := _) rfl rfl rfl (fun w' hSw => ?_) ?_
  rotate_left
  · ((try dsimp only at hSw); go_simp <;> (with_reducible rfl))
  (try simp only [Act.put, List.setIfInBounds_toArray, List.set_cons_zero, List.set_cons_succ])
  refine' ord_light (v := _) rfl rfl rfl (fun w' hSw => ?_) ?_
  rotate_left
  · ((try dsimp only at hSw); go_simp <;> (with_reducible rfl))
  (try simp only [Act.put, List.setIfInBounds_toArray, List.set_cons_zero, List.set_cons_succ])
  refine' ord_light (v := _) rfl rfl rfl (fun w' hSw => ?_) ?_
  rotate_left
  · ((try dsimp only at hSw); go_simp <;> (with_reducible rfl))
  (try simp only [Act.put, List.setIfInBounds_toArray, List.set_cons_zero, List.set_cons_succ])
  refine' ord_light (v := _) rfl rfl rfl (fun w' hSw => ?_) ?_
  rotate_left
  · ((try dsimp only at hSw); go_simp <;> (with_reducible rfl))
  (try simp only [Act.put, List.setIfInBounds_toArray, List.set_cons_zero, List.set_cons_succ])
  refine ord_heavy rfl rfl (fun K hK => ?_)
  go_simp
  (go_at_call 35; clear tk31; (with_reducible refine (or_any _ _ _ _ _ _ _ _ _ (HXs2.out.below hD) (HXs3.out.below hD)).mono ?_); have tk32 : Hid True := trivial; rintro e w32 ⟨a32, n32, c32, rfl, hs32, hb⟩; have hE := step_callB hE hz hb; clear q1 q2 q3 hD hB; obtain ⟨q1, q2, q3, -, -, hD⟩ := box3 hE; have hB := step_call hBW hD; clear hb)
  (try go_wp2_with fail)
  refine hK.out _ _ ⟨q1, q2, q3⟩ ?_
  clear hK K
  (try simp only [Act.put, List.setIfInBounds_toArray, List.set_cons_zero, List.set_cons_succ])
  refine ord_heavy rfl rfl (fun K hK => ?_)
  go_simp
  (go_at_call 38; clear tk32; (with_reducible refine (minus_any _ _ _ _ _ _ _ _ _ (HXs1.out.below hD) hs32).mono ?_); have tk33 : Hid True := trivial; rintro e w33 ⟨a33, n33, c33, rfl, hs33, hb⟩; have hE := step_callB hE hz hb; clear q1 q2 q3 hD hB; obtain ⟨q1, q2, q3, -, -, hD⟩ := box3 hE; have hB := step_call hBW hD; have hs32 := hs32.below hb; clear hb)
  (try go_wp2_with fail)
  refine hK.out _ _ ⟨q1, q2, q3⟩ ?_
  clear hK K
  (try simp only [Act.put, List.setIfInBounds_toArray, List.set_cons_zero, List.set_cons_succ])
  refine ord_heavy rfl rfl (fun K hK => ?_)
  go_simp
  (go_at_call 38; clear tk33; (with_reducible refine (minus_any _ _ _ _ _ _ _ _ _ (HXs1.out.below hD) (HXs2.out.below hD)).mono ?_); have tk34 : Hid True := trivial; rintro e w34 ⟨a34, n34, c34, rfl, hs34, hb⟩; have hE := step_callB hE hz hb; clear q1 q2 q3 hD hB; obtain ⟨q1, q2, q3, -, -, hD⟩ := box3 hE; have hB := step_call hBW hD; have hs33 := hs33.below hb; clear hb)
  (try go_wp2_with fail)
  refine hK.out _ _ ⟨q1, q2, q3⟩ ?_
  clear hK K
  (try simp only [Act.put, List.setIfInBounds_toArray, List.set_cons_zero, List.set_cons_succ])
  refine ord_heavy rfl rfl (fun K hK => ?_)
  go_simp
  (go_at_call 38; clear tk34; (with_reducible refine (minus_any _ _ _ _ _ _ _ _ _ hs34 (HXs3.out.below hD)).mono ?_); have tk35 : Hid True := trivial; rintro e w35 ⟨a35, n35, c35, rfl, hs35, hb⟩; have hE := step_callB hE hz hb; clear q1 q2 q3 hD hB; obtain ⟨q1, q2, q3, -, -, hD⟩ := box3 hE; have hB := step_call hBW hD; have hs33 := hs33.below hb; have hs34 := hs34.below hb; clear hb)
  (try go_wp2_with fail)
  refine hK.out _ _ ⟨q1, q2, q3⟩ ?_
  clear hK K
  (try simp only [Act.put, List.setIfInBounds_toArray, List.set_cons_zero, List.set_cons_succ])
  refine ord_heavy rfl rfl (fun K hK => ?_)
  go_simp
  (go_at_call 34; clear tk35; (with_reducible refine (equal_any _ _ _ _ _ _ _ _ _ hs33 hs35).mono ?_); have tk36 : Hid True := trivial; rintro e w36 ⟨rfl, hb⟩; have hE := step_callB hE hz hb; clear q1 q2 q3 hD hB; obtain ⟨q1, q2, q3, -, -, hD⟩ := box3 hE; have hB := step_call hBW hD; have hs33 := hs33.below hb; have hs35 := hs35.below hb; clear hb; rw [HP6.out])
  (try go_wp2_with fail)
  refine hK.out _ _ ⟨q1, q2, q3⟩ ?_
  clear hK K
  (try simp only [Act.put, List.setIfInBounds_toArray, List.set_cons_zero, List.set_cons_succ])
  refine' ord_light (v := _) rfl rfl rfl (fun w' hSw => ?_) ?_
  rotate_left
  · ((try dsimp only at hSw); go_simp <;> (with_reducible rfl))
  (try simp only [Act.put, List.setIfInBounds_toArray, List.set_cons_zero, List.set_cons_succ])
  refine' ord_light (v := _) rfl rfl rfl (fun w' hSw => ?_) ?_
  rotate_left
  · ((try dsimp only at hSw); go_simp <;> (with_reducible rfl))
  (try simp only [Act.put, List.setIfInBounds_toArray, List.set_cons_zero, List.set_cons_succ])
  refine' ord_light (v := _) rfl rfl rfl (fun w' hSw => ?_) ?_
  rotate_left
  · ((try dsimp only at hSw); go_simp <;> (with_reducible rfl))
  (try simp only [Act.put, List.setIfInBounds_toArray, List.set_cons_zero, List.set_cons_succ])
  refine' ord_light (v := _) rfl rfl rfl (fun w' hSw => ?_) ?_
  rotate_left
  · ((try dsimp only at hSw); go_simp <;> (with_reducible rfl))
  (try simp only [Act.put, List.setIfInBounds_toArray, List.set_cons_zero, List.set_cons_succ])
  refine' ord_light (v := _) rfl rfl rfl (fun w' hSw => ?_) ?_
  rotate_left
  · ((try dsimp only at hSw); go_simp <;> (with_reducible rfl))
  (try simp only [Act.put, List.setIfInBounds_toArray, List.set_cons_zero, List.set_cons_succ])
  refine' ord_light (v := _) rfl rfl rfl (fun w' hSw => ?_) ?_
  rotate_left
  · ((try dsimp only at hSw); go_simp <;> (with_reducible rfl))
  (try simp only [Act.put, List.setIfInBounds_toArray, List.set_cons_zero, List.set_cons_succ])
  refine' ord_light (v := _) rfl rfl rfl (fun w' hSw => ?_) ?_
  rotate_left
  · ((try dsimp only at hSw); go_simp <;> (with_reducible rfl))
  (try simp only [Act.put, List.setIfInBounds_toArray, List.set_cons_zero, List.set_cons_succ])
  refine ord_heavy rfl rfl (fun K hK => ?_)
  go_simp
  (go_at_call 38; clear tk36; (with_reducible refine (minus_any _ _ _ _ _ _ _ _ _ (HXs1.out.below hD) (HXs2.out.below hD)).mono ?_); have tk37 : Hid True := trivial; rintro e w37 ⟨a37, n37, c37, rfl, hs37, hb⟩; have hE := step_callB hE hz hb; clear q1 q2 q3 hD hB; obtain ⟨q1, q2, q3, -, -, hD⟩ := box3 hE; have hB := step_call hBW hD; clear hb)
  (try go_wp2_with fail)
  refine hK.out _ _ ⟨q1, q2, q3⟩ ?_
  clear hK K
  (try simp only [Act.put, List.setIfInBounds_toArray, List.set_cons_zero, List.set_cons_succ])
  refine ord_heavy rfl rfl (fun K hK => ?_)
  go_simp
  (go_at_call 36; clear tk37; (with_reducible refine (and_any _ _ _ _ _ _ _ _ _ (HXs1.out.below hD) (HXs2.out.below hD)).mono ?_); have tk38 : Hid True := trivial; rintro e w38 ⟨a38, n38, c38, rfl, hs38, hb⟩; have hE := step_callB hE hz hb; clear q1 q2 q3 hD hB; obtain ⟨q1, q2, q3, -, -, hD⟩ := box3 hE; have hB := step_call hBW hD; have hs37 := hs37.below hb; clear hb)
  (try go_wp2_with fail)
  refine hK.out _ _ ⟨q1, q2, q3⟩ ?_
  clear hK K
  (try simp only [Act.put, List.setIfInBounds_toArray, List.set_cons_zero, List.set_cons_succ])
  refine ord_heavy rfl rfl (fun K hK => ?_)
  go_simp
  (go_at_call 35; clear tk38; (with_reducible refine (or_any _ _ _ _ _ _ _ _ _ hs37 hs38).mono ?_); have tk39 : Hid True := trivial; rintro e w39 ⟨a39, n39, c39, rfl, hs39, hb⟩; have hE := step_callB hE hz hb; clear q1 q2 q3 hD hB; obtain ⟨q1, q2, q3, -, -, hD⟩ := box3 hE; have hB := step_call hBW hD; have hs37 := hs37.below hb; have hs38 := hs38.below hb; clear hb)
  (try go_wp2_with fail)
  refine hK.out _ _ ⟨q1, q2, q3⟩ ?_
  clear hK K
  (try simp only [Act.put, List.setIfInBounds_toArray, List.set_cons_zero, List.set_cons_succ])
  refine ord_heavy rfl rfl (fun K hK => ?_)
  go_simp
  (go_at_call 34; clear tk39; (with_reducible refine (equal_any _ _ _ _ _ _ _ _ _ hs39 (HXs1.out.below hD)).mono ?_); have tk40 : Hid True := trivial; rintro e w40 ⟨rfl, hb⟩; have hE := step_callB hE hz hb; clear q1 q2 q3 hD hB; obtain ⟨q1, q2, q3, -, -, hD⟩ := box3 hE; have hB := step_call hBW hD; have hs39 := hs39.below hb; clear hb; rw [HP7.out])
  (try go_wp2_with fail)
  refine hK.out _ _ ⟨q1, q2, q3⟩ ?_
  clear hK K
  (try simp only [Act.put, List.setIfInBounds_toArray, List.set_cons_zero, List.set_cons_succ])
  refine' ord_light (v := _) rfl rfl rfl (fun w' hSw => ?_) ?_
  rotate_left
  · ((try dsimp only at hSw); go_simp <;> (with_reducible rfl))
  (try simp only [Act.put, List.setIfInBounds_toArray, List.set_cons_zero, List.set_cons_succ])
  refine' ord_light (v := _) rfl rfl rfl (fun w' hSw => ?_) ?_
  rotate_left
  · ((try dsimp only at hSw); go_simp <;> (with_reducible rfl))
  (try simp only [Act.put, List.setIfInBounds_toArray, List.set_cons_zero, List.set_cons_succ])
  refine' ord_light (v := _) rfl rfl rfl (fun w' hSw => ?_) ?_
  rotate_left
  · ((try dsimp only at hSw); go_simp <;> (with_reducible rfl))
  (try simp only [Act.put, List.setIfInBounds_toArray, List.set_cons_zero, List.set_cons_succ])
  refine' ord_light (v := _) rfl rfl rfl (fun w' hSw => ?_) ?_
  rotate_left
  · ((try dsimp only at hSw); go_simp <;> (with_reducible rfl))
  (try simp only [Act.put, List.setIfInBounds_toArray, List.set_cons_zero, List.set_cons_succ])
  refine' ord_light (v := _) rfl rfl rfl (fun w' hSw => ?_) ?_
  rotate_left
  · ((try dsimp only at hSw); go_simp <;> (with_reducible rfl))
  (try simp only [Act.put, List.setIfInBounds_toArray, List.set_cons_zero, List.set_cons_succ])
  refine ord_heavy rfl rfl (fun K hK => ?_)
  go_simp
  (go_at_call 38; clear tk40; (with_reducible refine (minus_any _ _ _ _ _ _ _ _ _ (HXs1.out.below hD) (HXs2.out.below hD)).mono ?_); have tk41 : Hid True := trivial; rintro e w41 ⟨a41, n41, c41, rfl, hs41, hb⟩; have hE := step_callB hE hz hb; clear q1 q2 q3 hD hB; obtain ⟨q1, q2, q3, -, -, hD⟩ := box3 hE; have hB := step_call hBW hD; clear hb)
  (try go_wp2_with fail)
  refine hK.out _ _ ⟨q1, q2, q3⟩ ?_
  clear hK K
  (try simp only [Act.put, List.setIfInBounds_toArray, List.set_cons_zero, List.set_cons_succ])
  refine ord_heavy rfl rfl (fun K hK => ?_)
  go_simp
  (go_at_call 45; clear tk41; (with_reducible refine (meets_any _ _ _ _ _ _ _ _ _ hs41 (HXs2.out.below hD)).mono ?_); have tk42 : Hid True := trivial; rintro e w42 ⟨rfl, hb⟩; have hE := step_callB hE hz hb; clear q1 q2 q3 hD hB; obtain ⟨q1, q2, q3, -, -, hD⟩ := box3 hE; have hB := step_call hBW hD; have hs41 := hs41.below hb; clear hb; rw [HP8.out])
  (try go_wp2_with fail)
  refine hK.out _ _ ⟨q1, q2, q3⟩ ?_
  clear hK K
  (try simp only [Act.put, List.setIfInBounds_toArray, List.set_cons_zero, List.set_cons_succ])
  refine' ord_light (v := _) rfl rfl rfl (fun w' hSw => ?_) ?_
  rotate_left
  · ((try dsimp only at hSw); go_simp <;> (with_reducible rfl))
  (try simp only [Act.put, List.setIfInBounds_toArray, List.set_cons_zero, List.set_cons_succ])
  refine' ord_light (v := _) rfl rfl rfl (fun w' hSw => ?_) ?_
  rotate_left
  · ((try dsimp only at hSw); go_simp <;> (with_reducible rfl))
  (try simp only [Act.put, List.setIfInBounds_toArray, List.set_cons_zero, List.set_cons_succ])
  refine' ord_light (v := _) rfl rfl rfl (fun w' hSw => ?_) ?_
  rotate_left
  · ((try dsimp only at hSw); go_simp <;> (with_reducible rfl))
  (try simp only [Act.put, List.setIfInBounds_toArray, List.set_cons_zero, List.set_cons_succ])
  refine' ord_light (v := _) rfl rfl rfl (fun w' hSw => ?_) ?_
  rotate_left
  · ((try dsimp only at hSw); go_simp <;> (with_reducible rfl))
  (try simp only [Act.put, List.setIfInBounds_toArray, List.set_cons_zero, List.set_cons_succ])
  refine' ord_light (v := _) rfl rfl rfl (fun w' hSw => ?_) ?_
  rotate_left
  · ((try dsimp only at hSw); go_simp <;> (with_reducible rfl))
  (try simp only [Act.put, List.setIfInBounds_toArray, List.set_cons_zero, List.set_cons_succ])
  refine' ord_light (v := _) rfl rfl rfl (fun w' hSw => ?_) ?_
  rotate_left
  · ((try dsimp only at hSw); go_simp <;> (with_reducible rfl))
  (try simp only [Act.put, List.setIfInBounds_toArray, List.set_cons_zero, List.set_cons_succ])
  refine ord_heavy rfl rfl (fun K hK => ?_)
  go_simp
  (go_at_call 35; clear tk42; (with_reducible refine (or_any _ _ _ _ _ _ _ _ _ (HXs1.out.below hD) (HXs1.out.below hD)).mono ?_); have tk43 : Hid True := trivial; rintro e w43 ⟨a43, n43, c43, rfl, hs43, hb⟩; have hE := step_callB hE hz hb; clear q1 q2 q3 hD hB; obtain ⟨q1, q2, q3, -, -, hD⟩ := box3 hE; have hB := step_call hBW hD; clear hb)
  (try go_wp2_with fail)
  refine hK.out _ _ ⟨q1, q2, q3⟩ ?_
  clear hK K
  (try simp only [Act.put, List.setIfInBounds_toArray, List.set_cons_zero, List.set_cons_succ])
  refine ord_heavy rfl rfl (fun K hK => ?_)
  go_simp
  (go_at_call 34; clear tk43; (with_reducible refine (equal_any _ _ _ _ _ _ _ _ _ hs43 (HXs1.out.below hD)).mono ?_); have tk44 : Hid True := trivial; rintro e w44 ⟨rfl, hb⟩; have hE := step_callB hE hz hb; clear q1 q2 q3 hD hB; obtain ⟨q1, q2, q3, -, -, hD⟩ := box3 hE; have hB := step_call hBW hD; have hs43 := hs43.below hb; clear hb; rw [HP9.out])
  (try go_wp2_with fail)
  refine hK.out _ _ ⟨q1, q2, q3⟩ ?_
  clear hK K
  (try simp only [Act.put, List.setIfInBounds_toArray, List.set_cons_zero, List.set_cons_succ])
  refine' ord_light (v := _) rfl rfl rfl (fun w' hSw => ?_) ?_
  rotate_left
  · ((try dsimp only at hSw); go_simp <;> (with_reducible rfl))
  (try simp only [Act.put, List.setIfInBounds_toArray, List.set_cons_zero, List.set_cons_succ])
  refine' ord_light (v := _) rfl rfl rfl (fun w' hSw => ?_) ?_
  rotate_left
  · ((try dsimp only at hSw); go_simp <;> (with_reducible rfl))
  (try simp only [Act.put, List.setIfInBounds_toArray, List.set_cons_zero, List.set_cons_succ])
  refine' ord_light (v := _) rfl rfl rfl (fun w' hSw => ?_) ?_
  rotate_left
  · ((try dsimp only at hSw); go_simp <;> (with_reducible rfl))
  (try simp only [Act.put, List.setIfInBounds_toArray, List.set_cons_zero, List.set_cons_succ])
  refine' ord_light (v := _) rfl rfl rfl (fun w' hSw => ?_) ?_
  rotate_left
  · ((try dsimp only at hSw); go_simp <;> (with_reducible rfl))
  (try simp only [Act.put, List.setIfInBounds_toArray, List.set_cons_zero, List.set_cons_succ])
  refine' ord_light (v := _) rfl rfl rfl (fun w' hSw => ?_) ?_
  rotate_left
  · ((try dsimp only at hSw); go_simp <;> (with_reducible rfl))
  (try simp only [Act.put, List.setIfInBounds_toArray, List.set_cons_zero, List.set_cons_succ])
  refine' ord_light (v := _) rfl rfl rfl (fun w' hSw => ?_) ?_
  rotate_left
  · ((try dsimp only at hSw); go_simp <;> (with_reducible rfl))
  (try simp only [Act.put, List.setIfInBounds_toArray, List.set_cons_zero, List.set_cons_succ])
  refine ord_heavy rfl rfl (fun K hK => ?_)
  go_simp
  (go_at_call 36; clear tk44; (with_reducible refine (and_any _ _ _ _ _ _ _ _ _ (HXs1.out.below hD) (HXs2.out.below hD)).mono ?_); have tk45 : Hid True := trivial; rintro e w45 ⟨a45, n45, c45, rfl, hs45, hb⟩; have hE := step_callB hE hz hb; clear q1 q2 q3 hD hB; obtain ⟨q1, q2, q3, -, -, hD⟩ := box3 hE; have hB := step_call hBW hD; clear hb)
  (try go_wp2_with fail)
  refine hK.out _ _ ⟨q1, q2, q3⟩ ?_
  clear hK K
  (try simp only [Act.put, List.setIfInBounds_toArray, List.set_cons_zero, List.set_cons_succ])
  refine ord_heavy rfl rfl (fun K hK => ?_)
  go_simp
  (go_at_call 35; clear tk45; (with_reducible refine (or_any _ _ _ _ _ _ _ _ _ (HXs1.out.below hD) hs45).mono ?_); have tk46 : Hid True := trivial; rintro e w46 ⟨a46, n46, c46, rfl, hs46, hb⟩; have hE := step_callB hE hz hb; clear q1 q2 q3 hD hB; obtain ⟨q1, q2, q3, -, -, hD⟩ := box3 hE; have hB := step_call hBW hD; have hs45 := hs45.below hb; clear hb)
  (try go_wp2_with fail)
  refine hK.out _ _ ⟨q1, q2, q3⟩ ?_
  clear hK K
  (try simp only [Act.put, List.setIfInBounds_toArray, List.set_cons_zero, List.set_cons_succ])
  refine ord_heavy rfl rfl (fun K hK => ?_)
  go_simp
  (go_at_call 34; clear tk46; (with_reducible refine (equal_any _ _ _ _ _ _ _ _ _ hs46 (HXs1.out.below hD)).mono ?_); have tk47 : Hid True := trivial; rintro e w47 ⟨rfl, hb⟩; have hE := step_callB hE hz hb; clear q1 q2 q3 hD hB; obtain ⟨q1, q2, q3, -, -, hD⟩ := box3 hE; have hB := step_call hBW hD; have hs46 := hs46.below hb; clear hb; rw [HP10.out])
  (try go_wp2_with fail)
  refine hK.out _ _ ⟨q1, q2, q3⟩ ?_
  clear hK K
  (try simp only [Act.put, List.setIfInBounds_toArray, List.set_cons_zero, List.set_cons_succ])
  refine' ord_light (v := _) rfl rfl rfl (fun w' hSw => ?_) ?_
  rotate_left
  · ((try dsimp only at hSw); go_simp <;> (with_reducible rfl))
  (try simp only [Act.put, List.setIfInBounds_toArray, List.set_cons_zero, List.set_cons_succ])
  refine ord_heavy rfl rfl (fun K hK => ?_)
  go_simp
  refine hK.out _ _ ⟨q1, q2, q3⟩ ?_
  clear hK K
  (try simp only [Act.put, List.setIfInBounds_toArray, List.set_cons_zero, List.set_cons_succ])
  refine ord_nil (NoPanic.normal ?_)
  (try go_wp2_with fail)
  go_ret
  exact ⟨rfl, hB⟩
end Go.Proofs.YtaekkpoknpnnbaaDoor
