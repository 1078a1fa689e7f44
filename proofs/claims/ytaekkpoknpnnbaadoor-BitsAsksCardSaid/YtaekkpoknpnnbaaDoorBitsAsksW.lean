/- The walk of BitsAsks. -/
import Derived.Test.YtaekkpoknpnnbaaDoorBuE
namespace Go.Proofs.YtaekkpoknpnnbaaDoor
open Go.RowKit Go.PlainAid
set_option linter.unusedVariables false
set_option linter.unusedSimpArgs false
set_option maxHeartbeats 8000000

theorem cs_len0 {l : List Nat} {n : Nat} (h : (cs l).length = n) : ((n : Int) == 0) = decide (l = []) := by
  rw [cs_length] at h
  rw [Bool.eq_iff_iff, beq_iff_eq, decide_eq_true_iff]
  refine ⟨fun e => List.eq_nil_of_length_eq_zero (by omega), fun e => ?_⟩
  subst e; simp at h; omega
theorem cs_pos {l : List Nat} {n : Nat} (h : (cs l).length = n) : decide ((0 : Int) < (n : Int)) = decide (l ≠ []) := by
  rw [cs_length] at h
  rw [decide_eq_decide]
  refine ⟨fun e e2 => ?_, fun e => ?_⟩
  · subst e2; simp at h; omega
  · have := List.length_pos_iff.2 e; omega
theorem min_nil {l r : List Nat} : minL l r = [] ↔ ∀ x ∈ l, x ∈ r := by
  unfold minL
  rw [List.filter_eq_nil_iff]
  simp
theorem and_ne {l r : List Nat} : andL l r ≠ [] ↔ ∃ x ∈ l, x ∈ r := by
  unfold andL
  rw [ne_eq, List.filter_eq_nil_iff]
  simp
set_option maxRecDepth 20000 in
theorem bitsAsks_walk (a b : Option Addr) (n m cap dap : Nat) (zs xs : List Int) (w : World) (hW : Wld w) (h : Iw w a n cap zs) (h2 : Iw w b m dap xs) :
    Calls Tryd.prog 12 #[.slice a n cap, .slice b m dap] w fun e w' => e = .returned (.bool true) ∧ Below w.heap.size w w' := by
  obtain ⟨n', ys, hn, hi, hf⟩ := few_do a n cap zs w h
  obtain ⟨m', us, hm, hj, hg⟩ := few_do b m dap xs w h2
  obtain ⟨L, eL⟩ : ∃ L, L = ofL ys := ⟨_, rfl⟩
  obtain ⟨M, eM⟩ : ∃ M, M = ofL us := ⟨_, rfl⟩
  have AL : Hid (Asc L) := by rw [eL]; exact asc_ofL ys
  obtain ⟨p, ep⟩ : ∃ p, decide (L = M) = p := ⟨_, rfl⟩
  obtain ⟨r, er⟩ : ∃ r, decide (∀ x ∈ L, x ∈ M) = r := ⟨_, rfl⟩
  obtain ⟨q, eq⟩ : ∃ q, decide (∃ x ∈ L, x ∈ M) = q := ⟨_, rfl⟩
  have HEQ := Lib.hid ep
  have HSM : Hid (decide (cs L = cs M) = p) := (cs_dec L M).trans ep
  have HWI := Lib.hid er
  have HME := Lib.hid eq
  have HMI : Hid (∀ n : Nat, (cs (minL L M)).length = n → ((n : Int) == 0) = r) := fun n h => by
    rw [cs_len0 h, ← er, decide_eq_decide]; exact min_nil
  have HMA : Hid (∀ n : Nat, (cs (andL L M)).length = n → decide ((0 : Int) < (n : Int)) = q) := fun n h => by
    rw [cs_pos h, ← eq, decide_eq_decide]; exact and_ne
  have EL := Lib.hid eL
  have EM := Lib.hid eM
  have HW := Lib.hid hW
  have HF := Lib.hid hf
  have HI := Lib.hid hi
  have HG := Lib.hid hg
  have HJ := Lib.hid hj
  clear hW hf hi h hg hj h2 eL eM ep er eq
  have tk0 : Hid True := trivial
  by_cases hL : L = []
  · have HFI : Hid (firstP L = .returned (.tuple #[.int .i64 0, .bool false])) := by show _ = _; rw [hL]; rfl
    have HLA : Hid (lastP L = .returned (.tuple #[.int .i64 0, .bool false])) := by show _ = _; rw [hL]; rfl
    have HEM : Hid (decide (L = []) = true) := decide_eq_true hL
    have HLZ : Hid (L.length = 0) := by show _ = _; rw [hL]; rfl
    clear hL
    go_enter Tryd.func12, Tryd.ntmps12
    go_wp2_with (first
      | (go_at_call 13; (with_reducible refine (awake_any _ HW.out).mono ?_); rintro e w0 ⟨rfl, hB⟩)
      | (go_at_call 14; (with_reducible refine (HF.out _ hB).mono ?_); rintro e wf ⟨rfl, hw⟩; rw [hw]; clear hw)
      | (go_at_call 16; clear tk0; (with_reducible refine (of_any _ _ _ _ _ (HI.out.below hB) (by omega)).mono ?_); have tk1 : Hid True := trivial; rintro e w1 ⟨a1, n1, c1, rfl, hs1, hb⟩; have hB := step_call hB hb; clear hb; rw [← EL.out] at hs1)
      | (go_at_call 14; (with_reducible refine (HG.out _ hB).mono ?_); rintro e wf ⟨rfl, hw⟩; rw [hw]; clear hw)
      | (go_at_call 16; clear tk1; (with_reducible refine (of_any _ _ _ _ _ (HJ.out.below hB) (by omega)).mono ?_); have tk2 : Hid True := trivial; rintro e w2 ⟨a2, n2, c2, rfl, hs2, hb⟩; have hB := step_call hB hb; have hs1 := hs1.below hb; clear hb; rw [← EM.out] at hs2)
      | (go_at_call 17; clear tk2; (with_reducible refine (r_of _ _ _ _ _ (HI.out.below hB)).mono ?_); have tk3 : Hid True := trivial; rintro e w3 ⟨a3, n3, c3, rfl, hi3, hb⟩; have hB := step_call hB hb; have hs1 := hs1.below hb; have hs2 := hs2.below hb; clear hb; rw [← EL.out] at hi3; have HN3 : Hid (L.length = n3) := (by have := hi3.1; rw [cs_length] at this; exact this); obtain rfl : n3 = 0 := (by have := HLZ.out; have := HN3.out; omega))
      | (go_at_call 17; clear tk3; (with_reducible refine (r_of _ _ _ _ _ (HJ.out.below hB)).mono ?_); have tk4 : Hid True := trivial; rintro e w4 ⟨a4, n4, c4, rfl, hi4, hb⟩; have hB := step_call hB hb; have hs1 := hs1.below hb; have hs2 := hs2.below hb; have hi3 := hi3.below hb; clear hb; rw [← EM.out] at hi4; have hBW := hB; have hz : w4.heap.size + 2 ≤ (((w4).alloc (.cells #[.slice a1 n1 c1] 27)).alloc (.cells #[.slice a2 n2 c2] 27)).heap.size := (by simp); have hE := Below.refl (w4.heap.size + 2) (((w4).alloc (.cells #[.slice a1 n1 c1] 27)).alloc (.cells #[.slice a2 n2 c2] 27)); clear hB; obtain ⟨q1, q2, -, -, hD⟩ := box2 hE; have hB := step_call hBW hD; have HXs1 := Lib.hid hs1; have HXs2 := Lib.hid hs2; have HXi3 := Lib.hid hi3; have HXi4 := Lib.hid hi4; clear hs1 hs2 hi3 hi4)
      | (go_at_call 46; clear tk4; (with_reducible refine (least_any _ _ _ L _ (HW.out.below hB).tz (HXs1.out.below hD)).mono ?_); have tk5 : Hid True := trivial; rintro e w5 ⟨rfl, hb⟩; have hE := step_callB hE hz hb; clear q1 q2 hD hB; obtain ⟨q1, q2, -, -, hD⟩ := box2 hE; have hB := step_call hBW hD; clear hb; rw [HFI.out])
      | (go_at_call 47; clear tk5; (with_reducible refine (greatest_any _ _ _ L _ (HXs1.out.below hD)).mono ?_); have tk6 : Hid True := trivial; rintro e w6 ⟨rfl, hb⟩; have hE := step_callB hE hz hb; clear q1 q2 hD hB; obtain ⟨q1, q2, -, -, hD⟩ := box2 hE; have hB := step_call hBW hD; clear hb; rw [HLA.out])
      | (go_at_call 27; clear tk6; (with_reducible refine (empty_any _ _ _ L _ (HXs1.out.below hD)).mono ?_); have tk7 : Hid True := trivial; rintro e w7 ⟨rfl, hb⟩; have hE := step_callB hE hz hb; clear q1 q2 hD hB; obtain ⟨q1, q2, -, -, hD⟩ := box2 hE; have hB := step_call hBW hD; clear hb; rw [HEM.out])
      | (go_at_call 48; clear tk7; (with_reducible refine (len_any _ _ _ L _ (HXs1.out.below hD)).mono ?_); have tk8 : Hid True := trivial; rintro e w8 ⟨rfl, hb⟩; have hE := step_callB hE hz hb; clear q1 q2 hD hB; obtain ⟨q1, q2, -, -, hD⟩ := box2 hE; have hB := step_call hBW hD; clear hb; rw [HN3.out])
      | (go_at_call 34; clear tk8; (with_reducible refine (equal_any _ _ _ _ _ _ L M _ (HXs1.out.below hD) (HXs2.out.below hD)).mono ?_); have tk9 : Hid True := trivial; rintro e w9 ⟨rfl, hb⟩; have hE := step_callB hE hz hb; clear q1 q2 hD hB; obtain ⟨q1, q2, -, -, hD⟩ := box2 hE; have hB := step_call hBW hD; clear hb; rw [HEQ.out])
      | (go_at_call 49; (with_reducible refine (rsame_any _ _ _ _ _ _ _ _ _ (HXi3.out.below hD) (HXi4.out.below hD)).mono ?_); rintro e wf ⟨rfl, hw⟩; rw [hw, HSM.out]; clear hw)
      | (go_at_call 50; clear tk9; (with_reducible refine (within_any _ _ _ _ _ _ L M _ (HXs1.out.below hD) (HXs2.out.below hD)).mono ?_); have tk10 : Hid True := trivial; rintro e w10 ⟨rfl, hb⟩; have hE := step_callB hE hz hb; clear q1 q2 hD hB; obtain ⟨q1, q2, -, -, hD⟩ := box2 hE; have hB := step_call hBW hD; clear hb; rw [HWI.out])
      | (go_at_call 39; clear tk10; (with_reducible refine (r_minus _ _ _ _ _ _ L M _ (HXi3.out.below hD) (HXi4.out.below hD) AL.out).mono ?_); have tk11 : Hid True := trivial; rintro e w11 ⟨a11, n11, c11, rfl, hi11, hb⟩; have hE := step_callB hE hz hb; clear q1 q2 hD hB; obtain ⟨q1, q2, -, -, hD⟩ := box2 hE; have hB := step_call hBW hD; clear hb; have hmz := HMI.out _ hi11.1)
      | (go_at_call 45; clear tk11; (with_reducible refine (meets_any _ _ _ _ _ _ L M _ (HXs1.out.below hD) (HXs2.out.below hD)).mono ?_); have tk12 : Hid True := trivial; rintro e w12 ⟨rfl, hb⟩; have hE := step_callB hE hz hb; clear q1 q2 hD hB; obtain ⟨q1, q2, -, -, hD⟩ := box2 hE; have hB := step_call hBW hD; clear hb; rw [HME.out])
      | (go_at_call 37; clear tk12; (with_reducible refine (r_and _ _ _ _ _ _ L M _ (HXi3.out.below hD) (HXi4.out.below hD) AL.out).mono ?_); have tk13 : Hid True := trivial; rintro e w13 ⟨a13, n13, c13, rfl, hi13, hb⟩; have hE := step_callB hE hz hb; clear q1 q2 hD hB; obtain ⟨q1, q2, -, -, hD⟩ := box2 hE; have hB := step_call hBW hD; clear hb; have hmq := HMA.out _ hi13.1))
    go_ret
    exact ⟨ret_bool (by rw [← hmq]; simp), hB⟩
  · have HLP : Hid (0 < L.length) := List.length_pos_iff.2 hL
    obtain ⟨x, hx⟩ : ∃ x : Int, ((L.headD 0 : Nat) : Int) = x := ⟨_, rfl⟩
    obtain ⟨y, hy⟩ : ∃ y : Int, ((L.getLastD 0 : Nat) : Int) = y := ⟨_, rfl⟩
    have he : L.isEmpty = false := by cases L with | nil => exact absurd rfl hL | cons _ _ => rfl
    have HFI : Hid (firstP L = .returned (.tuple #[.int .i64 x, .bool true])) := by show _ = _; unfold firstP; rw [hx, he]; rfl
    have HLA : Hid (lastP L = .returned (.tuple #[.int .i64 y, .bool true])) := by show _ = _; unfold lastP; rw [hy, he]; rfl
    have HEM : Hid (decide (L = []) = false) := decide_eq_false hL
    have HX0 : Hid (zg (cs L) 0 = x) := by
      show _ = _
      rw [zg_cs, ← hx]
      cases L with | nil => exact absurd rfl hL | cons _ _ => rfl
    have HXn : Hid (zg (cs L) (L.length - 1) = y) := by
      show _ = _
      rw [zg_cs, ← hy, wd_get (by have := HLP.out; omega), List.getLastD_eq_getLast?, List.getLast?_eq_some_getLast hL, Option.getD_some, List.getLast_eq_getElem]
    clear hL hx hy he
    go_enter Tryd.func12, Tryd.ntmps12
    go_wp2_with (first
      | (go_at_call 13; (with_reducible refine (awake_any _ HW.out).mono ?_); rintro e w0 ⟨rfl, hB⟩)
      | (go_at_call 14; (with_reducible refine (HF.out _ hB).mono ?_); rintro e wf ⟨rfl, hw⟩; rw [hw]; clear hw)
      | (go_at_call 16; clear tk0; (with_reducible refine (of_any _ _ _ _ _ (HI.out.below hB) (by omega)).mono ?_); have tk1 : Hid True := trivial; rintro e w1 ⟨a1, n1, c1, rfl, hs1, hb⟩; have hB := step_call hB hb; clear hb; rw [← EL.out] at hs1)
      | (go_at_call 14; (with_reducible refine (HG.out _ hB).mono ?_); rintro e wf ⟨rfl, hw⟩; rw [hw]; clear hw)
      | (go_at_call 16; clear tk1; (with_reducible refine (of_any _ _ _ _ _ (HJ.out.below hB) (by omega)).mono ?_); have tk2 : Hid True := trivial; rintro e w2 ⟨a2, n2, c2, rfl, hs2, hb⟩; have hB := step_call hB hb; have hs1 := hs1.below hb; clear hb; rw [← EM.out] at hs2)
      | (go_at_call 17; clear tk2; (with_reducible refine (r_of _ _ _ _ _ (HI.out.below hB)).mono ?_); have tk3 : Hid True := trivial; rintro e w3 ⟨a3, n3, c3, rfl, hi3, hb⟩; have hB := step_call hB hb; have hs1 := hs1.below hb; have hs2 := hs2.below hb; clear hb; rw [← EL.out] at hi3; have HN3 : Hid (L.length = n3) := (by have := hi3.1; rw [cs_length] at this; exact this); have hp3 : 0 < n3 := (by have := HLP.out; have := HN3.out; omega); have hb4096 : n3 ≤ 4096 := (by have := HN3.out; have := asc_len AL.out; omega); obtain ⟨b3, o3, rfl, hbb3, -⟩ := hi3.at hp3)
      | (go_at_call 17; clear tk3; (with_reducible refine (r_of _ _ _ _ _ (HJ.out.below hB)).mono ?_); have tk4 : Hid True := trivial; rintro e w4 ⟨a4, n4, c4, rfl, hi4, hb⟩; have hB := step_call hB hb; have hs1 := hs1.below hb; have hs2 := hs2.below hb; have hi3 := hi3.below hb; clear hb; rw [← EM.out] at hi4; have hBW := hB; have hz : w4.heap.size + 2 ≤ (((w4).alloc (.cells #[.slice a1 n1 c1] 27)).alloc (.cells #[.slice a2 n2 c2] 27)).heap.size := (by simp); have hE := Below.refl (w4.heap.size + 2) (((w4).alloc (.cells #[.slice a1 n1 c1] 27)).alloc (.cells #[.slice a2 n2 c2] 27)); clear hB; obtain ⟨q1, q2, -, -, hD⟩ := box2 hE; have hB := step_call hBW hD; have HXs1 := Lib.hid hs1; have HXs2 := Lib.hid hs2; have HXi3 := Lib.hid hi3; have HXi4 := Lib.hid hi4; clear hs1 hs2 hi3 hi4)
      | (go_at_call 46; clear tk4; (with_reducible refine (least_any _ _ _ L _ (HW.out.below hB).tz (HXs1.out.below hD)).mono ?_); have tk5 : Hid True := trivial; rintro e w5 ⟨rfl, hb⟩; have hE := step_callB hE hz hb; clear q1 q2 hD hB; obtain ⟨q1, q2, -, -, hD⟩ := box2 hE; have hB := step_call hBW hD; clear hb; rw [HFI.out])
      | (go_at_call 47; clear tk5; (with_reducible refine (greatest_any _ _ _ L _ (HXs1.out.below hD)).mono ?_); have tk6 : Hid True := trivial; rintro e w6 ⟨rfl, hb⟩; have hE := step_callB hE hz hb; clear q1 q2 hD hB; obtain ⟨q1, q2, -, -, hD⟩ := box2 hE; have hB := step_call hBW hD; clear hb; rw [HLA.out])
      | (go_at_call 27; clear tk6; (with_reducible refine (empty_any _ _ _ L _ (HXs1.out.below hD)).mono ?_); have tk7 : Hid True := trivial; rintro e w7 ⟨rfl, hb⟩; have hE := step_callB hE hz hb; clear q1 q2 hD hB; obtain ⟨q1, q2, -, -, hD⟩ := box2 hE; have hB := step_call hBW hD; clear hb; rw [HEM.out]; have c0 := (HXi3.out.below hD).cell (k := 0) hp3; rw [HX0.out, Nat.add_zero] at c0; have c1 := (HXi3.out.below hD).cell (k := n3 - 1) (by omega); rw [show zg (cs L) (n3 - 1) = y from (by rw [← HN3.out]; exact HXn.out)] at c1)
      | (go_at_call 48; clear tk7; (with_reducible refine (len_any _ _ _ L _ (HXs1.out.below hD)).mono ?_); have tk8 : Hid True := trivial; rintro e w8 ⟨rfl, hb⟩; have hE := step_callB hE hz hb; clear q1 q2 hD hB; obtain ⟨q1, q2, -, -, hD⟩ := box2 hE; have hB := step_call hBW hD; clear hb; rw [HN3.out])
      | (go_at_call 34; clear tk8; (with_reducible refine (equal_any _ _ _ _ _ _ L M _ (HXs1.out.below hD) (HXs2.out.below hD)).mono ?_); have tk9 : Hid True := trivial; rintro e w9 ⟨rfl, hb⟩; have hE := step_callB hE hz hb; clear q1 q2 hD hB; obtain ⟨q1, q2, -, -, hD⟩ := box2 hE; have hB := step_call hBW hD; clear hb; rw [HEQ.out])
      | (go_at_call 49; (with_reducible refine (rsame_any _ _ _ _ _ _ _ _ _ (HXi3.out.below hD) (HXi4.out.below hD)).mono ?_); rintro e wf ⟨rfl, hw⟩; rw [hw, HSM.out]; clear hw)
      | (go_at_call 50; clear tk9; (with_reducible refine (within_any _ _ _ _ _ _ L M _ (HXs1.out.below hD) (HXs2.out.below hD)).mono ?_); have tk10 : Hid True := trivial; rintro e w10 ⟨rfl, hb⟩; have hE := step_callB hE hz hb; clear q1 q2 hD hB; obtain ⟨q1, q2, -, -, hD⟩ := box2 hE; have hB := step_call hBW hD; clear hb; rw [HWI.out])
      | (go_at_call 39; clear tk10; (with_reducible refine (r_minus _ _ _ _ _ _ L M _ (HXi3.out.below hD) (HXi4.out.below hD) AL.out).mono ?_); have tk11 : Hid True := trivial; rintro e w11 ⟨a11, n11, c11, rfl, hi11, hb⟩; have hE := step_callB hE hz hb; clear q1 q2 hD hB; obtain ⟨q1, q2, -, -, hD⟩ := box2 hE; have hB := step_call hBW hD; clear hb; have hmz := HMI.out _ hi11.1)
      | (go_at_call 45; clear tk11; (with_reducible refine (meets_any _ _ _ _ _ _ L M _ (HXs1.out.below hD) (HXs2.out.below hD)).mono ?_); have tk12 : Hid True := trivial; rintro e w12 ⟨rfl, hb⟩; have hE := step_callB hE hz hb; clear q1 q2 hD hB; obtain ⟨q1, q2, -, -, hD⟩ := box2 hE; have hB := step_call hBW hD; clear hb; rw [HME.out])
      | (go_at_call 37; clear tk12; (with_reducible refine (r_and _ _ _ _ _ _ L M _ (HXi3.out.below hD) (HXi4.out.below hD) AL.out).mono ?_); have tk13 : Hid True := trivial; rintro e w13 ⟨a13, n13, c13, rfl, hi13, hb⟩; have hE := step_callB hE hz hb; clear q1 q2 hD hB; obtain ⟨q1, q2, -, -, hD⟩ := box2 hE; have hB := step_call hBW hD; clear hb; have hmq := HMA.out _ hi13.1))
    go_ret
    exact ⟨ret_bool (by rw [← hmq]; simp), hB⟩
end Go.Proofs.YtaekkpoknpnnbaaDoor
