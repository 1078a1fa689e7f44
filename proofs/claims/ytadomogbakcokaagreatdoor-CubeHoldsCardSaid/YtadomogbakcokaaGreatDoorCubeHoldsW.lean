/- The walk of CubeHolds. -/
import Derived.Test.YtadomogbakcokaaGreatDoorQgu
import Derived.Test.YtadomogbakcokaaGreatDoorQgg
namespace Go.Proofs.YtadomogbakcokaaGreatDoor
open Go.RowKit Go.PlainAid
set_option linter.unusedVariables false
set_option linter.unusedSimpArgs false
set_option maxHeartbeats 4000000
set_option maxRecDepth 20000

theorem holds_t (a b e : Option Addr) (n c m d k f : Nat) (x : Cu) (s : List Nat) (t : Bool) (w : World) (h : Cb w ⟨a, n, c, b, m, d⟩ x) (hs : Bs w e k f s) (ht : Hid (holdsC x s = t)) :
    Calls Tryz.prog 17 #[.agg #[.slice a n c, .slice b m d], .agg #[.slice e k f]] w (BoolPost w t) := by
  rw [← ht.out]; exact holdsC_any a b e n c m d k f x s w h hs
theorem empty_t (a b : Option Addr) (n c m d : Nat) (x : Cu) (t : Bool) (w : World) (h : Cb w ⟨a, n, c, b, m, d⟩ x) (ht : Hid (emptyC x = t)) :
    Calls Tryz.prog 21 #[.agg #[.slice a n c, .slice b m d]] w (BoolPost w t) := by
  rw [← ht.out]; exact emptyC_any a b n c m d x w h
theorem rholds_t (m1 m2 s : Nat) (t : Bool) (w : World) (hc : McOk (m1, m2)) (hs : s < 18446744073709551616) (ht : Hid (holdsM (m1, m2) s = t)) :
    Calls Tryz.prog 20 #[.agg #[.int .u64 (m1 : Nat), .int .u64 (m2 : Nat)], .int .u64 (s : Nat)] w (BoolPost w t) := by
  rw [← ht.out]; exact rholds_any (m1, m2) s hc hs w
theorem rempty_t (m1 m2 : Nat) (t : Bool) (w : World) (hc : McOk (m1, m2)) (ht : Hid (emptyM (m1, m2) = t)) :
    Calls Tryz.prog 22 #[.agg #[.int .u64 (m1 : Nat), .int .u64 (m2 : Nat)]] w (BoolPost w t) := by
  rw [← ht.out]; exact rempty_any (m1, m2) hc w
theorem some_t (a e : Option Addr) (n cap k f : Nat) (l : List Cu) (s : List Nat) (t : Bool) (w : World) (h : Cs w a n cap l) (hs : Bs w e k f s) (ht : Hid (someC l s = t)) :
    Calls Tryz.prog 23 #[.slice a n cap, .agg #[.slice e k f]] w (BoolPost w t) := by
  rw [← ht.out]; exact someC_any a e n cap k f l s w h hs
theorem rsome_t (a : Option Addr) (n cap : Nat) (l : List Mc) (s : Nat) (t : Bool) (w : World) (hs : s < 18446744073709551616) (h : Ms w a n cap l) (ht : Hid (someM l s = t)) :
    Calls Tryz.prog 25 #[.slice a n cap, .int .u64 (s : Nat)] w (BoolPost w t) := by
  rw [← ht.out]; exact rsome_any a n cap l s hs w h
theorem u64_of {o : Int} (h : (Lit.int .u64 o).wf = true) : ∃ m : Nat, o = m ∧ m < 18446744073709551616 := by
  have := bounds_u64 h
  exact ⟨o.toNat, by omega, by omega⟩
theorem cubeHolds_walk (a : Option Addr) (n cap : Nat) (l : List Rx) (o : Int) (w : World) (hW : Wld w) (h : Rs w a n cap l) (ho : (Lit.int .u64 o).wf = true) :
    Calls Tryz.prog 3 #[.slice a n cap, .int .u64 o] w fun e w' => e = .returned (.bool true) ∧ Below w.heap.size w w' := by
  obtain ⟨s, rfl, hs⟩ := u64_of ho
  have HW := Lib.hid hW
  have HR := Lib.hid h
  obtain ⟨L, eL⟩ : ∃ L, listM l = L := ⟨_, rfl⟩
  have EL := Lib.hid eL
  have H8 : Hid (∀ c ∈ L, Mc8 c) := by rw [← eL]; exact listM_ok l
  have hLn : L.length ≤ 1000000 := by rw [← eL]; exact Nat.le_trans (listM_len l) (by omega)
  obtain ⟨C, eC⟩ : ∃ C, L.map cuM = C := ⟨_, rfl⟩
  have EC := Lib.hid eC
  obtain ⟨ss, es⟩ : ∃ ss, bitsL s = ss := ⟨_, rfl⟩
  have ES := Lib.hid es
  obtain ⟨z, ez⟩ : ∃ z, someM L s = z := ⟨_, rfl⟩
  have EZ := Lib.hid ez
  have EY : Hid (someC C ss = z) := by show _ = _; rw [← eC, ← es, ← ez]; exact some_cuM (list_ok H8.out) hs
  have HX : Hid (∀ x ∈ L, holdsC (cuM x) ss = holdsM x s) := fun x hx => by rw [← es]; exact holds_cuM (H8.out x hx).ok hs
  clear hW h ho eL eC es ez
  go_enter Tryz.func3, Tryz.ntmps3
  go_wp2_with (first
    | (go_at_call 15; (with_reducible refine (awake_any _ HW.out).mono ?_); rintro e w0 ⟨rfl, hB⟩)
    | (go_at_call 16; (with_reducible refine (rlist_c _ _ _ _ _ _ (HR.out.below hB) EL).mono ?_); rintro e w1 ⟨a1, n1, c1, rfl, hm, hb⟩; have hB := step_call hB hb; clear hb))
  have HM := Lib.hid hm
  have HBB := Lib.hid hB
  have HLL : Hid (L.length = n1) := hm.len
  obtain ⟨hnc, hcm⟩ := hm.caps
  clear hm hB
  go_loopw [14] (fun v wr => ∃ j : Nat, j ≤ n1 ∧ v = .int .i64 j ∧ Hid (Below w1.heap.size w1 wr)) (fun v _ => n1 - (intOf v).toNat)
  case atStart => exact ⟨0, Nat.zero_le _, rfl, Below.refl _ _⟩
  case round =>
    obtain ⟨j, hj, rfl, hB⟩ := hrel
    have hzr := hB.out.size
    by_cases hjn : j < n1
    · obtain ⟨x, hx⟩ : ∃ x, L[j]? = some x := ⟨_, List.getElem?_eq_getElem (by rw [HLL.out]; exact hjn)⟩
      obtain ⟨bb, oo, rfl, hbl, x0, x1, hxo⟩ := (HM.out.below hB.out).at hx
      have hxm : x ∈ L := List.mem_of_getElem? hx
      have hj0 : (0 : Int) ≤ (j : Int) := Int.natCast_nonneg _
      have hj1 : (j : Int) < (n1 : Int) := by omega
      obtain ⟨t, et⟩ : ∃ t, holdsM x s = t := ⟨_, rfl⟩
      have HT2 := Lib.hid et
      have HT1 : Hid (holdsC (cuM x) ss = t) := (HX.out x hxm).trans et
      obtain ⟨u, eu⟩ : ∃ u, emptyM x = u := ⟨_, rfl⟩
      have HE2 := Lib.hid eu
      have HE1 : Hid (emptyC (cuM x) = u) := (empty_cuM hxo).trans eu
      obtain ⟨X, eX⟩ : ∃ X, cuM x = X := ⟨_, rfl⟩
      have EX := Lib.hid eX
      rw [eX] at HT1 HE1
      obtain ⟨m1, m2⟩ := x
      dsimp only at x0 x1
      clear hx hxm et eu eX
      obtain ⟨W0, hW0⟩ : ∃ W0, W0 = wr.alloc (.cells #[.int .u64 (m1 : Nat), .int .u64 (m2 : Nat)] 28) := ⟨_, rfl⟩
      have hT : Hid (∀ w', Below (wr.heap.size + 1) W0 w' → w'.cell? ⟨wr.heap.size, 0, none⟩ = some (.int .u64 (m1 : Nat)) ∧ w'.cell? ⟨wr.heap.size, 1, none⟩ = some (.int .u64 (m2 : Nat)) ∧ wr.heap.size < w'.heap.size ∧ Below wr.heap.size wr w') := fun w' hb => by
        rw [hW0] at hb
        exact boxC (hb.mono (by simp))
      have k0 : Hid (Below (wr.heap.size + 1) W0 W0.drew) := (Below.refl _ _).drew
      obtain ⟨q0, q1, -, hb1⟩ := hT.out _ k0.out
      have tk0 : Hid True := trivial
      cases t
      all_goals
        cases u
        all_goals
            go_wp2_with fail
            rw [← hW0]
            clear hW0
            refine wp_region_noPanic ?_
            refine region_ord (S := fun w' => w'.cell? ⟨wr.heap.size, 0, none⟩ = some (.int .u64 (m1 : Nat)) ∧ w'.cell? ⟨wr.heap.size, 1, none⟩ = some (.int .u64 (m2 : Nat))) [0, 2, 5, 6, 1, 3, 4, 7, 8, 9, 10, 13, 11, 12, 14, 15, 16] (by kernel_rfl) (by decide +kernel) (fun _ _ _ _ _ h => h) (⟨q0, q1⟩) (fun _ => ?_)
            repeat (first
              | (refine ord_skip rfl rfl rfl ?_; (try simp only [Act.put, List.setIfInBounds_toArray, List.set_cons_zero, List.set_cons_succ]))
              | (refine' ord_light (v := _) rfl rfl rfl (fun w' hSw => ?_) ?_; rotate_left; (focus ((try dsimp only at hSw); go_simp <;> (with_reducible rfl))); (try simp only [Act.put, List.setIfInBounds_toArray, List.set_cons_zero, List.set_cons_succ]))
              | (refine ord_heavy rfl rfl (fun K hK => ?_); go_simp; (go_at_call 18; clear tk0; have tk1 : Hid True := trivial; (with_reducible refine (lawmake_c _ _ _ _ hxo EX).mono ?_); rintro e w1 ⟨a1, n1, c1, b1, m1', d1, rfl, hc1, hb⟩; clear q0 q1 hb1; have k1 := Lib.hid (k0.out.trans (hb.mono (hT.out _ k0.out).2.2.1)); obtain ⟨q0, q1, -, hb1⟩ := hT.out _ k1.out; have hB1 := step_call hB.out hb1; clear hb); (try go_wp2_with fail); refine hK.out _ _ (⟨q0, q1⟩) ?_; clear hK K; (try simp only [Act.put, List.setIfInBounds_toArray, List.set_cons_zero, List.set_cons_succ]))
              | (refine ord_heavy rfl rfl (fun K hK => ?_); go_simp; (go_at_call 19; clear tk1; have tk2 : Hid True := trivial; (with_reducible refine (lawset_c _ _ _ hs ES).mono ?_); rintro e w2 ⟨a2, n2, c2, rfl, hs2, hb⟩; clear q0 q1 hb1; have k2 := Lib.hid (k1.out.trans (hb.mono (hT.out _ k1.out).2.2.1)); obtain ⟨q0, q1, -, hb1⟩ := hT.out _ k2.out; have hB1 := step_call hB.out hb1; have hc1 := hc1.below hb; clear hb); (try go_wp2_with fail); refine hK.out _ _ (⟨q0, q1⟩) ?_; clear hK K; (try simp only [Act.put, List.setIfInBounds_toArray, List.set_cons_zero, List.set_cons_succ]))
              | (refine ord_heavy rfl rfl (fun K hK => ?_); go_simp; (go_at_call 17; clear tk2; have tk3 : Hid True := trivial; (with_reducible refine (holds_t _ _ _ _ _ _ _ _ _ _ _ _ _ hc1 hs2 HT1).mono ?_); rintro e w3 ⟨rfl, hb⟩; clear q0 q1 hb1; have k3 := Lib.hid (k2.out.trans (hb.mono (hT.out _ k2.out).2.2.1)); obtain ⟨q0, q1, -, hb1⟩ := hT.out _ k3.out; have hB1 := step_call hB.out hb1; clear hb hc1 hs2); (try go_wp2_with fail); refine hK.out _ _ (⟨q0, q1⟩) ?_; clear hK K; (try simp only [Act.put, List.setIfInBounds_toArray, List.set_cons_zero, List.set_cons_succ]))
              | (refine ord_heavy rfl rfl (fun K hK => ?_); go_simp; (go_at_call 20; clear tk3; have tk4 : Hid True := trivial; (with_reducible refine (rholds_t _ _ _ _ _ hxo hs HT2).mono ?_); rintro e w4 ⟨rfl, hb⟩; clear q0 q1 hb1; have k4 := Lib.hid (k3.out.trans (hb.mono (hT.out _ k3.out).2.2.1)); obtain ⟨q0, q1, -, hb1⟩ := hT.out _ k4.out; have hB1 := step_call hB.out hb1; clear hb); (try go_wp2_with fail); refine hK.out _ _ (⟨q0, q1⟩) ?_; clear hK K; (try simp only [Act.put, List.setIfInBounds_toArray, List.set_cons_zero, List.set_cons_succ]))
              | (refine ord_heavy rfl rfl (fun K hK => ?_); go_simp; (go_at_call 18; clear tk4; have tk5 : Hid True := trivial; (with_reducible refine (lawmake_c _ _ _ _ hxo EX).mono ?_); rintro e w5 ⟨a5, n5, c5, b5, m5, d5, rfl, hc5, hb⟩; clear q0 q1 hb1; have k5 := Lib.hid (k4.out.trans (hb.mono (hT.out _ k4.out).2.2.1)); obtain ⟨q0, q1, -, hb1⟩ := hT.out _ k5.out; have hB1 := step_call hB.out hb1; clear hb); (try go_wp2_with fail); refine hK.out _ _ (⟨q0, q1⟩) ?_; clear hK K; (try simp only [Act.put, List.setIfInBounds_toArray, List.set_cons_zero, List.set_cons_succ]))
              | (refine ord_heavy rfl rfl (fun K hK => ?_); go_simp; (go_at_call 21; clear tk5; have tk6 : Hid True := trivial; (with_reducible refine (empty_t _ _ _ _ _ _ _ _ _ hc5 HE1).mono ?_); rintro e w6 ⟨rfl, hb⟩; clear q0 q1 hb1; have k6 := Lib.hid (k5.out.trans (hb.mono (hT.out _ k5.out).2.2.1)); obtain ⟨q0, q1, -, hb1⟩ := hT.out _ k6.out; have hB1 := step_call hB.out hb1; clear hb hc5); (try go_wp2_with fail); refine hK.out _ _ (⟨q0, q1⟩) ?_; clear hK K; (try simp only [Act.put, List.setIfInBounds_toArray, List.set_cons_zero, List.set_cons_succ]))
              | (refine ord_heavy rfl rfl (fun K hK => ?_); go_simp; (go_at_call 22; clear tk6; have tk7 : Hid True := trivial; (with_reducible refine (rempty_t _ _ _ _ hxo HE2).mono ?_); rintro e w7 ⟨rfl, hb⟩; clear q0 q1 hb1; have k7 := Lib.hid (k6.out.trans (hb.mono (hT.out _ k6.out).2.2.1)); obtain ⟨q0, q1, -, hb1⟩ := hT.out _ k7.out; have hB1 := step_call hB.out hb1; clear hb); (try go_wp2_with fail); refine hK.out _ _ (⟨q0, q1⟩) ?_; clear hK K; (try simp only [Act.put, List.setIfInBounds_toArray, List.set_cons_zero, List.set_cons_succ]))
              | (refine ord_heavy rfl rfl (fun K hK => ?_); go_simp; (try go_wp2_with fail); refine hK.out _ _ (⟨q0, q1⟩) ?_; clear hK K; (try simp only [Act.put, List.setIfInBounds_toArray, List.set_cons_zero, List.set_cons_succ])))
            refine ord_nil (NoPanic.normal ?_)
            go_wp2_with fail
            go_roundw
            case rel => exact ⟨j + 1, by omega, by go_num, hB1⟩
            case measure => simp [intOf]; omega
    · have hjn' : j = n1 := by omega
      have hm := HM.out.below hB.out
      have hB := step_call HBB.out hB.out
      go_wp2_with (first
        | (go_at_call 24; (with_reducible refine (makeAll_c _ _ _ _ _ _ hm hLn EC).mono ?_); rintro e w2 ⟨a2, n2, c2, rfl, hc, hb⟩; have hB := step_call hB hb; have hm := hm.below hb; clear hb)
        | (go_at_call 19; (with_reducible refine (lawset_c _ _ _ hs ES).mono ?_); rintro e w3 ⟨a3, n3, c3, rfl, hs3, hb⟩; have hB := step_call hB hb; have hm := hm.below hb; have hc := hc.below hb; clear hb)
        | (go_at_call 23; (with_reducible refine (some_t _ _ _ _ _ _ _ _ _ _ hc hs3 EY).mono ?_); rintro e w4 ⟨rfl, hb⟩; have hB := step_call hB hb; have hm := hm.below hb; clear hb)
        | (go_at_call 25; (with_reducible refine (rsome_t _ _ _ _ _ _ _ hs hm EZ).mono ?_); rintro e w5 ⟨rfl, hb⟩; have hB := step_call hB hb; clear hb))
      go_ret
      exact ⟨ret_bool (by simp), hB⟩
end Go.Proofs.YtadomogbakcokaaGreatDoor
