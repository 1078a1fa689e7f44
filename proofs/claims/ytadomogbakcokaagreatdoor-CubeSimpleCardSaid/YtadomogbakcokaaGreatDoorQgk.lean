/- Several of the texts below, joined: CvF CvG. -/
import Derived.Test.YtadomogbakcokaaGreatDoorQgi
section
/- Contracts of the law's Same: the closure, slices.EqualFunc. -/
namespace Go.Proofs.YtadomogbakcokaaGreatDoor
open Go.RowKit Go.PlainAid
set_option linter.unusedVariables false
set_option linter.unusedSimpArgs false
set_option maxHeartbeats 4000000

def IntsP (w : World) (l : List Nat) (e : Ending) (w' : World) : Prop := ∃ b n c, e = .returned (.slice b n c) ∧ Iw w' b n c (cs l) ∧ Below w.heap.size w w'
theorem list_c (a : Option Addr) (n cap : Nat) (l : List Nat) (w : World) (h : Bs w a n cap l) (hT : Tz w) :
    Calls Tryz.prog 47 #[.agg #[.slice a n cap]] w (IntsP w l) := by
  refine (list_any a n cap l w h hT).mono ?_
  rintro e w' ⟨v, rfl, hr, hb⟩
  obtain ⟨b, c, rfl, hi⟩ := iw_of_i64 hr rfl
  exact ⟨b, _, c, rfl, hi, hb⟩
theorem rmembers_c (m : Nat) (hm : m < 18446744073709551616) (w : World) : Calls Tryz.prog 48 #[.int .u64 (m : Nat)] w (IntsP w (bitsL m)) := by
  refine (rmembers_any m hm w).mono ?_
  rintro e w' ⟨v, rfl, hr, hb⟩
  obtain ⟨b, c, rfl, hi⟩ := RowI.iw hr
  exact ⟨b, _, c, rfl, hi, hb⟩
theorem equal_c2 (a b : Option Addr) (n c m d : Nat) (l r : List Nat) (w : World) (h : Iw w a n c (cs l)) (k : Iw w b m d (cs r)) :
    Calls Tryz.prog 45 #[.slice a n c, .slice b m d] w (BoolPost w (eqL l r)) := by
  refine (equalI_any a b n c m d _ _ w h k).mono ?_
  rintro e w' ⟨rfl, hb⟩
  exact ⟨by rw [cs_dec]; rfl, hb⟩
def sameB (x : Cu) (c : Mc) : Bool := eqL x.1 (bitsL c.1) && eqL x.2 (bitsL c.2)
theorem sameB_iff {x : Cu} {c : Mc} : sameB x c = true ↔ x = cuM c := by
  unfold sameB eqL cuM
  rw [Bool.and_eq_true, decide_eq_true_iff, decide_eq_true_iff]
  exact ⟨fun h => Prod.ext h.1 h.2, fun h => by rw [h]; exact ⟨rfl, rfl⟩⟩
set_option maxRecDepth 20000 in
theorem same1_any (a b : Option Addr) (n c m d : Nat) (x : Cu) (y : Mc) (hy : McOk y) (w : World) (h : Cb w ⟨a, n, c, b, m, d⟩ x) (hT0 : Tz w) :
    Calls Tryz.prog 78 #[.agg #[.slice a n c, .slice b m d], .agg #[.int .u64 (y.1 : Nat), .int .u64 (y.2 : Nat)]] w (BoolPost w (sameB x y)) := by
  obtain ⟨m1, m2⟩ := y
  obtain ⟨h1, h2⟩ := hy
  dsimp only at h1 h2 ⊢
  have HL1 := Lib.hid (fun w' (hb : Below w.heap.size w w') => list_c a n c x.1 w' (h.1.below hb) (hT0.below hb))
  have HL2 := Lib.hid (fun w' (hb : Below w.heap.size w w') => list_c b m d x.2 w' (h.2.below hb) (hT0.below hb))
  have HM1 := Lib.hid (fun w' => rmembers_c m1 h1 w')
  have HM2 := Lib.hid (fun w' => rmembers_c m2 h2 w')
  have HE : Hid (sameB x (m1, m2) = (eqL x.1 (bitsL m1) && eqL x.2 (bitsL m2))) := rfl
  clear h hT0 h1 h2
  generalize sameB x (m1, m2) = t at HE ⊢
  generalize x.1 = l1 at *
  generalize x.2 = l2 at *
  generalize bitsL m1 = r1 at *
  generalize bitsL m2 = r2 at *
  obtain ⟨t1, et1⟩ : ∃ t1, eqL l1 r1 = t1 := ⟨_, rfl⟩
  have HE1 := Lib.hid et1
  obtain ⟨W0, hW0⟩ : ∃ W0, W0 = (w.alloc (.cells #[.slice a n c, .slice b m d] 34)).alloc (.cells #[.int .u64 (m1 : Nat), .int .u64 (m2 : Nat)] 28) := ⟨_, rfl⟩
  have hT : Hid (∀ w', Below (w.heap.size + 2) W0 w' → w'.cell? ⟨w.heap.size, 0, none⟩ = some (.slice a n c) ∧ w'.cell? ⟨w.heap.size, 1, none⟩ = some (.slice b m d) ∧ w'.cell? ⟨w.heap.size + 1, 0, none⟩ = some (.int .u64 (m1 : Nat)) ∧ w'.cell? ⟨w.heap.size + 1, 1, none⟩ = some (.int .u64 (m2 : Nat)) ∧ w.heap.size + 2 ≤ w'.heap.size ∧ Below w.heap.size w w') := fun w' hb => by
    rw [hW0] at hb
    exact boxCC hb
  have k0 : Hid (Below (w.heap.size + 2) W0 W0.drew) := (Below.refl _ _).drew
  obtain ⟨q0, q1, q2, q3, -, hB⟩ := hT.out _ k0.out
  have tk0 : Hid True := trivial
  cases t1
  · go_enter Tryz.func78, Tryz.ntmps78
    go_wp2_with fail
    rw [← hW0]
    clear hW0
    refine wp_region_noPanic ?_
    refine region_ord (S := fun w' => w'.cell? ⟨w.heap.size, 0, none⟩ = some (.slice a n c) ∧ w'.cell? ⟨w.heap.size, 1, none⟩ = some (.slice b m d) ∧ w'.cell? ⟨w.heap.size + 1, 0, none⟩ = some (.int .u64 (m1 : Nat)) ∧ w'.cell? ⟨w.heap.size + 1, 1, none⟩ = some (.int .u64 (m2 : Nat))) [0, 1, 3, 4, 2, 5, 6, 7, 8, 9, 11, 12, 10, 13, 14, 15, 16] (by kernel_rfl) (by decide +kernel) (fun _ _ _ _ _ h => h) (⟨q0, q1, q2, q3⟩) (fun _ => ?_)
    repeat (first
      | (refine ord_skip rfl rfl rfl ?_; (try simp only [Act.put, List.setIfInBounds_toArray, List.set_cons_zero, List.set_cons_succ]))
      | (refine' ord_light (v := _) rfl rfl rfl (fun w' hSw => ?_) ?_; rotate_left; (focus ((try dsimp only at hSw); go_simp <;> (with_reducible rfl))); (try simp only [Act.put, List.setIfInBounds_toArray, List.set_cons_zero, List.set_cons_succ]))
      | (refine ord_heavy rfl rfl (fun K hK => ?_); go_simp; (go_at_call 47; clear tk0; have tk1 : Hid True := trivial; (with_reducible refine (HL1.out _ hB).mono ?_); rintro e w1 ⟨b1, n1, c1, rfl, hi1, hb⟩; clear q0 q1 q2 q3 hB; have k1 := Lib.hid (k0.out.trans (hb.mono (hT.out _ k0.out).2.2.2.2.1)); obtain ⟨q0, q1, q2, q3, -, hB⟩ := hT.out _ k1.out; clear hb); (try go_wp2_with fail); refine hK.out _ _ (⟨q0, q1, q2, q3⟩) ?_; clear hK K; (try simp only [Act.put, List.setIfInBounds_toArray, List.set_cons_zero, List.set_cons_succ]))
      | (refine ord_heavy rfl rfl (fun K hK => ?_); go_simp; (go_at_call 48; clear tk1; have tk2 : Hid True := trivial; (with_reducible refine (HM1.out _).mono ?_); rintro e w2 ⟨b2, n2, c2, rfl, hi2, hb⟩; have hi1 := hi1.below hb; clear q0 q1 q2 q3 hB; have k2 := Lib.hid (k1.out.trans (hb.mono (hT.out _ k1.out).2.2.2.2.1)); obtain ⟨q0, q1, q2, q3, -, hB⟩ := hT.out _ k2.out; clear hb); (try go_wp2_with fail); refine hK.out _ _ (⟨q0, q1, q2, q3⟩) ?_; clear hK K; (try simp only [Act.put, List.setIfInBounds_toArray, List.set_cons_zero, List.set_cons_succ]))
      | (refine ord_heavy rfl rfl (fun K hK => ?_); go_simp; (go_at_call 45; clear tk2; have tk3 : Hid True := trivial; (with_reducible refine (equal_c2 _ _ _ _ _ _ _ _ _ hi1 hi2).mono ?_); rintro e w3 ⟨rfl, hb⟩; rw [HE1.out]; clear q0 q1 q2 q3 hB; have k3 := Lib.hid (k2.out.trans (hb.mono (hT.out _ k2.out).2.2.2.2.1)); obtain ⟨q0, q1, q2, q3, -, hB⟩ := hT.out _ k3.out; clear hb hi1 hi2); (try go_wp2_with fail); refine hK.out _ _ (⟨q0, q1, q2, q3⟩) ?_; clear hK K; (try simp only [Act.put, List.setIfInBounds_toArray, List.set_cons_zero, List.set_cons_succ]))
      | (refine ord_heavy rfl rfl (fun K hK => ?_); go_simp; (try go_wp2_with fail); refine hK.out _ _ (⟨q0, q1, q2, q3⟩) ?_; clear hK K; (try simp only [Act.put, List.setIfInBounds_toArray, List.set_cons_zero, List.set_cons_succ])))
    refine ord_nil (NoPanic.normal ?_)
    go_wp2_with fail
    go_ret
    exact ⟨ret_bool (by rw [HE.out, HE1.out]; rfl), hB⟩
  · go_enter Tryz.func78, Tryz.ntmps78
    go_wp2_with fail
    rw [← hW0]
    clear hW0
    refine wp_region_noPanic ?_
    refine region_ord (S := fun w' => w'.cell? ⟨w.heap.size, 0, none⟩ = some (.slice a n c) ∧ w'.cell? ⟨w.heap.size, 1, none⟩ = some (.slice b m d) ∧ w'.cell? ⟨w.heap.size + 1, 0, none⟩ = some (.int .u64 (m1 : Nat)) ∧ w'.cell? ⟨w.heap.size + 1, 1, none⟩ = some (.int .u64 (m2 : Nat))) [0, 1, 3, 4, 2, 5, 6, 7, 8, 9, 11, 12, 10, 13, 14, 15, 16] (by kernel_rfl) (by decide +kernel) (fun _ _ _ _ _ h => h) (⟨q0, q1, q2, q3⟩) (fun _ => ?_)
    repeat (first
      | (refine ord_skip rfl rfl rfl ?_; (try simp only [Act.put, List.setIfInBounds_toArray, List.set_cons_zero, List.set_cons_succ]))
      | (refine' ord_light (v := _) rfl rfl rfl (fun w' hSw => ?_) ?_; rotate_left; (focus ((try dsimp only at hSw); go_simp <;> (with_reducible rfl))); (try simp only [Act.put, List.setIfInBounds_toArray, List.set_cons_zero, List.set_cons_succ]))
      | (refine ord_heavy rfl rfl (fun K hK => ?_); go_simp; (go_at_call 47; clear tk0; have tk1 : Hid True := trivial; (with_reducible refine (HL1.out _ hB).mono ?_); rintro e w1 ⟨b1, n1, c1, rfl, hi1, hb⟩; clear q0 q1 q2 q3 hB; have k1 := Lib.hid (k0.out.trans (hb.mono (hT.out _ k0.out).2.2.2.2.1)); obtain ⟨q0, q1, q2, q3, -, hB⟩ := hT.out _ k1.out; clear hb); (try go_wp2_with fail); refine hK.out _ _ (⟨q0, q1, q2, q3⟩) ?_; clear hK K; (try simp only [Act.put, List.setIfInBounds_toArray, List.set_cons_zero, List.set_cons_succ]))
      | (refine ord_heavy rfl rfl (fun K hK => ?_); go_simp; (go_at_call 48; clear tk1; have tk2 : Hid True := trivial; (with_reducible refine (HM1.out _).mono ?_); rintro e w2 ⟨b2, n2, c2, rfl, hi2, hb⟩; have hi1 := hi1.below hb; clear q0 q1 q2 q3 hB; have k2 := Lib.hid (k1.out.trans (hb.mono (hT.out _ k1.out).2.2.2.2.1)); obtain ⟨q0, q1, q2, q3, -, hB⟩ := hT.out _ k2.out; clear hb); (try go_wp2_with fail); refine hK.out _ _ (⟨q0, q1, q2, q3⟩) ?_; clear hK K; (try simp only [Act.put, List.setIfInBounds_toArray, List.set_cons_zero, List.set_cons_succ]))
      | (refine ord_heavy rfl rfl (fun K hK => ?_); go_simp; (go_at_call 45; clear tk2; have tk3 : Hid True := trivial; (with_reducible refine (equal_c2 _ _ _ _ _ _ _ _ _ hi1 hi2).mono ?_); rintro e w3 ⟨rfl, hb⟩; rw [HE1.out]; clear q0 q1 q2 q3 hB; have k3 := Lib.hid (k2.out.trans (hb.mono (hT.out _ k2.out).2.2.2.2.1)); obtain ⟨q0, q1, q2, q3, -, hB⟩ := hT.out _ k3.out; clear hb hi1 hi2); (try go_wp2_with fail); refine hK.out _ _ (⟨q0, q1, q2, q3⟩) ?_; clear hK K; (try simp only [Act.put, List.setIfInBounds_toArray, List.set_cons_zero, List.set_cons_succ]))
      | (refine ord_heavy rfl rfl (fun K hK => ?_); go_simp; (go_at_call 47; clear tk3; have tk4 : Hid True := trivial; (with_reducible refine (HL2.out _ hB).mono ?_); rintro e w4 ⟨b4, n4, c4, rfl, hi4, hb⟩; clear q0 q1 q2 q3 hB; have k4 := Lib.hid (k3.out.trans (hb.mono (hT.out _ k3.out).2.2.2.2.1)); obtain ⟨q0, q1, q2, q3, -, hB⟩ := hT.out _ k4.out; clear hb); (try go_wp2_with fail); refine hK.out _ _ (⟨q0, q1, q2, q3⟩) ?_; clear hK K; (try simp only [Act.put, List.setIfInBounds_toArray, List.set_cons_zero, List.set_cons_succ]))
      | (refine ord_heavy rfl rfl (fun K hK => ?_); go_simp; (go_at_call 48; clear tk4; have tk5 : Hid True := trivial; (with_reducible refine (HM2.out _).mono ?_); rintro e w5 ⟨b5, n5, c5, rfl, hi5, hb⟩; have hi4 := hi4.below hb; clear q0 q1 q2 q3 hB; have k5 := Lib.hid (k4.out.trans (hb.mono (hT.out _ k4.out).2.2.2.2.1)); obtain ⟨q0, q1, q2, q3, -, hB⟩ := hT.out _ k5.out; clear hb); (try go_wp2_with fail); refine hK.out _ _ (⟨q0, q1, q2, q3⟩) ?_; clear hK K; (try simp only [Act.put, List.setIfInBounds_toArray, List.set_cons_zero, List.set_cons_succ]))
      | (refine ord_heavy rfl rfl (fun K hK => ?_); go_simp; (go_at_call 45; clear tk5; have tk6 : Hid True := trivial; (with_reducible refine (equal_c2 _ _ _ _ _ _ _ _ _ hi4 hi5).mono ?_); rintro e w6 ⟨rfl, hb⟩; clear q0 q1 q2 q3 hB; have k6 := Lib.hid (k5.out.trans (hb.mono (hT.out _ k5.out).2.2.2.2.1)); obtain ⟨q0, q1, q2, q3, -, hB⟩ := hT.out _ k6.out; clear hb hi4 hi5); (try go_wp2_with fail); refine hK.out _ _ (⟨q0, q1, q2, q3⟩) ?_; clear hK K; (try simp only [Act.put, List.setIfInBounds_toArray, List.set_cons_zero, List.set_cons_succ]))
      | (refine ord_heavy rfl rfl (fun K hK => ?_); go_simp; (try go_wp2_with fail); refine hK.out _ _ (⟨q0, q1, q2, q3⟩) ?_; clear hK K; (try simp only [Act.put, List.setIfInBounds_toArray, List.set_cons_zero, List.set_cons_succ])))
    refine ord_nil (NoPanic.normal ?_)
    go_wp2_with fail
    go_ret
    exact ⟨ret_bool (by rw [HE.out, HE1.out]; rfl), hB⟩
end Go.Proofs.YtadomogbakcokaaGreatDoor
end

section
/- Contracts: slices.EqualFunc of cubes; the law's Same. -/
namespace Go.Proofs.YtadomogbakcokaaGreatDoor
open Go.RowKit Go.PlainAid
set_option linter.unusedVariables false
set_option linter.unusedSimpArgs false
set_option maxHeartbeats 4000000

def sameL (l : List Cu) (r : List Mc) : Bool := decide (l = r.map cuM)
theorem sameL_len {l : List Cu} {r : List Mc} (h : l.length ≠ r.length) : sameL l r = false := by
  unfold sameL
  rw [decide_eq_false_iff_not]
  intro e
  apply h
  rw [e, List.length_map]
theorem sameL_at {l : List Cu} {r : List Mc} {j : Nat} {x : Cu} {y : Mc} (hx : l[j]? = some x) (hy : r[j]? = some y) (h : sameB x y = false) : sameL l r = false := by
  unfold sameL
  rw [decide_eq_false_iff_not]
  intro e
  rw [e, List.getElem?_map, hy] at hx
  have : x = cuM y := (Option.some.inj hx).symm
  rw [sameB_iff.2 this] at h
  cases h
theorem sameL_all {l : List Cu} {r : List Mc} (hl : l.length = r.length) (h : ∀ (j : Nat) x y, l[j]? = some x → r[j]? = some y → sameB x y = true) : sameL l r = true := by
  unfold sameL
  rw [decide_eq_true_iff]
  apply List.ext_getElem
  · rw [List.length_map, hl]
  · intro j h1 h2
    rw [List.getElem_map]
    exact sameB_iff.1 (h j _ _ (List.getElem?_eq_getElem h1) (List.getElem?_eq_getElem (by omega)))
set_option maxRecDepth 20000 in
theorem equalFunc_any (a b : Option Addr) (n cap m dap : Nat) (l : List Cu) (r : List Mc) (w : World) (h : Cs w a n cap l) (k : Ms w b m dap r) (hT : Tz w) :
    Calls Tryz.prog 77 #[.slice a n cap, .slice b m dap, .func (.func 78) #[] #[]] w (BoolPost w (sameL l r)) := by
  have HL := Lib.hid h.len
  have HC := Lib.hid h
  have HK := Lib.hid k.len
  have HD := Lib.hid k
  have HT := Lib.hid hT
  obtain ⟨hnc, hcm⟩ := h.caps
  obtain ⟨hmc, hdm⟩ := k.caps
  clear h k hT
  by_cases hnm : n = m
  · subst hnm
    go_enter Tryz.func77, Tryz.ntmps77
    go_wp2_with fail
    go_loopw [17] (fun v wr => ∃ j : Nat, j ≤ n ∧ v = .int .i64 j ∧ Hid (∀ (i : Nat) x y, i < j → l[i]? = some x → r[i]? = some y → sameB x y = true) ∧ Hid (Below w.heap.size w wr)) (fun v _ => n - (intOf v).toNat)
    case atStart => exact ⟨0, Nat.zero_le _, rfl, fun i x y hi => by omega, Below.refl _ _⟩
    case round =>
      obtain ⟨j, hj, rfl, hpre, hB⟩ := hrel
      have hzr := hB.out.size
      by_cases hjn : j < n
      · obtain ⟨x, hx⟩ : ∃ x, l[j]? = some x := ⟨_, List.getElem?_eq_getElem (by rw [HL.out]; exact hjn)⟩
        obtain ⟨y, hy⟩ : ∃ y, r[j]? = some y := ⟨_, List.getElem?_eq_getElem (by rw [HK.out]; exact hjn)⟩
        obtain ⟨bb, oo, a', n', c', b', m', d', rfl, hbl, x0, x1, hcb⟩ := (HC.out.below hB.out).at hx
        obtain ⟨bd, od, rfl, hbd, y0, y1, hyo⟩ := (HD.out.below hB.out).at hy
        have hcall := Lib.hid (fun w' (hb : Below wr.heap.size wr w') => same1_any a' b' n' c' m' d' x y hyo w' (hcb.below hb) (HT.out.below (hB.out.trans (hb.mono hzr))))
        have hj0 : (0 : Int) ≤ (j : Int) := Int.natCast_nonneg _
        have hj1 : (j : Int) < (n : Int) := by omega
        have HX := Lib.hid hx
        have HY := Lib.hid hy
        have HN : Hid (sameB x y = true → ∀ (i : Nat) x y, i < j + 1 → l[i]? = some x → r[i]? = some y → sameB x y = true) := fun ht i u v hi hu hv => by
          by_cases hij : i < j
          · exact hpre.out i u v hij hu hv
          · obtain rfl : i = j := by omega
            rw [HX.out] at hu
            rw [HY.out] at hv
            cases hu; cases hv; exact ht
        have HF : Hid (sameB x y = false → sameL l r = false) := fun hf => sameL_at HX.out HY.out hf
        obtain ⟨m1, m2⟩ := y
        dsimp only at y0 y1 hcall
        have hbb : Hid (Below wr.heap.size wr ((wr.alloc (.cells #[.slice a' n' c', .slice b' m' d'] 34)).alloc (.cells #[.int .u64 (m1 : Nat), .int .u64 (m2 : Nat)] 28))) := ((Below.refl _ wr).alloc (Nat.le_refl _) _).alloc (by simp) _
        clear hx hy hyo hcb
        generalize sameB x (m1, m2) = t at hcall HN HF
        cases t
        · have h4 := Lib.hid (HF.out rfl)
          clear HF HN
          go_wp2_with (go_at_call 78; refine (hcall.out _ hbb.out).mono ?_; rintro e w1 ⟨rfl, hb1⟩; have HB1 := Lib.hid (hbb.out.trans (hb1.mono hbb.out.size)); clear hb1)
          go_ret
          exact ⟨ret_bool h4.out.symm, hB.out.trans (HB1.out.mono hzr)⟩
        · have h4 := Lib.hid (HN.out rfl)
          clear HF HN
          go_wp2_with (go_at_call 78; refine (hcall.out _ hbb.out).mono ?_; rintro e w1 ⟨rfl, hb1⟩; have HB1 := Lib.hid (hbb.out.trans (hb1.mono hbb.out.size)); clear hb1)
          go_roundw
          case rel => exact ⟨j + 1, by omega, by go_num, h4.out, hB.out.trans (HB1.out.mono hzr)⟩
          case measure => simp [intOf]; omega
      · have hjn' : j = n := by omega
        have HE := Lib.hid (sameL_all (l := l) (r := r) (by rw [HL.out, HK.out]) (fun i x y hx hy => hpre.out i x y (by have := (List.getElem?_eq_some_iff.1 hx).1; rw [HL.out] at this; omega) hx hy))
        go_wp2_with fail
        go_ret
        exact ⟨ret_bool HE.out.symm, hB.out⟩
  · have HE := Lib.hid (sameL_len (l := l) (r := r) (by rw [HL.out, HK.out]; exact hnm))
    have hb : ((n : Int) != (m : Int)) = true := by rw [bne_iff_ne]; omega
    clear hnm
    go_enter Tryz.func77, Tryz.ntmps77
    go_wp2_with fail
    go_ret
    exact ⟨ret_bool HE.out.symm, Below.refl _ _⟩
theorem same_any (a b : Option Addr) (n cap m dap : Nat) (l : List Cu) (r : List Mc) (w : World) (h : Cs w a n cap l) (k : Ms w b m dap r) (hT : Tz w) :
    Calls Tryz.prog 39 #[.slice a n cap, .slice b m dap] w (BoolPost w (sameL l r)) := by
  have H := Lib.hid (equalFunc_any a b n cap m dap l r w h k hT)
  generalize sameL l r = t at H ⊢
  clear h k hT
  go_enter Tryz.func39, Tryz.ntmps39
  go_wp2_with (go_at_call 77; refine H.out.mono ?_; rintro e w1 ⟨rfl, hb1⟩)
  go_ret
  exact ⟨rfl, hb1⟩
end Go.Proofs.YtadomogbakcokaaGreatDoor
end
