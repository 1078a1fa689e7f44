/- The walk of CubeParts. -/
import Derived.Test.YtadomogbakcokaaGreatDoorCvP
namespace Go.Proofs.YtadomogbakcokaaGreatDoor
open Go.RowKit Go.PlainAid
set_option linter.unusedVariables false
set_option linter.unusedSimpArgs false
set_option maxHeartbeats 4000000
set_option maxRecDepth 20000

theorem cnt_take {l : List Cu} {j : Nat} {x : Cu} (S : Nat → Bool) (hx : l[j]? = some x) : cnt (l.take (j + 1)) S = cnt (l.take j) S + (if sat x S then 1 else 0) := by
  rw [take_snocV hx, cnt_append, cnt_cons, cnt_nil, Nat.add_zero]
theorem cnt_le (l : List Cu) (S : Nat → Bool) : cnt l S ≤ l.length := List.length_filter_le _ _
theorem cubeParts_walk (r : Rx) (a : Option Addr) (n cap : Nat) (l : List Rx) (o : Int) (w : World) (hW : Wld w) (hr : RxOk r) (h : Rs w a n cap l) (ho : (Lit.int .u64 o).wf = true) :
    Calls Tryz.prog 9 #[.agg #[.int .u8 (r.1 : Nat), .int .u8 (r.2.1 : Nat), .bool r.2.2], .slice a n cap, .int .u64 o] w fun e w' => e = .returned (.bool true) ∧ Below w.heap.size w w' := by
  obtain ⟨s, rfl, hsl⟩ := u64_of ho
  obtain ⟨r1, r2, r3⟩ := r
  have HW := Lib.hid hW
  have HR := Lib.hid h
  have HRX := Lib.hid hr
  obtain ⟨L, eL⟩ : ∃ L, listM l = L := ⟨_, rfl⟩
  have EL := Lib.hid eL
  have H8 : Hid (∀ c ∈ L, Mc8 c) := by rw [← eL]; exact listM_ok l
  have hLn : L.length ≤ 1000000 := by rw [← eL]; exact Nat.le_trans (listM_len l) (by omega)
  obtain ⟨C, eC⟩ : ∃ C, L.map cuM = C := ⟨_, rfl⟩
  have EC := Lib.hid eC
  have hc8 := fitM_ok (r1, r2, r3)
  obtain ⟨⟨m1, m2⟩, em⟩ : ∃ m, fitM (r1, r2, r3) = m := ⟨_, rfl⟩
  rw [em] at hc8
  have EF := Lib.hid em
  have HC8 := Lib.hid hc8
  have HC := Lib.hid hc8.ok
  obtain ⟨X, eX⟩ : ∃ X, cuM (m1, m2) = X := ⟨_, rfl⟩
  have EX := Lib.hid eX
  obtain ⟨ss, ess⟩ : ∃ ss, bitsL s = ss := ⟨_, rfl⟩
  have EB := Lib.hid ess
  have hXo : CuOk X := by rw [← eX]; exact cuM_ok _
  have hCo : ∀ x ∈ C, CuOk x := by rw [← eC]; exact map_ok
  have HXO := Lib.hid hXo
  have HCO := Lib.hid hCo
  dsimp only
  cases hs : splitC X C with
  | none =>
    have ES := Lib.hid hs
    clear hW h hr eL eC em hc8 eX hs hXo hCo ess ho
    go_enter Tryz.func9, Tryz.ntmps9
    go_wp2_with (first
      | (go_at_call 15; (with_reducible refine (awake_any _ (HW.out.below (bel1 (Below.refl _ _)))).mono ?_); rintro e w0 ⟨rfl, hB⟩; obtain ⟨q0, q1, q2, -⟩ := boxR hB)
      | (go_at_call 26; (with_reducible refine (rfit_c _ _ _ _ _ _ HRX.out EF).mono ?_); rintro e w1 ⟨rfl, hb⟩; have hB := hB.trans (hb.mono hB.size); clear hb q0 q1 q2)
      | (go_at_call 18; (with_reducible refine (lawmake_c _ _ _ _ HC.out EX).mono ?_); rintro e w3 ⟨a3, n3, c3, b3, m3, d3, rfl, hc, hb⟩; have hB := hB.trans (hb.mono hB.size); clear hb)
      | (go_at_call 16; (with_reducible refine (rlist_c _ _ _ _ _ _ (HR.out.below (bel1 hB)) EL).mono ?_); rintro e w2 ⟨a1, n1, c1, rfl, hm, hb⟩; have hB := hB.trans (hb.mono hB.size); have hc := hc.below hb; clear hb)
      | (go_at_call 24; (with_reducible refine (makeAll_c _ _ _ _ _ _ hm hLn EC).mono ?_); rintro e w4 ⟨a4, n4, c4, rfl, hs, hb⟩; have hB := hB.trans (hb.mono hB.size); have hc := hc.below hb; clear hb hm; have hbx := (Below.refl w4.heap.size w4).alloc (Nat.le_refl _) (.cells #[.slice a3 n3 c3, .slice b3 m3 d3] 34); have hA := At2.new w4 (.slice a3 n3 c3) (.slice b3 m3 d3) 34; have hc := hc.below hbx; have hs := hs.below hbx; have hB := hB.trans (hbx.mono hB.size); clear hbx)
      | (go_at_call 42; (with_reducible refine (split_none _ _ _ _ _ _ _ _ _ _ _ _ hc hs (HW.out.below (bel1 hB)).tz ES).mono ?_); rintro e w5 ⟨rfl, hb⟩; have hB := hB.trans (hb.mono hB.size); clear hb))
    go_ret
    exact ⟨rfl, bel1 hB⟩
  | some got =>
    have ES := Lib.hid hs
    obtain ⟨S, eS⟩ : ∃ S : Nat → Bool, (fun x => decide (x ∈ ss)) = S := ⟨_, rfl⟩
    have hlaw := split_law hXo hCo hs
    have HL1 := Lib.hid hlaw.1
    have HL2 := Lib.hid (hlaw.2 S)
    have HSH : Hid (∀ y, holdsC y ss = sat y S) := fun y => by rw [← eS]; exact sat_holds y ss
    have HSO : Hid (someC C ss = sats C S) := by rw [← eS]; exact some_sats C ss
    obtain ⟨p, ep⟩ : ∃ p, sat X S = p := ⟨_, rfl⟩
    obtain ⟨q, eq⟩ : ∃ q, sats C S = q := ⟨_, rfl⟩
    have HP : Hid (holdsC X ss = p) := (HSH.out X).trans ep
    have HQ : Hid (someC C ss = q) := HSO.out.trans eq
    have HCN : Hid (cnt got S = if p && !q then 1 else 0) := by show _ = _; rw [HL2.out, ep, eq]
    clear hW h hr eL eC em hc8 eX hs hXo hCo ess ho hlaw eS ep eq HL2
    go_enter Tryz.func9, Tryz.ntmps9
    go_wp2_with (first
      | (go_at_call 15; (with_reducible refine (awake_any _ (HW.out.below (bel1 (Below.refl _ _)))).mono ?_); rintro e w0 ⟨rfl, hB⟩; obtain ⟨q0, q1, q2, -⟩ := boxR hB)
      | (go_at_call 26; (with_reducible refine (rfit_c _ _ _ _ _ _ HRX.out EF).mono ?_); rintro e w1 ⟨rfl, hb⟩; have hB := hB.trans (hb.mono hB.size); clear hb q0 q1 q2)
      | (go_at_call 18; (with_reducible refine (lawmake_c _ _ _ _ HC.out EX).mono ?_); rintro e w3 ⟨a3, n3, c3, b3, m3, d3, rfl, hc, hb⟩; have hB := hB.trans (hb.mono hB.size); clear hb)
      | (go_at_call 16; (with_reducible refine (rlist_c _ _ _ _ _ _ (HR.out.below (bel1 hB)) EL).mono ?_); rintro e w2 ⟨a1, n1, c1, rfl, hm, hb⟩; have hB := hB.trans (hb.mono hB.size); have hc := hc.below hb; clear hb)
      | (go_at_call 24; (with_reducible refine (makeAll_c _ _ _ _ _ _ hm hLn EC).mono ?_); rintro e w4 ⟨a4, n4, c4, rfl, hs, hb⟩; have hB := hB.trans (hb.mono hB.size); have hc := hc.below hb; clear hb hm; have hbx := (Below.refl w4.heap.size w4).alloc (Nat.le_refl _) (.cells #[.slice a3 n3 c3, .slice b3 m3 d3] 34); have hA := At2.new w4 (.slice a3 n3 c3) (.slice b3 m3 d3) 34; have hc := hc.below hbx; have hs := hs.below hbx; have hB := hB.trans (hbx.mono hB.size); clear hbx)
      | (go_at_call 42; (with_reducible refine (split_some _ _ _ _ _ _ _ _ _ _ _ _ _ hc hs (HW.out.below (bel1 hB)).tz ES).mono ?_); rintro e w5 ⟨a5, n5, c5, rfl, hg, hb⟩; have hB := hB.trans (hb.mono hB.size); have hA := hA.below hb; have hc := hc.below hb; have hs := hs.below hb; clear hb)
      | (go_at_call 19; (with_reducible refine (lawset_c _ _ _ hsl EB).mono ?_); rintro e w6 ⟨a6, n6, c6, rfl, ht, hb⟩; have hB := hB.trans (hb.mono hB.size); have hA := hA.below hb; have hc := hc.below hb; have hs := hs.below hb; have hg := hg.below hb; clear hb; have hbx := (Below.refl w6.heap.size w6).alloc (Nat.le_refl _) (.cells #[.slice a6 n6 c6] 32); have hT := At1.new w6 (.slice a6 n6 c6) 32; have hA := hA.below hbx; have hc := hc.below hbx; have hs := hs.below hbx; have hg := hg.below hbx; have ht := ht.below hbx; have hB := hB.trans (hbx.mono hB.size); clear hbx))
    obtain ⟨W8, hW8⟩ : ∃ W8, W8 = w6.alloc (.cells #[.slice a6 n6 c6] 32) := ⟨_, rfl⟩
    rw [← hW8] at hA hc hs hg ht hB hT ⊢
    clear hW8
    have HA := Lib.hid hA
    have HCB := Lib.hid hc
    have HS := Lib.hid hs
    have HG := Lib.hid hg
    have HGL := Lib.hid hg.len
    obtain ⟨hgc, hgm⟩ := hg.caps
    have HT := Lib.hid ht
    have HTT := Lib.hid hT
    have HB8 := Lib.hid (bel1 hB)
    clear hA hc hs hg ht hB hT
    go_loopw [12, 38] (fun v12 v wr => ∃ (j k : Nat), j ≤ n5 ∧ v = .int .i64 j ∧ v12 = .int .i64 (k : Nat) ∧ k ≤ j ∧ Hid (k = cnt (got.take j) S) ∧ Hid (Below W8.heap.size W8 wr)) (fun _ v _ => n5 - (intOf v).toNat)
    case atStart => exact ⟨0, 0, Nat.zero_le _, rfl, rfl, by omega, rfl, Below.refl _ _⟩
    case round =>
      obtain ⟨j, k, hj, rfl, rfl, hkj, hk, hB⟩ := hrel
      have hzr := hB.out.size
      have hA := HA.out.below hB.out
      have hT := HTT.out.below hB.out
      have u0 := hA.1
      have u1 := hA.2.1
      have u2 := hT.1
      by_cases hjn : j < n5
      · obtain ⟨y, hy⟩ : ∃ y, got[j]? = some y := ⟨_, List.getElem?_eq_getElem (by rw [HGL.out]; exact hjn)⟩
        obtain ⟨bb, oo, ya, yn, yc, yb, ym, yd, rfl, hbl, x0, x1, hcy⟩ := (HG.out.below hB.out).at hy
        have hyl := HL1.out y (List.mem_of_getElem? hy)
        have HE : Hid (emptyC y = false) := hyl.2.1
        have HWI : Hid (withinC y X = true) := hyl.2.2.within
        have HK1 := Lib.hid (cnt_take S hy)
        obtain ⟨t, et⟩ : ∃ t, sat y S = t := ⟨_, rfl⟩
        have HH : Hid (holdsC y ss = t) := (HSH.out y).trans et
        have HK2 : Hid (cnt (got.take (j + 1)) S = k + (if t then 1 else 0)) := by show _ = _; rw [HK1.out, ← hk.out, et]
        have hj0 : (0 : Int) ≤ (j : Int) := Int.natCast_nonneg _
        have hj1 : (j : Int) < (n5 : Int) := by omega
        have HCY := Lib.hid hcy
        have hk0 : (0 : Int) ≤ (k : Int) := Int.natCast_nonneg _
        have hbx := Lib.hid ((Below.refl wr.heap.size wr).alloc (Nat.le_refl _) (.cells #[.slice ya yn yc, .slice yb ym yd] 34))
        have hAy := At2.new wr (.slice ya yn yc) (.slice yb ym yd) 34
        have hA := hA.below hbx.out
        have hT := hT.below hbx.out
        have hBw := hB.out.trans (hbx.out.mono hzr)
        clear hy hcy hyl HK1 et hk u0 u1 u2
        have hcur := hbx.out
        cases t
        · skip
          go_wp2_with (first
            | (go_at_call 21; (with_reducible refine (empty_t _ _ _ _ _ _ _ _ _ (HCY.out.below hcur) HE).mono ?_); rintro e w7 ⟨rfl, hb⟩; have hcur := step_call hcur hb; have hAy := hAy.below hb; have hA := hA.below hb; have hT := hT.below hb; clear hb; have y0 := hAy.1; have y1 := hAy.2.1; have u0 := hA.1; have u1 := hA.2.1; have u2 := hT.1)
            | (go_at_call 37; (with_reducible refine (within_t _ _ _ _ _ _ _ _ _ _ _ _ _ _ _ _ (HCY.out.below hcur) (HCB.out.below (step_call hB.out hcur)) HWI).mono ?_); rintro e w8 ⟨rfl, hb⟩; have hcur := step_call hcur hb; have hAy := hAy.below hb; have hA := hA.below hb; have hT := hT.below hb; clear hb y0 y1 u0 u1 u2; have y0 := hAy.1; have y1 := hAy.2.1; have u0 := hA.1; have u1 := hA.2.1; have u2 := hT.1)
            | (go_at_call 17; (with_reducible refine (holds_t _ _ _ _ _ _ _ _ _ _ _ _ _ (HCY.out.below hcur) (HT.out.below (step_call hB.out hcur)) HH).mono ?_); rintro e w9 ⟨rfl, hb⟩; have hcur := step_call hcur hb; clear hb y0 y1 u0 u1 u2))
          go_roundw
          case rel => exact ⟨j + 1, k, by omega, by go_num, rfl, by omega, HK2.out.symm, step_call hB.out hcur⟩
          case measure => simp [intOf]; omega
        · skip
          go_wp2_with (first
            | (go_at_call 21; (with_reducible refine (empty_t _ _ _ _ _ _ _ _ _ (HCY.out.below hcur) HE).mono ?_); rintro e w7 ⟨rfl, hb⟩; have hcur := step_call hcur hb; have hAy := hAy.below hb; have hA := hA.below hb; have hT := hT.below hb; clear hb; have y0 := hAy.1; have y1 := hAy.2.1; have u0 := hA.1; have u1 := hA.2.1; have u2 := hT.1)
            | (go_at_call 37; (with_reducible refine (within_t _ _ _ _ _ _ _ _ _ _ _ _ _ _ _ _ (HCY.out.below hcur) (HCB.out.below (step_call hB.out hcur)) HWI).mono ?_); rintro e w8 ⟨rfl, hb⟩; have hcur := step_call hcur hb; have hAy := hAy.below hb; have hA := hA.below hb; have hT := hT.below hb; clear hb y0 y1 u0 u1 u2; have y0 := hAy.1; have y1 := hAy.2.1; have u0 := hA.1; have u1 := hA.2.1; have u2 := hT.1)
            | (go_at_call 17; (with_reducible refine (holds_t _ _ _ _ _ _ _ _ _ _ _ _ _ (HCY.out.below hcur) (HT.out.below (step_call hB.out hcur)) HH).mono ?_); rintro e w9 ⟨rfl, hb⟩; have hcur := step_call hcur hb; clear hb y0 y1 u0 u1 u2))
          go_roundw
          case rel => exact ⟨j + 1, k + 1, by omega, by go_num, by go_num, by omega, HK2.out.symm, step_call hB.out hcur⟩
          case measure => simp [intOf]; omega
      · have hje : j = n5 := by omega
        have HK : Hid (k = if p && !q then 1 else 0) := by show _ = _; rw [← HCN.out, hk.out, List.take_of_length_le (by rw [HGL.out]; omega)]
        have hB9 := step_call HB8.out hB.out
        have hcur := hB.out
        clear hk
        cases p
        · obtain rfl : k = 0 := HK.out
          go_wp2_with (go_at_call 17; (with_reducible refine (holds_t _ _ _ _ _ _ _ _ _ _ _ _ _ (HCB.out.below hcur) (HT.out.below hcur) HP).mono ?_); rintro e w9 ⟨rfl, hb⟩; have hB9 := step_call hB9 hb; clear hb)
          go_ret
          exact ⟨rfl, hB9⟩
        · cases q
          all_goals
            first | obtain rfl : k = 1 := HK.out | obtain rfl : k = 0 := HK.out
            go_wp2_with (first
              | (go_at_call 17; (with_reducible refine (holds_t _ _ _ _ _ _ _ _ _ _ _ _ _ (HCB.out.below hcur) (HT.out.below hcur) HP).mono ?_); rintro e w9 ⟨rfl, hb⟩; have hB9 := step_call hB9 hb; have hcur := step_call hcur hb; have hT := hT.below hb; clear hb u0 u1 u2; have u2 := hT.1)
              | (go_at_call 23; (with_reducible refine (some_t _ _ _ _ _ _ _ _ _ _ (HS.out.below hcur) (HT.out.below hcur) HQ).mono ?_); rintro e w10 ⟨rfl, hb⟩; have hB9 := step_call hB9 hb; clear hb))
            go_ret
            exact ⟨rfl, hB9⟩
end Go.Proofs.YtadomogbakcokaaGreatDoor
