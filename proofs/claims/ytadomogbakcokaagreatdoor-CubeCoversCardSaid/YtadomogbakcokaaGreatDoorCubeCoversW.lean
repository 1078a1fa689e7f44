/- The walk of CubeCovers. -/
import Derived.Test.YtadomogbakcokaaGreatDoorCvP
namespace Go.Proofs.YtadomogbakcokaaGreatDoor
open Go.RowKit Go.PlainAid
set_option linter.unusedVariables false
set_option linter.unusedSimpArgs false
set_option maxHeartbeats 4000000
set_option maxRecDepth 20000

theorem cubeCovers_walk (r : Rx) (a : Option Addr) (n cap : Nat) (l : List Rx) (w : World) (hW : Wld w) (hr : RxOk r) (h : Rs w a n cap l) :
    Calls Tryz.prog 12 #[.agg #[.int .u8 (r.1 : Nat), .int .u8 (r.2.1 : Nat), .bool r.2.2], .slice a n cap] w fun e w' => e = .returned (.bool true) ∧ Below w.heap.size w w' := by
  obtain ⟨r1, r2, r3⟩ := r
  have HW := Lib.hid hW
  have HR := Lib.hid h
  have HRX := Lib.hid hr
  obtain ⟨L, eL⟩ : ∃ L, listM l = L := ⟨_, rfl⟩
  have EL := Lib.hid eL
  have H8 : Hid (∀ c ∈ L, Mc8 c) := by rw [← eL]; exact listM_ok l
  have hLn : L.length ≤ 1000000 := by rw [← eL]; exact Nat.le_trans (listM_len l) (by omega)
  obtain ⟨C, eC⟩ : ∃ C, L.map cuM = C := ⟨_, rfl⟩
  have EC := Lib.hid eC
  have hc8 := fitM_ok (r1, r2, r3)
  obtain ⟨⟨m1, m2⟩, em⟩ : ∃ m, fitM (r1, r2, r3) = m := ⟨_, rfl⟩
  rw [em] at hc8
  have EF := Lib.hid em
  have HC8 := Lib.hid hc8
  have HC := Lib.hid hc8.ok
  obtain ⟨X, eX⟩ : ∃ X, cuM (m1, m2) = X := ⟨_, rfl⟩
  have EX := Lib.hid eX
  have hcv := covered_cuM (c := (m1, m2)) (l := L) HC8.out H8.out
  rw [eX, eC] at hcv
  obtain ⟨t, et⟩ : ∃ t, coveredM (m1, m2) L = t := ⟨_, rfl⟩
  have EU := Lib.hid et
  have ET : Hid (coveredC C X = t) := hcv.trans et
  have hXo : CuOk X := by rw [← eX]; exact cuM_ok _
  have hCo : ∀ x ∈ C, CuOk x := by rw [← eC]; exact map_ok
  have tk0 : Hid True := trivial
  dsimp only
  cases hs : splitC X C with
  | none =>
    have ES := Lib.hid hs
    clear hW h hr eL eC em hc8 eX hs hcv et hXo hCo
    cases t
    all_goals
      go_enter Tryz.func12, Tryz.ntmps12
      go_wp2_with (first
        | (go_at_call 15; (with_reducible refine (awake_any _ (HW.out.below (bel1 (Below.refl _ _)))).mono ?_); rintro e w0 ⟨rfl, hB⟩; obtain ⟨q0, q1, q2, -⟩ := boxR hB)
        | (go_at_call 26; (with_reducible refine (rfit_c _ _ _ _ _ _ HRX.out EF).mono ?_); rintro e w1 ⟨rfl, hb⟩; have hB := hB.trans (hb.mono hB.size); clear hb)
        | (go_at_call 16; (with_reducible refine (rlist_c _ _ _ _ _ _ (HR.out.below (bel1 hB)) EL).mono ?_); rintro e w2 ⟨a1, n1, c1, rfl, hm, hb⟩; have hB := hB.trans (hb.mono hB.size); clear hb; have hbx := (Below.refl w2.heap.size w2).alloc (Nat.le_refl _) (.cells #[.int .u64 (m1 : Nat), .int .u64 (m2 : Nat)] 28); have hA := At2.new w2 (.int .u64 (m1 : Nat)) (.int .u64 (m2 : Nat)) 28; have hm := hm.below hbx; have hB := hB.trans (hbx.mono hB.size); clear hbx q0 q1 q2; have q0 := hA.1; have q1 := hA.2.1)
        | (go_at_call 18; have _tk := tk0; (with_reducible refine (lawmake_c _ _ _ _ HC.out EX).mono ?_); rintro e w3 ⟨a3, n3, c3, b3, m3, d3, rfl, hc, hb⟩; have hB := hB.trans (hb.mono hB.size); have hA := hA.below hb; have hm := hm.below hb; clear hb q0 q1; have q0 := hA.1; have q1 := hA.2.1; clear tk0; have tk1 : Hid True := trivial)
        | (go_at_call 24; have _tk := tk1; (with_reducible refine (makeAll_c _ _ _ _ _ _ hm hLn EC).mono ?_); rintro e w4 ⟨a4, n4, c4, rfl, hs, hb⟩; have hB := hB.trans (hb.mono hB.size); have hA := hA.below hb; have hm := hm.below hb; have hc := hc.below hb; clear hb q0 q1; have q0 := hA.1; have q1 := hA.2.1; clear tk1; have tk2 : Hid True := trivial)
        | (go_at_call 42; (with_reducible refine (split_none _ _ _ _ _ _ _ _ _ _ _ _ hc hs (HW.out.below (bel1 hB)).tz ES).mono ?_); rintro e w5 ⟨rfl, hb⟩; have hB := hB.trans (hb.mono hB.size); have hA := hA.below hb; have hm := hm.below hb; clear hb q0 q1 hc hs; have q0 := hA.1; have q1 := hA.2.1)
        | (go_at_call 18; (with_reducible refine (lawmake_c _ _ _ _ HC.out EX).mono ?_); rintro e w6 ⟨a6, n6, c6, b6, m6, d6, rfl, hc, hb⟩; have hB := hB.trans (hb.mono hB.size); have hA := hA.below hb; have hm := hm.below hb; clear hb q0 q1; have q0 := hA.1; have q1 := hA.2.1)
        | (go_at_call 24; (with_reducible refine (makeAll_c _ _ _ _ _ _ hm hLn EC).mono ?_); rintro e w7 ⟨a7, n7, c7, rfl, hs, hb⟩; have hB := hB.trans (hb.mono hB.size); have hA := hA.below hb; have hm := hm.below hb; have hc := hc.below hb; clear hb q0 q1; have q0 := hA.1; have q1 := hA.2.1)
        | (go_at_call 51; (with_reducible refine (covered_t _ _ _ _ _ _ _ _ _ _ _ _ _ hc hs (HW.out.below (bel1 hB)).tz ET).mono ?_); rintro e w8 ⟨rfl, hb⟩; have hB := hB.trans (hb.mono hB.size); have hA := hA.below hb; have hm := hm.below hb; clear hb q0 q1 hc hs; have q0 := hA.1; have q1 := hA.2.1)
        | (go_at_call 52; (with_reducible refine (rcovered_t _ _ _ _ _ _ _ _ HC.out hm EU).mono ?_); rintro e w9 ⟨rfl, hb⟩; have hB := hB.trans (hb.mono hB.size); have hA := hA.below hb; clear hb q0 q1 hm; have q0 := hA.1; have q1 := hA.2.1))
      go_ret
      exact ⟨rfl, bel1 hB⟩
  | some got =>
    have ES := Lib.hid hs
    have HN : Hid (∀ n, got.length = n → ((n : Int) == 0) = t) := fun n hn => len_dec hn ((split_covered hXo hCo hs).symm.trans ET.out)
    clear hW h hr eL eC em hc8 eX hs hcv et hXo hCo
    cases t
    all_goals
      go_enter Tryz.func12, Tryz.ntmps12
      go_wp2_with (first
        | (go_at_call 15; (with_reducible refine (awake_any _ (HW.out.below (bel1 (Below.refl _ _)))).mono ?_); rintro e w0 ⟨rfl, hB⟩; obtain ⟨q0, q1, q2, -⟩ := boxR hB)
        | (go_at_call 26; (with_reducible refine (rfit_c _ _ _ _ _ _ HRX.out EF).mono ?_); rintro e w1 ⟨rfl, hb⟩; have hB := hB.trans (hb.mono hB.size); clear hb)
        | (go_at_call 16; (with_reducible refine (rlist_c _ _ _ _ _ _ (HR.out.below (bel1 hB)) EL).mono ?_); rintro e w2 ⟨a1, n1, c1, rfl, hm, hb⟩; have hB := hB.trans (hb.mono hB.size); clear hb; have hbx := (Below.refl w2.heap.size w2).alloc (Nat.le_refl _) (.cells #[.int .u64 (m1 : Nat), .int .u64 (m2 : Nat)] 28); have hA := At2.new w2 (.int .u64 (m1 : Nat)) (.int .u64 (m2 : Nat)) 28; have hm := hm.below hbx; have hB := hB.trans (hbx.mono hB.size); clear hbx q0 q1 q2; have q0 := hA.1; have q1 := hA.2.1)
        | (go_at_call 18; have _tk := tk0; (with_reducible refine (lawmake_c _ _ _ _ HC.out EX).mono ?_); rintro e w3 ⟨a3, n3, c3, b3, m3, d3, rfl, hc, hb⟩; have hB := hB.trans (hb.mono hB.size); have hA := hA.below hb; have hm := hm.below hb; clear hb q0 q1; have q0 := hA.1; have q1 := hA.2.1; clear tk0; have tk1 : Hid True := trivial)
        | (go_at_call 24; have _tk := tk1; (with_reducible refine (makeAll_c _ _ _ _ _ _ hm hLn EC).mono ?_); rintro e w4 ⟨a4, n4, c4, rfl, hs, hb⟩; have hB := hB.trans (hb.mono hB.size); have hA := hA.below hb; have hm := hm.below hb; have hc := hc.below hb; clear hb q0 q1; have q0 := hA.1; have q1 := hA.2.1; clear tk1; have tk2 : Hid True := trivial)
        | (go_at_call 42; (with_reducible refine (split_some _ _ _ _ _ _ _ _ _ _ _ _ _ hc hs (HW.out.below (bel1 hB)).tz ES).mono ?_); rintro e w5 ⟨a5, n5, c5, rfl, hg, hb⟩; have hB := hB.trans (hb.mono hB.size); have hA := hA.below hb; have hm := hm.below hb; clear hb q0 q1 hc hs; have q0 := hA.1; have q1 := hA.2.1; have hn5 := HN.out _ hg.len; clear hg)
        | (go_at_call 18; (with_reducible refine (lawmake_c _ _ _ _ HC.out EX).mono ?_); rintro e w6 ⟨a6, n6, c6, b6, m6, d6, rfl, hc, hb⟩; have hB := hB.trans (hb.mono hB.size); have hA := hA.below hb; have hm := hm.below hb; clear hb q0 q1; have q0 := hA.1; have q1 := hA.2.1)
        | (go_at_call 24; (with_reducible refine (makeAll_c _ _ _ _ _ _ hm hLn EC).mono ?_); rintro e w7 ⟨a7, n7, c7, rfl, hs, hb⟩; have hB := hB.trans (hb.mono hB.size); have hA := hA.below hb; have hm := hm.below hb; have hc := hc.below hb; clear hb q0 q1; have q0 := hA.1; have q1 := hA.2.1)
        | (go_at_call 51; (with_reducible refine (covered_t _ _ _ _ _ _ _ _ _ _ _ _ _ hc hs (HW.out.below (bel1 hB)).tz ET).mono ?_); rintro e w8 ⟨rfl, hb⟩; have hB := hB.trans (hb.mono hB.size); have hA := hA.below hb; have hm := hm.below hb; clear hb q0 q1 hc hs; have q0 := hA.1; have q1 := hA.2.1)
        | (go_at_call 52; (with_reducible refine (rcovered_t _ _ _ _ _ _ _ _ HC.out hm EU).mono ?_); rintro e w9 ⟨rfl, hb⟩; have hB := hB.trans (hb.mono hB.size); have hA := hA.below hb; clear hb q0 q1 hm; have q0 := hA.1; have q1 := hA.2.1))
      go_ret
      exact ⟨rfl, bel1 hB⟩
end Go.Proofs.YtadomogbakcokaaGreatDoor
