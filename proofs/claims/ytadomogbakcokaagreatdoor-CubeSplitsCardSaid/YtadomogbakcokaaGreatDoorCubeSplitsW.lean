/- The walk of CubeSplits. -/
import Derived.Test.YtadomogbakcokaaGreatDoorCvP
namespace Go.Proofs.YtadomogbakcokaaGreatDoor
open Go.RowKit Go.PlainAid
set_option linter.unusedVariables false
set_option linter.unusedSimpArgs false
set_option maxHeartbeats 4000000
set_option maxRecDepth 20000

theorem cubeSplits_walk (r : Rx) (a : Option Addr) (n cap : Nat) (l : List Rx) (w : World) (hW : Wld w) (hr : RxOk r) (h : Rs w a n cap l) :
    Calls Tryz.prog 11 #[.agg #[.int .u8 (r.1 : Nat), .int .u8 (r.2.1 : Nat), .bool r.2.2], .slice a n cap] w fun e w' => e = .returned (.bool true) ∧ Below w.heap.size w w' := by
  obtain ⟨r1, r2, r3⟩ := r
  have HW := Lib.hid hW
  have HR := Lib.hid h
  have HRX := Lib.hid hr
  obtain ⟨L, eL⟩ : ∃ L, listM l = L := ⟨_, rfl⟩
  have EL := Lib.hid eL
  have H8 : Hid (∀ c ∈ L, Mc8 c) := by rw [← eL]; exact listM_ok l
  have hLn : L.length ≤ 1000000 := by rw [← eL]; exact Nat.le_trans (listM_len l) (by omega)
  obtain ⟨C, eC⟩ : ∃ C, L.map cuM = C := ⟨_, rfl⟩
  have EC := Lib.hid eC
  have hc8 := fitM_ok (r1, r2, r3)
  obtain ⟨⟨m1, m2⟩, em⟩ : ∃ m, fitM (r1, r2, r3) = m := ⟨_, rfl⟩
  rw [em] at hc8
  have EF := Lib.hid em
  have HC8 := Lib.hid hc8
  have HC := Lib.hid hc8.ok
  obtain ⟨X, eX⟩ : ∃ X, cuM (m1, m2) = X := ⟨_, rfl⟩
  have EX := Lib.hid eX
  have hsp := split_cuM (c := (m1, m2)) (l := L) HC.out (list_ok H8.out)
  rw [eX, eC] at hsp
  dsimp only
  cases hs : splitM (m1, m2) L with
  | none =>
    have ET := Lib.hid hs
    have ES : Hid (splitC X C = none) := by show _ = _; rw [hsp, hs]; rfl
    have EG : Hid (([] : List Cu) = ([] : List Mc).map cuM) := rfl
    clear hW h hr eL eC em hc8 eX hsp hs
    go_enter Tryz.func11, Tryz.ntmps11
    go_wp2_with (first
      | (go_at_call 15; (with_reducible refine (awake_any _ (HW.out.below (bel1 (Below.refl _ _)))).mono ?_); rintro e w0 ⟨rfl, hB⟩; obtain ⟨q0, q1, q2, -⟩ := boxR hB)
      | (go_at_call 26; (with_reducible refine (rfit_c _ _ _ _ _ _ HRX.out EF).mono ?_); rintro e w1 ⟨rfl, hb⟩; have hB := hB.trans (hb.mono hB.size); clear hb)
      | (go_at_call 16; (with_reducible refine (rlist_c _ _ _ _ _ _ (HR.out.below (bel1 hB)) EL).mono ?_); rintro e w2 ⟨a1, n1, c1, rfl, hm, hb⟩; have hB := hB.trans (hb.mono hB.size); clear hb; have hbx := (Below.refl w2.heap.size w2).alloc (Nat.le_refl _) (.cells #[.int .u64 (m1 : Nat), .int .u64 (m2 : Nat)] 28); have hA := At2.new w2 (.int .u64 (m1 : Nat)) (.int .u64 (m2 : Nat)) 28; have hm := hm.below hbx; have hB := hB.trans (hbx.mono hB.size); clear hbx q0 q1 q2; have q0 := hA.1; have q1 := hA.2.1)
      | (go_at_call 18; (with_reducible refine (lawmake_c _ _ _ _ HC.out EX).mono ?_); rintro e w3 ⟨a3, n3, c3, b3, m3, d3, rfl, hc, hb⟩; have hB := hB.trans (hb.mono hB.size); have hA := hA.below hb; have hm := hm.below hb; clear hb q0 q1; have q0 := hA.1; have q1 := hA.2.1)
      | (go_at_call 24; (with_reducible refine (makeAll_c _ _ _ _ _ _ hm hLn EC).mono ?_); rintro e w4 ⟨a4, n4, c4, rfl, hs, hb⟩; have hB := hB.trans (hb.mono hB.size); have hA := hA.below hb; have hm := hm.below hb; have hc := hc.below hb; clear hb q0 q1; have q0 := hA.1; have q1 := hA.2.1)
      | (go_at_call 42; (with_reducible refine (split_none _ _ _ _ _ _ _ _ _ _ _ _ hc hs (HW.out.below (bel1 hB)).tz ES).mono ?_); rintro e w5 ⟨rfl, hb⟩; have hB := hB.trans (hb.mono hB.size); have hA := hA.below hb; have hm := hm.below hb; clear hb q0 q1 hc hs; have q0 := hA.1; have q1 := hA.2.1)
      | (go_at_call 50; (with_reducible refine (rsplit_none _ _ _ _ _ _ _ HC.out hm ET).mono ?_); rintro e w6 ⟨rfl, hb⟩; have hB := hB.trans (hb.mono hB.size); have hA := hA.below hb; clear hb q0 q1 hm; have q0 := hA.1; have q1 := hA.2.1)
      | (go_at_call 39; (with_reducible refine (same_yes _ _ _ _ _ _ _ _ _ (cs_nil _) (ms_nil _) (HW.out.below (bel1 hB)).tz EG).mono ?_); rintro e w7 ⟨rfl, hb⟩; have hB := hB.trans (hb.mono hB.size); have hA := hA.below hb; clear hb q0 q1; have q0 := hA.1; have q1 := hA.2.1))
    go_ret
    exact ⟨rfl, bel1 hB⟩
  | some got =>
    have ET := Lib.hid hs
    obtain ⟨G, eG⟩ : ∃ G, G = got.map cuM := ⟨_, rfl⟩
    have EG := Lib.hid eG
    have ES : Hid (splitC X C = some G) := by show _ = _; rw [hsp, hs, eG]; rfl
    clear hW h hr eL eC em hc8 eX hsp hs eG
    go_enter Tryz.func11, Tryz.ntmps11
    go_wp2_with (first
      | (go_at_call 15; (with_reducible refine (awake_any _ (HW.out.below (bel1 (Below.refl _ _)))).mono ?_); rintro e w0 ⟨rfl, hB⟩; obtain ⟨q0, q1, q2, -⟩ := boxR hB)
      | (go_at_call 26; (with_reducible refine (rfit_c _ _ _ _ _ _ HRX.out EF).mono ?_); rintro e w1 ⟨rfl, hb⟩; have hB := hB.trans (hb.mono hB.size); clear hb)
      | (go_at_call 16; (with_reducible refine (rlist_c _ _ _ _ _ _ (HR.out.below (bel1 hB)) EL).mono ?_); rintro e w2 ⟨a1, n1, c1, rfl, hm, hb⟩; have hB := hB.trans (hb.mono hB.size); clear hb; have hbx := (Below.refl w2.heap.size w2).alloc (Nat.le_refl _) (.cells #[.int .u64 (m1 : Nat), .int .u64 (m2 : Nat)] 28); have hA := At2.new w2 (.int .u64 (m1 : Nat)) (.int .u64 (m2 : Nat)) 28; have hm := hm.below hbx; have hB := hB.trans (hbx.mono hB.size); clear hbx q0 q1 q2; have q0 := hA.1; have q1 := hA.2.1)
      | (go_at_call 18; (with_reducible refine (lawmake_c _ _ _ _ HC.out EX).mono ?_); rintro e w3 ⟨a3, n3, c3, b3, m3, d3, rfl, hc, hb⟩; have hB := hB.trans (hb.mono hB.size); have hA := hA.below hb; have hm := hm.below hb; clear hb q0 q1; have q0 := hA.1; have q1 := hA.2.1)
      | (go_at_call 24; (with_reducible refine (makeAll_c _ _ _ _ _ _ hm hLn EC).mono ?_); rintro e w4 ⟨a4, n4, c4, rfl, hs, hb⟩; have hB := hB.trans (hb.mono hB.size); have hA := hA.below hb; have hm := hm.below hb; have hc := hc.below hb; clear hb q0 q1; have q0 := hA.1; have q1 := hA.2.1)
      | (go_at_call 42; (with_reducible refine (split_some _ _ _ _ _ _ _ _ _ _ _ _ _ hc hs (HW.out.below (bel1 hB)).tz ES).mono ?_); rintro e w5 ⟨a5, n5, c5, rfl, hg, hb⟩; have hB := hB.trans (hb.mono hB.size); have hA := hA.below hb; have hm := hm.below hb; clear hb q0 q1 hc hs; have q0 := hA.1; have q1 := hA.2.1)
      | (go_at_call 50; (with_reducible refine (rsplit_some _ _ _ _ _ _ _ _ HC.out hm ET).mono ?_); rintro e w6 ⟨a6, n6, c6, rfl, hk, hb⟩; have hB := hB.trans (hb.mono hB.size); have hA := hA.below hb; have hg := hg.below hb; clear hb q0 q1 hm; have q0 := hA.1; have q1 := hA.2.1)
      | (go_at_call 39; (with_reducible refine (same_yes _ _ _ _ _ _ _ _ _ hg hk (HW.out.below (bel1 hB)).tz EG).mono ?_); rintro e w7 ⟨rfl, hb⟩; have hB := hB.trans (hb.mono hB.size); have hA := hA.below hb; clear hb q0 q1; have q0 := hA.1; have q1 := hA.2.1))
    go_ret
    exact ⟨rfl, bel1 hB⟩
end Go.Proofs.YtadomogbakcokaaGreatDoor
