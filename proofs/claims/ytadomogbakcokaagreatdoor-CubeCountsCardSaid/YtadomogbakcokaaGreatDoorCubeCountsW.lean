/- The walk of CubeCounts. -/
import Derived.Test.YtadomogbakcokaaGreatDoorQgu
namespace Go.Proofs.YtadomogbakcokaaGreatDoor
open Go.RowKit Go.PlainAid
set_option linter.unusedVariables false
set_option linter.unusedSimpArgs false
set_option maxHeartbeats 4000000
set_option maxRecDepth 20000

theorem tmod14 (m : Nat) : ((m : Nat) : Int).tmod 14 = ((m % 14 : Nat) : Int) := by
  rw [Int.tmod_eq_emod_of_nonneg (Int.natCast_nonneg _)]; omega
theorem cubeCounts_walk (a : Option Addr) (n cap : Nat) (l : List Rx) (o1 o2 : Int) (w : World) (hW : Wld w) (h : Rs w a n cap l) (ho1 : (Lit.int .u8 o1).wf = true) (ho2 : (Lit.int .u8 o2).wf = true) :
    Calls Tryz.prog 6 #[.slice a n cap, .int .u8 o1, .int .u8 o2] w fun e w' => e = .returned (.bool true) ∧ Below w.heap.size w w' := by
  obtain ⟨over, rfl, hov⟩ := u8_of ho1
  obtain ⟨more, rfl, hmo⟩ := u8_of ho2
  have HW := Lib.hid hW
  have HR := Lib.hid h
  obtain ⟨L, eL⟩ : ∃ L, listM l = L := ⟨_, rfl⟩
  have EL := Lib.hid eL
  have H8 : Hid (∀ c ∈ L, Mc8 c) := by rw [← eL]; exact listM_ok l
  have hLn : L.length ≤ 1000000 := by rw [← eL]; exact Nat.le_trans (listM_len l) (by omega)
  obtain ⟨C, eC⟩ : ∃ C, L.map cuM = C := ⟨_, rfl⟩
  have EC := Lib.hid eC
  obtain ⟨s, es⟩ : ∃ s, bitsL over = s := ⟨_, rfl⟩
  have ES := Lib.hid es
  have hs16 : s.length ≤ 16 := by rw [← es]; exact bits_len8 hov
  obtain ⟨k, ek⟩ : ∃ k, countM L over = k := ⟨_, rfl⟩
  have EK : Hid (countC C s = k) := by show _ = _; rw [← eC, ← es, ← ek]; exact count_cuM (list_ok H8.out) hov
  have EM := Lib.hid ek
  have hov2 : over < 18446744073709551616 := by omega
  have ht := tmod14 more
  have hr : more % 14 < 14 := Nat.mod_lt _ (by omega)
  generalize more % 14 = r at ht hr
  have hk0 : (10 : Int) + (r : Int) = ((10 + r : Nat) : Int) := by omega
  have HB := Lib.hid (fun w' => below_any ((10 + r : Nat) : Int) w')
  rw [← hk0] at HB
  have hbl := belowL_len (10 + r) (by omega)
  rw [← hk0] at hbl
  obtain ⟨bl, ebl⟩ : ∃ bl, belowL (10 + (r : Int)) = bl := ⟨_, rfl⟩
  rw [ebl] at HB hbl
  have HBL := Lib.hid hbl
  clear hW h ho1 ho2 eL eC es ek hk0 hmo hbl ebl
  have w1 : IntKind.u64.wrap (over : Int) = over := by rw [IntKind.wrap_u64]; omega
  by_cases hr6 : r ≤ 6
  · have hl16 : bl.length ≤ 16 := by have := HBL.out; omega
    have hgt : ¬ (16 : Int) < 10 + (r : Int) := by omega
    go_enter Tryz.func6, Tryz.ntmps6
    go_wp2_with (first
      | (go_at_call 15; (with_reducible refine (awake_any _ HW.out).mono ?_); rintro e w0 ⟨rfl, hB⟩)
      | (go_at_call 16; (with_reducible refine (rlist_c _ _ _ _ _ _ (HR.out.below hB) EL).mono ?_); rintro e w1 ⟨a1, n1, c1, rfl, hm, hb⟩; have hB := step_call hB hb; clear hb)
      | (go_at_call 24; (with_reducible refine (makeAll_c _ _ _ _ _ _ hm hLn EC).mono ?_); rintro e w2 ⟨a2, n2, c2, rfl, hc, hb⟩; have hB := step_call hB hb; have hm := hm.below hb; clear hb)
      | (go_at_call 19; (with_reducible refine (lawset_c _ _ _ hov2 ES).mono ?_); rintro e w3 ⟨a3, n3, c3, rfl, hs, hb⟩; have hB := step_call hB hb; have hm := hm.below hb; have hc := hc.below hb; clear hb)
      | (go_at_call 33; (with_reducible refine (count_yes _ _ _ _ _ _ _ _ _ _ hc hs (HW.out.below hB).tz hs16 EK).mono ?_); rintro e w4 ⟨rfl, hb⟩; have hB := step_call hB hb; have hm := hm.below hb; clear hb; clear hc hs)
      | (go_at_call 34; (with_reducible refine (rcount_any _ hov2 _ _ _ _ _ hm).mono ?_); rintro e w5 ⟨rfl, hb⟩; have hB := step_call hB hb; clear hb; rw [EM.out]; clear hm)
      | (go_at_call 35; (with_reducible refine (HB.out _).mono ?_); rintro e w6 ⟨a6, n6, c6, rfl, ht6, hb⟩; have hB := step_call hB hb; clear hb)
      | (go_at_call 33; (with_reducible refine (count_yes _ _ _ _ _ _ _ _ 0 _ (cs_nil _) ht6 (HW.out.below hB).tz hl16 (Lib.hid (countC_nil _))).mono ?_); rintro e w7 ⟨rfl, hb⟩; have hB := step_call hB hb; clear hb))
    go_ret
    exact ⟨rfl, hB⟩
  · have hl16 : ¬ bl.length ≤ 16 := by have := HBL.out; omega
    have hgt : (16 : Int) < 10 + (r : Int) := by omega
    go_enter Tryz.func6, Tryz.ntmps6
    go_wp2_with (first
      | (go_at_call 15; (with_reducible refine (awake_any _ HW.out).mono ?_); rintro e w0 ⟨rfl, hB⟩)
      | (go_at_call 16; (with_reducible refine (rlist_c _ _ _ _ _ _ (HR.out.below hB) EL).mono ?_); rintro e w1 ⟨a1, n1, c1, rfl, hm, hb⟩; have hB := step_call hB hb; clear hb)
      | (go_at_call 24; (with_reducible refine (makeAll_c _ _ _ _ _ _ hm hLn EC).mono ?_); rintro e w2 ⟨a2, n2, c2, rfl, hc, hb⟩; have hB := step_call hB hb; have hm := hm.below hb; clear hb)
      | (go_at_call 19; (with_reducible refine (lawset_c _ _ _ hov2 ES).mono ?_); rintro e w3 ⟨a3, n3, c3, rfl, hs, hb⟩; have hB := step_call hB hb; have hm := hm.below hb; have hc := hc.below hb; clear hb)
      | (go_at_call 33; (with_reducible refine (count_yes _ _ _ _ _ _ _ _ _ _ hc hs (HW.out.below hB).tz hs16 EK).mono ?_); rintro e w4 ⟨rfl, hb⟩; have hB := step_call hB hb; have hm := hm.below hb; clear hb; clear hc hs)
      | (go_at_call 34; (with_reducible refine (rcount_any _ hov2 _ _ _ _ _ hm).mono ?_); rintro e w5 ⟨rfl, hb⟩; have hB := step_call hB hb; clear hb; rw [EM.out]; clear hm)
      | (go_at_call 35; (with_reducible refine (HB.out _).mono ?_); rintro e w6 ⟨a6, n6, c6, rfl, ht6, hb⟩; have hB := step_call hB hb; clear hb)
      | (go_at_call 33; (with_reducible refine (count_no _ _ _ _ _ _ _ _ _ (cs_nil _) ht6 (HW.out.below hB).tz hl16).mono ?_); rintro e w7 ⟨rfl, hb⟩; have hB := step_call hB hb; clear hb))
    go_ret
    exact ⟨rfl, hB⟩
end Go.Proofs.YtadomogbakcokaaGreatDoor
