/- The walk of CubeSimple. -/
import Derived.Test.YtadomogbakcokaaGreatDoorCwL
namespace Go.Proofs.YtadomogbakcokaaGreatDoor
open Go.RowKit Go.PlainAid
set_option linter.unusedVariables false
set_option linter.unusedSimpArgs false
set_option maxHeartbeats 4000000
set_option maxRecDepth 20000

theorem some_mem {l r : List Cu} (h : ∀ x, x ∈ l ↔ x ∈ r) (s : List Nat) : someC l s = someC r s := by
  unfold someC
  rw [Bool.eq_iff_iff, List.any_eq_true, List.any_eq_true]
  exact ⟨fun ⟨x, hx, hs⟩ => ⟨x, (h x).1 hx, hs⟩, fun ⟨x, hx, hs⟩ => ⟨x, (h x).2 hx, hs⟩⟩
theorem simple_m (a : Option Addr) (n cap : Nat) (L : List Mc) (C G : List Cu) (w : World) (h : Cs w a n cap C) (hC : Hid (L.map cuM = C)) (hL : L.length ≤ 8) (h8 : ∀ c ∈ L, Mc8 c) (hG : Hid ((simpN L L.length).map cuM = G)) (hT : Tz w) :
    Calls Tryz.prog 43 #[.slice a n cap] w fun e w' => ∃ b m d, e = .returned (.slice b m d) ∧ Cs w' b m d G ∧ (∀ s, someC G s = someC C s) ∧ Below w.heap.size w w' := by
  have hn : n ≤ 12 := by have := h.len; have h2 := congrArg List.length hC.out; rw [List.length_map] at h2; omega
  have hok := h.ok
  refine (simple_any a n cap C w h hn hT).mono ?_
  rintro e w' ⟨v, ds, rfl, hs, hm, hco, hb⟩
  have he := simple_law (l := L) h8 hs (fun x => by rw [hC.out]; exact hm x)
  rw [hG.out] at he
  rw [he] at hco
  obtain ⟨b, m, d, rfl, _, hcs⟩ := hco.dn
  refine ⟨b, m, d, rfl, hcs, fun s => ?_, hb⟩
  rw [some_sats, ← he, some_keep (fun x hx => hok x ((hm x).1 hx)), ← some_sats]
  exact some_mem hm s
theorem rsimple_c (a : Option Addr) (n cap : Nat) (L R : List Mc) (w : World) (h : Ms w a n cap L) (hn : n ≤ 8) (hR : Hid (simpN L L.length = R)) :
    Calls Tryz.prog 44 #[.slice a n cap] w (MsP w R) := by
  refine (rsimple_any a n cap L w h hn).mono ?_
  rintro e w' ⟨v, rfl, hmo, hb⟩
  rw [hR.out] at hmo
  obtain ⟨b, m, d, rfl, _, hms⟩ := hmo.dn
  exact ⟨b, m, d, rfl, hms, hb⟩
theorem men_c (a : Option Addr) (n cap : Nat) (C : List Cu) (M : List Nat) (w : World) (h : Cs w a n cap C) (hM : Hid (menC C = M)) :
    Calls Tryz.prog 46 #[.slice a n cap] w (SetPost w M) := by
  rw [← hM.out]; exact Mentioned_any a n cap C w h
theorem rmen_c (a : Option Addr) (n cap : Nat) (L : List Mc) (m : Nat) (w : World) (h : Ms w a n cap L) (hM : Hid (menM L = m)) :
    Calls Tryz.prog 49 #[.slice a n cap] w fun e w' => e = .returned (.int .u64 (m : Nat)) ∧ Below w.heap.size w w' := by
  rw [← hM.out]; exact mentioned_any a n cap L w h
theorem list_m (a : Option Addr) (n cap : Nat) (l : List Nat) (w : World) (h : Bs w a n cap l) (hT : Tz w) :
    Calls Tryz.prog 47 #[.agg #[.slice a n cap]] w (IntsP w l) := by
  refine (list_any a n cap l w h hT).mono ?_
  rintro e w' ⟨v, rfl, hr, hb⟩
  obtain ⟨b, c, rfl, hi⟩ := iw_of_i64 hr rfl
  exact ⟨b, _, c, rfl, hi, hb⟩
theorem equalI_yes (a b : Option Addr) (n c m d : Nat) (xs : List Int) (w : World) (h : Iw w a n c xs) (k : Iw w b m d xs) :
    Calls Tryz.prog 45 #[.slice a n c, .slice b m d] w (BoolPost w true) := by
  have := equalI_any a b n c m d xs xs w h k
  rwa [decide_eq_true rfl] at this
theorem cubeSimple_walk (a : Option Addr) (n cap : Nat) (l : List Rx) (o : Int) (w : World) (hW : Wld w) (h : Rs w a n cap l) (ho : (Lit.int .u64 o).wf = true) :
    Calls Tryz.prog 10 #[.slice a n cap, .int .u64 o] w fun e w' => e = .returned (.bool true) ∧ Below w.heap.size w w' := by
  obtain ⟨s, rfl, hs64⟩ := u64_of ho
  have HW := Lib.hid hW
  have HR := Lib.hid h
  obtain ⟨L, eL⟩ : ∃ L, listM l = L := ⟨_, rfl⟩
  have EL := Lib.hid eL
  have H8 : Hid (∀ c ∈ L, Mc8 c) := by rw [← eL]; exact listM_ok l
  have hl8 : L.length ≤ 8 := by rw [← eL]; exact listM_len l
  have HL8 := Lib.hid hl8
  have hLn : L.length ≤ 1000000 := by omega
  obtain ⟨C, eC⟩ : ∃ C, L.map cuM = C := ⟨_, rfl⟩
  have EC := Lib.hid eC
  obtain ⟨R, eR⟩ : ∃ R, simpN L L.length = R := ⟨_, rfl⟩
  have HRR := Lib.hid eR
  obtain ⟨G, eG⟩ : ∃ G, R.map cuM = G := ⟨_, rfl⟩
  have HGR : Hid (G = R.map cuM) := eG.symm
  have HGG : Hid ((simpN L L.length).map cuM = G) := by show _ = _; rw [eR]; exact eG
  obtain ⟨S, eS⟩ : ∃ S, bitsL s = S := ⟨_, rfl⟩
  have ES := Lib.hid eS
  obtain ⟨t, et⟩ : ∃ t, someM L s = t := ⟨_, rfl⟩
  have ESM := Lib.hid et
  have ESC : Hid (someC C S = t) := by show _ = _; rw [← eC, ← eS, some_cuM (list_ok H8.out) hs64]; exact et
  obtain ⟨mm, em⟩ : ∃ mm, menM L = mm := ⟨_, rfl⟩
  have HMM := Lib.hid em
  obtain ⟨M, eM⟩ : ∃ M, bitsL mm = M := ⟨_, rfl⟩
  have HMB := Lib.hid eM
  have HMC : Hid (menC C = M) := by show _ = _; rw [← eC, men_cuM, em]; exact eM
  have HM64 : Hid (mm < 18446744073709551616) := by rw [← em]; exact menM_lt (list_ok H8.out)
  have tk0 : Hid True := trivial
  clear hW h ho eL eC eR eG eS et em eM hl8
  cases t
  all_goals
    go_enter Tryz.func10, Tryz.ntmps10
    go_wp2_with (first
      | (go_at_call 15; (with_reducible refine (awake_any _ HW.out).mono ?_); rintro e w0 ⟨rfl, hB⟩)
      | (go_at_call 16; (with_reducible refine (rlist_c _ _ _ _ _ _ (HR.out.below hB) EL).mono ?_); rintro e w1 ⟨a1, n1, c1, rfl, hm, hb⟩; have hB := step_call hB hb; clear hb; have hn1 : n1 ≤ 8 := (by have := hm.len; have := HL8.out; omega))
      | (go_at_call 24; clear tk0; (with_reducible refine (makeAll_c _ _ _ _ _ _ hm hLn EC).mono ?_); rintro e w2 ⟨a2, n2, c2, rfl, hcs, hb⟩; have hB := step_call hB hb; replace hm := hm.below hb; clear hb; have tk1 : Hid True := trivial)
      | (go_at_call 43; (with_reducible refine (simple_m _ _ _ L C G _ hcs EC HL8.out H8.out HGG (HW.out.below hB).tz).mono ?_); rintro e w3 ⟨a3, n3, c3, rfl, hg, hsm, hb⟩; have hB := step_call hB hb; replace hm := hm.below hb; clear hb; have HST := Lib.hid ((hsm S).trans ESC.out); clear hsm hcs)
      | (go_at_call 44; (with_reducible refine (rsimple_c _ _ _ L R _ hm hn1 HRR).mono ?_); rintro e w4 ⟨a4, n4, c4, rfl, hr, hb⟩; have hB := step_call hB hb; replace hm := hm.below hb; replace hg := hg.below hb; clear hb)
      | (go_at_call 39; (with_reducible refine (same_yes _ _ _ _ _ _ G R _ hg hr (HW.out.below hB).tz HGR).mono ?_); rintro e w5 ⟨rfl, hb⟩; have hB := step_call hB hb; replace hm := hm.below hb; replace hg := hg.below hb; clear hb hr)
      | (go_at_call 19; (with_reducible refine (lawset_c _ _ _ hs64 ES).mono ?_); rintro e w6 ⟨a6, n6, c6, rfl, hset, hb⟩; have hB := step_call hB hb; replace hm := hm.below hb; replace hg := hg.below hb; clear hb)
      | (go_at_call 23; (with_reducible refine (some_t _ _ _ _ _ _ _ _ _ _ hg hset HST).mono ?_); rintro e w7 ⟨rfl, hb⟩; have hB := step_call hB hb; replace hm := hm.below hb; clear hb hg hset HST)
      | (go_at_call 25; (with_reducible refine (rsome_t _ _ _ _ _ _ _ hs64 hm ESM).mono ?_); rintro e w8 ⟨rfl, hb⟩; have hB := step_call hB hb; replace hm := hm.below hb; clear hb)
      | (go_at_call 24; clear tk1; (with_reducible refine (makeAll_c _ _ _ _ _ _ hm hLn EC).mono ?_); rintro e w9 ⟨a9, n9, c9, rfl, hcs, hb⟩; have hB := step_call hB hb; replace hm := hm.below hb; clear hb; have tk2 : Hid True := trivial)
      | (go_at_call 46; (with_reducible refine (men_c _ _ _ C M _ hcs HMC).mono ?_); rintro e w10 ⟨a10, n10, c10, rfl, hme, hb⟩; have hB := step_call hB hb; replace hm := hm.below hb; clear hb hcs)
      | (go_at_call 47; (with_reducible refine (list_m _ _ _ M _ hme (HW.out.below hB).tz).mono ?_); rintro e w11 ⟨a11, n11, c11, rfl, hli, hb⟩; have hB := step_call hB hb; replace hm := hm.below hb; clear hb hme)
      | (go_at_call 49; (with_reducible refine (rmen_c _ _ _ L mm _ hm HMM).mono ?_); rintro e w12 ⟨rfl, hb⟩; have hB := step_call hB hb; replace hli := hli.below hb; clear hb hm)
      | (go_at_call 48; (with_reducible refine (rmembers_l mm M _ HM64.out HMB).mono ?_); rintro e w13 ⟨a13, n13, c13, rfl, hmb, hb⟩; have hB := step_call hB hb; replace hli := hli.below hb; clear hb)
      | (go_at_call 45; (with_reducible refine (equalI_yes _ _ _ _ _ _ _ _ hli hmb).mono ?_); rintro e w14 ⟨rfl, hb⟩; have hB := step_call hB hb; clear hb hli hmb))
    go_ret
    exact ⟨rfl, hB⟩
end Go.Proofs.YtadomogbakcokaaGreatDoor
