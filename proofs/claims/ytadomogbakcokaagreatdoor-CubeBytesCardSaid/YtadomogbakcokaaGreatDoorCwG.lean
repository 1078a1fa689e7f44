/- Contracts: a cube is read. -/
import Derived.Test.YtadomogbakcokaaGreatDoorCwF
namespace Go.Proofs.YtadomogbakcokaaGreatDoor
open Go.RowKit Go.PlainAid
set_option linter.unusedVariables false
set_option linter.unusedSimpArgs false
set_option maxHeartbeats 4000000
set_option maxRecDepth 20000

theorem At2T.kgT {g k : Nat} {W W' : World} {x y : Value} {T : TypeId} (h : At2T W k x y T) (hk : Kg g W W') (hne : k ≠ g) : At2T W' k x y T := (hk.block k h.lt hne hne).trans h
theorem At2T.otherk {W : World} {g k j : Nat} {x y u : Value} {T : TypeId} (h : At2T W g x y T) (hk : g ≠ k) : At2T (W.setCell ⟨k, j, none⟩ u) g x y T := (Below.heap_setCell _ _ _ g hk).trans h
theorem frame_end {w W0 w1 w3 : World} {g k5 k2 : Nat} {x u v : Value} (h0 : Below w.heap.size w W0) (h1 : Below w.heap.size W0 w1) (hk : Kg g w1 w3) (hg : W0.heap.size ≤ g) (hk2 : w.heap.size = k2) (hk5 : w.heap.size ≤ k5) :
    Below w.heap.size w (((w3.setCell ⟨k5, 1, none⟩ x).setCell ⟨k2, 0, none⟩ u).setCell ⟨k2, 1, none⟩ v) := by
  have hg2 : w.heap.size ≤ g := Nat.le_trans h0.size hg
  have h2 : Below w.heap.size w1 w3 := But.below hk (Nat.le_trans h0.size h1.size) hg2 hg2
  exact ((((h0.trans h1).trans h2).setCell (p := ⟨k5, 1, none⟩) hk5 _).setCell (p := ⟨k2, 0, none⟩) (Nat.le_of_eq hk2) _).setCell (p := ⟨k2, 1, none⟩) (Nat.le_of_eq hk2) _
theorem cread_yes (a : Option Addr) (n c : Nat) (ps p r q : List Nat) (w : World) (h : Bw w a n c ps) (hz : Nz a n c) (hn : n ≤ 100) (hp : Front ps p r) (hq : Front r q []) :
    Calls Tryz.prog 53 #[.slice a n c] w fun e w' => ∃ a n c b m d, e = .returned (.tuple #[.agg #[.slice a n c, .slice b m d], .int .i64 0]) ∧ Cb w' ⟨a, n, c, b, m, d⟩ (readL p, readL q) ∧ Below w.heap.size w w' := by
  have hrl : r.length ≤ 100 := by have := (front_get hp h.1).2.2.2.1; omega
  obtain ⟨W0, hW0⟩ : ∃ W0, w.alloc (.cells #[.slice none 0 0, .slice none 0 0] 34) = W0 := ⟨_, rfl⟩
  have hb0 : Below w.heap.size w W0 := by rw [← hW0]; exact (Below.refl _ _).alloc (Nat.le_refl _) _
  have hA2 : At2T W0 w.heap.size (.slice none 0 0) (.slice none 0 0) 34 := by rw [← hW0]; exact At2T.new _ _ _ _
  have HNR := Lib.hid (reader_new a n c ps W0 (h.below hb0) hz (by omega))
  have HK2 : Hid (w.heap.size < W0.heap.size) := hA2.lt
  obtain ⟨k2, ek2⟩ : ∃ k2, w.heap.size = k2 := ⟨_, rfl⟩
  rw [ek2] at hA2 HK2
  have HA2 := Lib.hid hA2
  have HEK := Lib.hid ek2
  have HB0 := Lib.hid hb0
  obtain ⟨s, es⟩ : ∃ s : List Nat, [] = s := ⟨_, rfl⟩
  rw [es] at hq
  have HTT : Hid (decide (0 < s.length) = false) := by rw [← es]; rfl
  have HN := Lib.hid hn
  have HNR2 := Lib.hid hrl
  have HFP := Lib.hid hp
  have HFQ := Lib.hid hq
  clear h hz hn hp hq hrl es hb0 hA2
  have tk0 : Hid True := trivial
  go_enter Tryz.func53, Tryz.ntmps53
  go_upto_region 1 with fail
  clear hW0 ek2
  go_wp2_with (first
    | (go_at_call 83; refine HNR.out.mono ?_; rintro e w1 ⟨g, a1, c1, rfl, hg, hrd, hb⟩; have HG := Lib.hid hg; have HRD := Lib.hid hrd; have HB1 := Lib.hid (hb.mono HB0.out.size); have HA21 := Lib.hid (HA2.out.below hb); have HN2 : Hid (k2 ≠ g) := (fun e => by have := HK2.out; omega); clear hg hrd hb)
    | (go_at_call 84; clear tk0; refine (rset_yes g a1 n c1 ps p r _ HRD.out HN.out HFP.out).mono ?_; have tk1 : Hid True := trivial; rintro e w2 ⟨b1, m1, d1, a2, c2, rfl, hs, hrd, hk⟩; have hbx := (Below.refl w2.heap.size w2).alloc (Nat.le_refl _) (.cells #[.slice b1 m1 d1, .slice none 0 0] 34); have hA5 := At2T.new w2 (.slice b1 m1 d1) (.slice none 0 0) 34; have HS1 := Lib.hid (hs.below hbx); have HRD2 := Lib.hid (hrd.below hbx); have HK1 := Lib.hid (hk.tr (Kg.of hbx)); have HA22 := Lib.hid ((HA21.out.kgT hk HN2.out).below hbx); have HNK : Hid (k2 ≠ w2.heap.size) := (fun e => by have := hk.size; have := HA21.out.lt; omega); have HK5 : Hid (w.heap.size ≤ w2.heap.size) := (by have := hk.size; have := HA21.out.lt; have := HEK.out; show _ ≤ _; omega); have HN5 : Hid (w2.heap.size ≠ g) := (fun e => by have := hk.size; have := HRD.out.1.lt; omega); have HA5 := Lib.hid hA5; clear hs hrd hk hbx hA5)
    | (go_at_call 84; clear tk1; refine (rset_yes g a2 r.length c2 r q s _ HRD2.out HNR2.out HFQ.out).mono ?_; rintro e w3 ⟨b3, m3, d3, a4, c4, rfl, hs3, hrd, hk⟩; have HK3 := Lib.hid (HK1.out.tr hk); have hA5 := HA5.out.kgT hk HN5.out; have q5 := hA5.at.2.1; have q6 := hA5.frz 1; have HA53 := Lib.hid hA5; have HA23 := Lib.hid (HA22.out.kgT hk HN2.out); have HAT3 := Lib.hid (At2T.otherk (u := .slice b3 m3 d3) (j := 1) hrd.1 HN5.out.symm); have HS3 := Lib.hid hs3; have HS13 := Lib.hid (HS1.out.kg hk HRD2.out.1 (by decide)); clear hs3 hrd hk hA5)
    | (go_at_call 85; refine (rend_ok g a4 s.length c4 _ _ HAT3.out HTT.out).mono ?_; rintro e w4 ⟨rfl, hw4⟩; rw [hw4]; clear hw4; have hA2' := HA23.out.otherk (u := .slice b3 m3 d3) (j := 1) HNK.out; have s0 := hA2'.at.1; have s1 := hA2'.at.2.1; have s2 := hA2'.frz 0; have s3 := hA2'.frz 1; have hA5' := HA53.out.set1 (u := .slice b3 m3 d3); have t0 := hA5'.at.1; have t1 := hA5'.at.2.1))
  have hF := hA2'.own (u := .slice b1 m1 d1) (v := .slice b3 m3 d3)
  have cs0 := hF.at.1
  have cs1 := hF.at.2.1
  refine bodyPost_ret (v := .tuple #[.agg #[.slice b1 m1 d1, .slice b3 m3 d3], .int .i64 0]) (by simp [results, Tryz.results53, go_sem, cs0, cs1]) rfl ?_
  have hc : Cb w3 ⟨b1, m1, d1, b3, m3, d3⟩ (readL p, readL q) := ⟨HS13.out, HS3.out⟩
  exact ⟨_, _, _, _, _, _, rfl, (hc.put HA53.out (by decide) 1 (.slice b3 m3 d3)).own2 hA2' (by decide), frame_end HB0.out HB1.out HK3.out HG.out HEK.out HK5.out⟩
theorem cread_noA (a : Option Addr) (n c : Nat) (ps : List Nat) (w : World) (h : Bw w a n c ps) (hz : Nz a n c) (hn : n ≤ 100) (hno : ∀ p r, ¬ Front ps p r) :
    Calls Tryz.prog 53 #[.slice a n c] w fun e w' => e = .returned (.tuple #[.agg #[.slice none 0 0, .slice none 0 0], .int .i64 6]) ∧ Below w.heap.size w w' := by
  obtain ⟨W0, hW0⟩ : ∃ W0, w.alloc (.cells #[.slice none 0 0, .slice none 0 0] 34) = W0 := ⟨_, rfl⟩
  have hb0 : Below w.heap.size w W0 := by rw [← hW0]; exact (Below.refl _ _).alloc (Nat.le_refl _) _
  have hA2 : At2T W0 w.heap.size (.slice none 0 0) (.slice none 0 0) 34 := by rw [← hW0]; exact At2T.new _ _ _ _
  have HNR := Lib.hid (reader_new a n c ps W0 (h.below hb0) hz (by omega))
  have HK2 : Hid (w.heap.size < W0.heap.size) := hA2.lt
  obtain ⟨k2, ek2⟩ : ∃ k2, w.heap.size = k2 := ⟨_, rfl⟩
  rw [ek2] at hA2 HK2
  have HA2 := Lib.hid hA2
  have HEK := Lib.hid ek2
  have HB0 := Lib.hid hb0
  have HN := Lib.hid hn
  have HNO := Lib.hid hno
  clear h hz hn hno hb0 hA2
  have tk0 : Hid True := trivial
  go_enter Tryz.func53, Tryz.ntmps53
  go_upto_region 1 with fail
  clear hW0 ek2
  go_wp2_with (first
    | (go_at_call 83; refine HNR.out.mono ?_; rintro e w1 ⟨g, a1, c1, rfl, hg, hrd, hb⟩; have HG := Lib.hid hg; have HRD := Lib.hid hrd; have HB1 := Lib.hid (hb.mono HB0.out.size); have HA21 := Lib.hid (HA2.out.below hb); have HN2 : Hid (k2 ≠ g) := (fun e => by have := HK2.out; omega); clear hg hrd hb)
    | (go_at_call 84; clear tk0; refine (rset_no g a1 n c1 ps _ HRD.out HN.out HNO.out).mono ?_; have tk1 : Hid True := trivial; rintro e w2 ⟨x, e', he', rfl, hat, hk⟩; have hbx := (Below.refl w2.heap.size w2).alloc (Nat.le_refl _) (.cells #[.slice none 0 0, .slice none 0 0] 34); have hA5 := At2T.new w2 (.slice none 0 0) (.slice none 0 0) 34; have HE' := Lib.hid he'; have HAT2 := Lib.hid (hat.below hbx); have HK1 := Lib.hid (hk.tr (Kg.of hbx)); have HA22 := Lib.hid ((HA21.out.kgT hk HN2.out).below hbx); have HNK : Hid (k2 ≠ w2.heap.size) := (fun e => by have := hk.size; have := HA21.out.lt; omega); have HK5 : Hid (w.heap.size ≤ w2.heap.size) := (by have := hk.size; have := HA21.out.lt; have := HEK.out; show _ ≤ _; omega); have HN5 : Hid (w2.heap.size ≠ g) := (fun e => by have := hk.size; have := HRD.out.1.lt; omega); have HA5 := Lib.hid hA5; clear hat hk hbx hA5 he')
    | (go_at_call 84; clear tk1; refine (rset_err g x e' _ HE'.out HAT2.out).mono ?_; rintro e w3 ⟨rfl, hb⟩; have HK3 := Lib.hid (HK1.out.tr (Kg.of hb)); have hA5 := HA5.out.kgT (Kg.of hb) HN5.out; have q5 := hA5.at.2.1; have q6 := hA5.frz 1; have HA53 := Lib.hid hA5; have HA23 := Lib.hid (HA22.out.kgT (Kg.of hb) HN2.out); have HAT3 := Lib.hid (At2T.otherk (u := .slice none 0 0) (j := 1) (HAT2.out.below hb) HN5.out.symm); clear hb hA5)
    | (go_at_call 85; refine (rend_err g _ e' _ HE'.out HAT3.out).mono ?_; rintro e w4 ⟨rfl, hw4⟩; rw [hw4]; clear hw4; have he' := HE'.out; have hA2' := HA23.out.otherk (u := .slice none 0 0) (j := 1) HNK.out; have s0 := hA2'.at.1; have s1 := hA2'.at.2.1; have s2 := hA2'.frz 0; have s3 := hA2'.frz 1; have hA5' := HA53.out.set1 (u := .slice none 0 0); have t0 := hA5'.at.1; have t1 := hA5'.at.2.1))
  have hF := hA2'.own (u := .slice none 0 0) (v := .slice none 0 0)
  have cs0 := hF.at.1
  have cs1 := hF.at.2.1
  refine bodyPost_ret (v := .tuple #[.agg #[.slice none 0 0, .slice none 0 0], .int .i64 6]) (by simp [results, Tryz.results53, go_sem, cs0, cs1]) rfl ?_
  exact ⟨rfl, frame_end HB0.out HB1.out HK3.out HG.out HEK.out HK5.out⟩
theorem cread_noB (a : Option Addr) (n c : Nat) (ps p r : List Nat) (w : World) (h : Bw w a n c ps) (hz : Nz a n c) (hn : n ≤ 100) (hp : Front ps p r) (hno : ∀ q s, ¬ Front r q s) :
    Calls Tryz.prog 53 #[.slice a n c] w fun e w' => e = .returned (.tuple #[.agg #[.slice none 0 0, .slice none 0 0], .int .i64 6]) ∧ Below w.heap.size w w' := by
  have hrl : r.length ≤ 100 := by have := (front_get hp h.1).2.2.2.1; omega
  obtain ⟨W0, hW0⟩ : ∃ W0, w.alloc (.cells #[.slice none 0 0, .slice none 0 0] 34) = W0 := ⟨_, rfl⟩
  have hb0 : Below w.heap.size w W0 := by rw [← hW0]; exact (Below.refl _ _).alloc (Nat.le_refl _) _
  have hA2 : At2T W0 w.heap.size (.slice none 0 0) (.slice none 0 0) 34 := by rw [← hW0]; exact At2T.new _ _ _ _
  have HNR := Lib.hid (reader_new a n c ps W0 (h.below hb0) hz (by omega))
  have HK2 : Hid (w.heap.size < W0.heap.size) := hA2.lt
  obtain ⟨k2, ek2⟩ : ∃ k2, w.heap.size = k2 := ⟨_, rfl⟩
  rw [ek2] at hA2 HK2
  have HA2 := Lib.hid hA2
  have HEK := Lib.hid ek2
  have HB0 := Lib.hid hb0
  have HN := Lib.hid hn
  have HNR2 := Lib.hid hrl
  have HFP := Lib.hid hp
  have HNO := Lib.hid hno
  clear h hz hn hp hrl hno hb0 hA2
  have tk0 : Hid True := trivial
  go_enter Tryz.func53, Tryz.ntmps53
  go_upto_region 1 with fail
  clear hW0 ek2
  go_wp2_with (first
    | (go_at_call 83; refine HNR.out.mono ?_; rintro e w1 ⟨g, a1, c1, rfl, hg, hrd, hb⟩; have HG := Lib.hid hg; have HRD := Lib.hid hrd; have HB1 := Lib.hid (hb.mono HB0.out.size); have HA21 := Lib.hid (HA2.out.below hb); have HN2 : Hid (k2 ≠ g) := (fun e => by have := HK2.out; omega); clear hg hrd hb)
    | (go_at_call 84; clear tk0; refine (rset_yes g a1 n c1 ps p r _ HRD.out HN.out HFP.out).mono ?_; have tk1 : Hid True := trivial; rintro e w2 ⟨b1, m1, d1, a2, c2, rfl, hs, hrd, hk⟩; have hbx := (Below.refl w2.heap.size w2).alloc (Nat.le_refl _) (.cells #[.slice b1 m1 d1, .slice none 0 0] 34); have hA5 := At2T.new w2 (.slice b1 m1 d1) (.slice none 0 0) 34; have HS1 := Lib.hid (hs.below hbx); have HRD2 := Lib.hid (hrd.below hbx); have HK1 := Lib.hid (hk.tr (Kg.of hbx)); have HA22 := Lib.hid ((HA21.out.kgT hk HN2.out).below hbx); have HNK : Hid (k2 ≠ w2.heap.size) := (fun e => by have := hk.size; have := HA21.out.lt; omega); have HK5 : Hid (w.heap.size ≤ w2.heap.size) := (by have := hk.size; have := HA21.out.lt; have := HEK.out; show _ ≤ _; omega); have HN5 : Hid (w2.heap.size ≠ g) := (fun e => by have := hk.size; have := HRD.out.1.lt; omega); have HA5 := Lib.hid hA5; clear hs hrd hk hbx hA5)
    | (go_at_call 84; clear tk1; refine (rset_no g a2 r.length c2 r _ HRD2.out HNR2.out HNO.out).mono ?_; rintro e w3 ⟨x, e', he', rfl, hat, hk⟩; have HE' := Lib.hid he'; have HK3 := Lib.hid (HK1.out.tr hk); have hA5 := HA5.out.kgT hk HN5.out; have q5 := hA5.at.2.1; have q6 := hA5.frz 1; have HA53 := Lib.hid hA5; have HA23 := Lib.hid (HA22.out.kgT hk HN2.out); have HAT3 := Lib.hid (At2T.otherk (u := .slice none 0 0) (j := 1) hat HN5.out.symm); clear hat hk he' hA5)
    | (go_at_call 85; refine (rend_err g _ e' _ HE'.out HAT3.out).mono ?_; rintro e w4 ⟨rfl, hw4⟩; rw [hw4]; clear hw4; have he' := HE'.out; have hA2' := HA23.out.otherk (u := .slice none 0 0) (j := 1) HNK.out; have s0 := hA2'.at.1; have s1 := hA2'.at.2.1; have s2 := hA2'.frz 0; have s3 := hA2'.frz 1; have hA5' := HA53.out.set1 (u := .slice none 0 0); have t0 := hA5'.at.1; have t1 := hA5'.at.2.1))
  have hF := hA2'.own (u := .slice none 0 0) (v := .slice none 0 0)
  have cs0 := hF.at.1
  have cs1 := hF.at.2.1
  refine bodyPost_ret (v := .tuple #[.agg #[.slice none 0 0, .slice none 0 0], .int .i64 6]) (by simp [results, Tryz.results53, go_sem, cs0, cs1]) rfl ?_
  exact ⟨rfl, frame_end HB0.out HB1.out HK3.out HG.out HEK.out HK5.out⟩
theorem cread_noC (a : Option Addr) (n c : Nat) (ps p r q s : List Nat) (w : World) (h : Bw w a n c ps) (hz : Nz a n c) (hn : n ≤ 100) (hp : Front ps p r) (hq : Front r q s) (hs : s ≠ []) :
    Calls Tryz.prog 53 #[.slice a n c] w fun e w' => e = .returned (.tuple #[.agg #[.slice none 0 0, .slice none 0 0], .int .i64 6]) ∧ Below w.heap.size w w' := by
  have hrl : r.length ≤ 100 := by have := (front_get hp h.1).2.2.2.1; omega
  obtain ⟨W0, hW0⟩ : ∃ W0, w.alloc (.cells #[.slice none 0 0, .slice none 0 0] 34) = W0 := ⟨_, rfl⟩
  have hb0 : Below w.heap.size w W0 := by rw [← hW0]; exact (Below.refl _ _).alloc (Nat.le_refl _) _
  have hA2 : At2T W0 w.heap.size (.slice none 0 0) (.slice none 0 0) 34 := by rw [← hW0]; exact At2T.new _ _ _ _
  have HNR := Lib.hid (reader_new a n c ps W0 (h.below hb0) hz (by omega))
  have HK2 : Hid (w.heap.size < W0.heap.size) := hA2.lt
  obtain ⟨k2, ek2⟩ : ∃ k2, w.heap.size = k2 := ⟨_, rfl⟩
  rw [ek2] at hA2 HK2
  have HA2 := Lib.hid hA2
  have HEK := Lib.hid ek2
  have HB0 := Lib.hid hb0
  have HTT : Hid (decide (0 < s.length) = true) := decide_eq_true (List.length_pos_iff.2 hs)
  have HN := Lib.hid hn
  have HNR2 := Lib.hid hrl
  have HFP := Lib.hid hp
  have HFQ := Lib.hid hq
  clear h hz hn hp hq hrl hs hb0 hA2
  have tk0 : Hid True := trivial
  go_enter Tryz.func53, Tryz.ntmps53
  go_upto_region 1 with fail
  clear hW0 ek2
  go_wp2_with (first
    | (go_at_call 83; refine HNR.out.mono ?_; rintro e w1 ⟨g, a1, c1, rfl, hg, hrd, hb⟩; have HG := Lib.hid hg; have HRD := Lib.hid hrd; have HB1 := Lib.hid (hb.mono HB0.out.size); have HA21 := Lib.hid (HA2.out.below hb); have HN2 : Hid (k2 ≠ g) := (fun e => by have := HK2.out; omega); clear hg hrd hb)
    | (go_at_call 84; clear tk0; refine (rset_yes g a1 n c1 ps p r _ HRD.out HN.out HFP.out).mono ?_; have tk1 : Hid True := trivial; rintro e w2 ⟨b1, m1, d1, a2, c2, rfl, hs, hrd, hk⟩; have hbx := (Below.refl w2.heap.size w2).alloc (Nat.le_refl _) (.cells #[.slice b1 m1 d1, .slice none 0 0] 34); have hA5 := At2T.new w2 (.slice b1 m1 d1) (.slice none 0 0) 34; have HS1 := Lib.hid (hs.below hbx); have HRD2 := Lib.hid (hrd.below hbx); have HK1 := Lib.hid (hk.tr (Kg.of hbx)); have HA22 := Lib.hid ((HA21.out.kgT hk HN2.out).below hbx); have HNK : Hid (k2 ≠ w2.heap.size) := (fun e => by have := hk.size; have := HA21.out.lt; omega); have HK5 : Hid (w.heap.size ≤ w2.heap.size) := (by have := hk.size; have := HA21.out.lt; have := HEK.out; show _ ≤ _; omega); have HN5 : Hid (w2.heap.size ≠ g) := (fun e => by have := hk.size; have := HRD.out.1.lt; omega); have HA5 := Lib.hid hA5; clear hs hrd hk hbx hA5)
    | (go_at_call 84; clear tk1; refine (rset_yes g a2 r.length c2 r q s _ HRD2.out HNR2.out HFQ.out).mono ?_; rintro e w3 ⟨b3, m3, d3, a4, c4, rfl, hs3, hrd, hk⟩; have HK3 := Lib.hid (HK1.out.tr hk); have hA5 := HA5.out.kgT hk HN5.out; have q5 := hA5.at.2.1; have q6 := hA5.frz 1; have HA53 := Lib.hid hA5; have HA23 := Lib.hid (HA22.out.kgT hk HN2.out); have HAT3 := Lib.hid (At2T.otherk (u := .slice b3 m3 d3) (j := 1) hrd.1 HN5.out.symm); have HS3 := Lib.hid hs3; have HS13 := Lib.hid (HS1.out.kg hk HRD2.out.1 (by decide)); clear hs3 hrd hk hA5)
    | (go_at_call 85; refine (rend_ok g a4 s.length c4 _ _ HAT3.out HTT.out).mono ?_; rintro e w4 ⟨rfl, hw4⟩; rw [hw4]; clear hw4; have hA2' := HA23.out.otherk (u := .slice b3 m3 d3) (j := 1) HNK.out; have s0 := hA2'.at.1; have s1 := hA2'.at.2.1; have s2 := hA2'.frz 0; have s3 := hA2'.frz 1; have hA5' := HA53.out.set1 (u := .slice b3 m3 d3); have t0 := hA5'.at.1; have t1 := hA5'.at.2.1))
  have hF := hA2'.own (u := .slice none 0 0) (v := .slice none 0 0)
  have cs0 := hF.at.1
  have cs1 := hF.at.2.1
  refine bodyPost_ret (v := .tuple #[.agg #[.slice none 0 0, .slice none 0 0], .int .i64 6]) (by simp [results, Tryz.results53, go_sem, cs0, cs1]) rfl ?_
  exact ⟨rfl, frame_end HB0.out HB1.out HK3.out HG.out HEK.out HK5.out⟩
theorem cread_no (a : Option Addr) (n c : Nat) (ps : List Nat) (w : World) (h : Bw w a n c ps) (hz : Nz a n c) (hn : n ≤ 100) (hno : ∀ p r q, Front ps p r → ¬ Front r q []) :
    Calls Tryz.prog 53 #[.slice a n c] w fun e w' => e = .returned (.tuple #[.agg #[.slice none 0 0, .slice none 0 0], .int .i64 6]) ∧ Below w.heap.size w w' := by
  by_cases h1 : ∃ p r, Front ps p r
  · obtain ⟨p, r, hp⟩ := h1
    by_cases h2 : ∃ q s, Front r q s
    · obtain ⟨q, s, hq⟩ := h2
      exact cread_noC a n c ps p r q s w h hz hn hp hq (fun e => hno p r q hp (e ▸ hq))
    · exact cread_noB a n c ps p r w h hz hn hp (fun q s hq => h2 ⟨q, s, hq⟩)
  · exact cread_noA a n c ps w h hz hn (fun p r hp => h1 ⟨p, r, hp⟩)
end Go.Proofs.YtadomogbakcokaaGreatDoor
