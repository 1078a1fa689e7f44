/- Contracts: the reader's Set, where it refuses. -/
import Derived.Test.YtadomogbakcokaaGreatDoorCwE
namespace Go.Proofs.YtadomogbakcokaaGreatDoor
open Go.RowKit Go.PlainAid
set_option linter.unusedVariables false
set_option linter.unusedSimpArgs false
set_option maxHeartbeats 4000000
set_option maxRecDepth 20000

theorem rset_err (g : Nat) (x : Value) (e : Int) (W : World) (he : e ≠ 0) (h : At2T W g x (.int .i64 e) 143) :
    Calls Tryz.prog 84 #[.pointer (some ⟨g, 0, none⟩), .int .i64 4095] W fun r W' => r = .returned (.agg #[.slice none 0 0]) ∧ Below W.heap.size W W' := by
  obtain ⟨W0, hW0⟩ : ∃ W0, W.alloc (.cells #[.slice none 0 0] 32) = W0 := ⟨_, rfl⟩
  have hb0 : Below W.heap.size W W0 := by rw [← hW0]; exact (Below.refl _ _).alloc (Nat.le_refl _) _
  have hA4 : At1T W0 W.heap.size (.slice none 0 0) 32 := by rw [← hW0]; exact At1T.new _ _ _
  have q4 := hA4.cell
  have q5 := hA4.frz 0
  have HOK := Lib.hid (rok_any g x e false W0 (h.below hb0) (show (e == 0) = false by simpa using he))
  obtain ⟨k4, ek4⟩ : ∃ k4, W.heap.size = k4 := ⟨_, rfl⟩
  rw [ek4] at q4 q5
  have HB0 := Lib.hid hb0
  have HK4 := Lib.hid ek4
  clear h hA4 hb0
  go_enter Tryz.func84, Tryz.ntmps84
  go_upto_region 1 with fail
  clear hW0 ek4
  go_wp2_with (go_at_call 109; refine HOK.out.mono ?_; rintro e w1 ⟨rfl, hw⟩; rw [hw]; clear hw)
  have cs0 := set_eq (u := .slice none 0 0) q4
  refine bodyPost_ret (v := .agg #[.slice none 0 0]) (by simp [results, Tryz.results84, go_sem, cs0]) rfl ?_
  exact ⟨rfl, HB0.out.setCell (p := ⟨k4, 0, none⟩) (Nat.le_of_eq HK4.out) _⟩
theorem read_nil (w : World) : Calls Tryz.prog 110 #[.slice none 0 0] w fun e w' => ∃ b m d, e = .returned (.tuple #[.agg #[.slice b m d], .int .i64 0]) ∧ Bs w' b m d (readL []) ∧ Below w.heap.size w w' :=
  read_y none 0 0 [] w ⟨rfl, Nat.le_refl _, by omega, (fun x hx => by cases hx), .inl rfl⟩ (by omega) ⟨by simp, fun h => by simp at h⟩
theorem rset_noA (g : Nat) (a : Option Addr) (n c : Nat) (ps : List Nat) (W : World) (h : Rd W g a n c ps 0) (hn : n ≤ 100) (hno : ∀ v, ps[0]? = some v → v < 128 → ¬ v + 1 ≤ n) :
    Calls Tryz.prog 84 #[.pointer (some ⟨g, 0, none⟩), .int .i64 4095] W fun r W' => ∃ x e', e' ≠ 0 ∧ r = .returned (.agg #[.slice none 0 0]) ∧ At2T W' g x (.int .i64 e') 143 ∧ Kg g W W' := by
  have hg := h.1.lt
  obtain ⟨W0, hW0⟩ : ∃ W0, W.alloc (.cells #[.slice none 0 0] 32) = W0 := ⟨_, rfl⟩
  have hb0 : Below W.heap.size W W0 := by rw [← hW0]; exact (Below.refl _ _).alloc (Nat.le_refl _) _
  have hA4 : At1T W0 W.heap.size (.slice none 0 0) 32 := by rw [← hW0]; exact At1T.new _ _ _
  have hrd0 := h.below hb0
  have q0 := hrd0.1.at.1
  have q4 := hA4.cell
  have HA4 := Lib.hid hA4
  have HB0 := Lib.hid hb0
  have HRD0 := Lib.hid hrd0
  have HBY := Lib.hid (rbytes_no g a n c ps W0 hrd0 hn hno)
  have HNE : Hid (W.heap.size ≠ g) := fun e => by omega
  obtain ⟨k4, ek4⟩ : ∃ k4, W.heap.size = k4 := ⟨_, rfl⟩
  rw [ek4] at q4 HA4 HNE
  have HK4 := Lib.hid ek4
  clear h hn hno hrd0 hb0 hA4
  have tk0 : Hid True := trivial
  go_enter Tryz.func84, Tryz.ntmps84
  go_upto_region 1 with fail
  clear hW0 ek4
  go_wp2_with (first
    | (go_at_call 109; clear tk0; refine (rok_any g _ 0 true _ HRD0.out.1 rfl).mono ?_; have tk1 : Hid True := trivial; rintro e w1 ⟨rfl, rfl⟩)
    | (go_at_call 111; refine HBY.out.mono ?_; rintro e w1 ⟨e', he', rfl, hat, hk⟩; have HE' := Lib.hid he'; have HAT := Lib.hid hat; have HK1 := Lib.hid ((Kg.of HB0.out).tr hk); have HA1 := Lib.hid (HA4.out.kg hk HNE.out); clear q0 q4 hat hk he')
    | (go_at_call 110; refine (read_nil _).mono ?_; rintro e w2 ⟨a2, n2, c2, rfl, hs, hb⟩; have hbx := (Below.refl w2.heap.size w2).alloc (Nat.le_refl _) (.cells #[.slice a2 n2 c2] 32); have HAT2 := Lib.hid ((HAT.out.below hb).below hbx); have HA2 := Lib.hid ((HA1.out.below hb).below hbx); have q4 := HA2.out.cell; have q5 := HA2.out.frz 0; have HK2 := Lib.hid ((HK1.out.tr (Kg.of hb)).tr (Kg.of hbx)); clear hs hb hbx)
    | (go_at_call 109; clear tk1; refine (rok_any g _ _ false _ HAT2.out (show (e' == 0) = false by simpa using HE'.out)).mono ?_; rintro e w3 ⟨rfl, hw3⟩; rw [hw3]; clear hw3))
  have cs0 := set_eq (u := .slice none 0 0) q4
  refine bodyPost_ret (v := .agg #[.slice none 0 0]) (by simp [results, Tryz.results84, go_sem, cs0]) rfl ?_
  exact ⟨_, _, HE'.out, rfl, (Below.heap_setCell _ _ _ g HNE.out.symm).trans HAT2.out, kg_put HK2.out (Nat.le_of_eq HK4.out)⟩
theorem greatest_nil (w : World) : Calls Tryz.prog 112 #[.agg #[.slice none 0 0]] w fun e w' => e = .returned (.tuple #[.int .i64 0, .bool false]) ∧ Below w.heap.size w w' := greatest_any none 0 0 [] w (Bs.nil w)
theorem rset_noB (g : Nat) (a : Option Addr) (n c v : Nat) (ps : List Nat) (W : World) (h : Rd W g a n c ps 0) (hn : n ≤ 100) (h0 : ps[0]? = some v) (hv : v < 128) (hvn : v + 1 ≤ n) (hbad : ¬ readOK ((ps.drop 1).take v)) :
    Calls Tryz.prog 84 #[.pointer (some ⟨g, 0, none⟩), .int .i64 4095] W fun r W' => ∃ x e', e' ≠ 0 ∧ r = .returned (.agg #[.slice none 0 0]) ∧ At2T W' g x (.int .i64 e') 143 ∧ Kg g W W' := by
  have hg := h.1.lt
  obtain ⟨W0, hW0⟩ : ∃ W0, W.alloc (.cells #[.slice none 0 0] 32) = W0 := ⟨_, rfl⟩
  have hb0 : Below W.heap.size W W0 := by rw [← hW0]; exact (Below.refl _ _).alloc (Nat.le_refl _) _
  have hA4 : At1T W0 W.heap.size (.slice none 0 0) 32 := by rw [← hW0]; exact At1T.new _ _ _
  have hrd0 := h.below hb0
  have q0 := hrd0.1.at.1
  have q4 := hA4.cell
  have HA4 := Lib.hid hA4
  have HB0 := Lib.hid hb0
  have HRD0 := Lib.hid hrd0
  have HBY := Lib.hid (rbytes_yes g a n c v ps W0 hrd0 hn h0 hv hvn)
  have HBAD := Lib.hid hbad
  have HP5 : Hid (v ≤ 1000000) := by show _ ≤ _; omega
  have HNE : Hid (W.heap.size ≠ g) := fun e => by omega
  obtain ⟨k4, ek4⟩ : ∃ k4, W.heap.size = k4 := ⟨_, rfl⟩
  rw [ek4] at q4 HA4 HNE
  have HK4 := Lib.hid ek4
  clear h hn h0 hv hvn hbad hrd0 hb0 hA4
  have hne1 := HNE.out
  have hne2 := HNE.out.symm
  have tk0 : Hid True := trivial
  go_enter Tryz.func84, Tryz.ntmps84
  go_upto_region 1 with fail
  clear hW0 ek4
  go_wp2_with (first
    | (go_at_call 109; clear tk0; refine (rok_any g _ 0 true _ HRD0.out.1 rfl).mono ?_; have tk1 : Hid True := trivial; rintro e w1 ⟨rfl, rfl⟩)
    | (go_at_call 111; refine HBY.out.mono ?_; rintro e w1 ⟨b, m, a', c', rfl, hbw, hrd, hk⟩; have HBW := Lib.hid hbw; have HRD1 := Lib.hid hrd; have HK1 := Lib.hid ((Kg.of HB0.out).tr hk); have HA1 := Lib.hid (HA4.out.kg hk HNE.out); clear q0 q4 hbw hrd hk)
    | (go_at_call 110; (with_reducible refine (read_bad _ _ _ _ _ HBW.out HP5.out HBAD.out).mono ?_); rintro e w2 ⟨rfl, hb⟩; have hbx := (Below.refl w2.heap.size w2).alloc (Nat.le_refl _) (.cells #[.slice none 0 0] 32); have hA6 := At1T.new w2 (.slice none 0 0) 32; have q6 := hA6.cell; have HRD2 := Lib.hid ((HRD1.out.below hb).below hbx); have HA2 := Lib.hid ((HA1.out.below hb).below hbx); have HK2 := Lib.hid ((HK1.out.tr (Kg.of hb)).tr (Kg.of hbx)); clear hb hbx hA6)
    | (go_at_call 109; clear tk1; refine (rok_any g _ 0 true _ HRD2.out.1 rfl).mono ?_; rintro e w3 ⟨rfl, hw3⟩; rw [hw3]; clear hw3)
    | (go_at_call 112; refine (greatest_nil _).mono ?_; rintro e w3 ⟨rfl, hb⟩; have q4 := (HA2.out.below hb).cell; have q5 := (HA2.out.below hb).frz 0; have HA3 := Lib.hid (HA2.out.below hb); have r0 := (HRD2.out.1.below hb).frz 0; have r1 := (HRD2.out.1.below hb).frz 1; have r2 := (HRD2.out.1.below hb).at.1; have r3 := (HRD2.out.1.below hb).at.2.1; have HRD3 := Lib.hid (HRD2.out.1.below hb); have HK3 := Lib.hid (HK2.out.tr (Kg.of hb)); clear hb q6))
  have hk2 := (Kg.set g 1 (.int .i64 6) w3).tr (Kg.set g 0 (.slice a n c) _)
  have hA5 := HA3.out.kg hk2 hne1
  have cs0 := set_eq (u := .slice none 0 0) hA5.cell
  refine bodyPost_ret (v := .agg #[.slice none 0 0]) (by simp [results, Tryz.results84, go_sem, cs0]) rfl ?_
  exact ⟨_, 6, by decide, rfl, (Below.heap_setCell _ _ _ g hne2).trans ((HRD3.out.set1 (u := .int .i64 6)).set0 (u := .slice a n c)), kg_put (HK3.out.tr hk2) (Nat.le_of_eq HK4.out)⟩
theorem rset_no (g : Nat) (a : Option Addr) (n c : Nat) (ps : List Nat) (W : World) (h : Rd W g a n c ps 0) (hn : n ≤ 100) (hno : ∀ p r, ¬ Front ps p r) :
    Calls Tryz.prog 84 #[.pointer (some ⟨g, 0, none⟩), .int .i64 4095] W fun r W' => ∃ x e', e' ≠ 0 ∧ r = .returned (.agg #[.slice none 0 0]) ∧ At2T W' g x (.int .i64 e') 143 ∧ Kg g W W' := by
  by_cases hx : ∃ v, ps[0]? = some v ∧ v < 128 ∧ v + 1 ≤ n
  · obtain ⟨v, h0, hv, hvn⟩ := hx
    refine rset_noB g a n c v ps W h hn h0 hv hvn fun hok => ?_
    have hl := h.2.1.1
    cases ps with
    | nil => cases h0
    | cons b r =>
      obtain rfl : b = v := by simpa using h0
      simp only [List.drop_succ_cons, List.drop_zero] at hok
      simp only [List.length_cons] at hl
      refine hno (r.take b) (r.drop b) ⟨?_, hok, ?_⟩
      · rw [List.length_take]; omega
      · rw [List.take_append_drop, List.length_take, Nat.min_eq_left (by omega)]
  · exact rset_noA g a n c ps W h hn fun v h1 h2 h3 => hx ⟨v, h1, h2, h3⟩
end Go.Proofs.YtadomogbakcokaaGreatDoor
