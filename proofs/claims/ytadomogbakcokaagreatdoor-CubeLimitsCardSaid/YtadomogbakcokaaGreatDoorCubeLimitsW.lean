/- The walk of CubeLimits. -/
import Derived.Test.YtadomogbakcokaaGreatDoorCvP
import Derived.Test.YtadomogbakcokaaGreatDoorCuLimQ
namespace Go.Proofs.YtadomogbakcokaaGreatDoor
open Go.RowKit Go.PlainAid
set_option linter.unusedVariables false
set_option linter.unusedSimpArgs false
set_option maxHeartbeats 4000000
set_option maxRecDepth 20000

theorem tmod14L (m : Nat) : ((m : Nat) : Int).tmod 14 = ((m % 14 : Nat) : Int) := by
  rw [Int.tmod_eq_emod_of_nonneg (Int.natCast_nonneg _)]; omega
theorem ofL_pair {i : Nat} (hi : i < 100) : ofL [2 * (i : Int), 2 * (i : Int) + 1] = [2 * i, 2 * i + 1] := by
  refine asc_ext (asc_ofL _) (pairC_ok hi).1 fun x => ?_
  rw [mem_ofL]
  show x < 4096 ∧ (x : Int) ∈ [2 * (i : Int), 2 * (i : Int) + 1] ↔ x ∈ [2 * i, 2 * i + 1]
  simp
  omega
theorem of_pair (i : Nat) (hi : i < 100) (l : List Nat) (w : World) (hl : Hid ([2 * i, 2 * i + 1] = l)) (g : Nat) (hg : g = w.heap.size) :
    Calls Tryz.prog 30 #[.slice (some ⟨g, 0, none⟩) 2 2] (w.alloc (.cells #[.int .i64 (2 * (i : Int)), .int .i64 (2 * (i : Int) + 1)] 3)) (SetPost (w.alloc (.cells #[.int .i64 (2 * (i : Int)), .int .i64 (2 * (i : Int) + 1)] 3)) l) := by
  subst hg
  exact of_lit w _ [2 * (i : Int), 2 * (i : Int) + 1] l 2 rfl rfl (by omega) ((ofL_pair hi).trans hl.out)
theorem limL_succ (i : Nat) : limL i ++ [pairC i] = limL (i + 1) := by unfold limL; rw [List.range_succ, List.map_append]; rfl
theorem limL_len (i : Nat) : (limL i).length = i := by unfold limL; simp
theorem cubeLimits_walk (o : Int) (w : World) (hW : Wld w) (ho : (Lit.int .u8 o).wf = true) :
    Calls Tryz.prog 13 #[.int .u8 o] w fun e w' => e = .returned (.bool true) ∧ Below w.heap.size w w' := by
  obtain ⟨m, rfl, hm⟩ := u8_of ho
  have HW := Lib.hid hW
  have ht := tmod14L m
  have hr : m % 14 < 14 := Nat.mod_lt _ (by omega)
  generalize m % 14 = r at ht hr
  have hsp := split_lim (n := r) (by omega)
  have HCV : Hid (coveredC (limL r) ([], []) = false) := covered_lim (by omega)
  have HLN : Hid (∀ i, (limL i).length = i) := limL_len
  have HLS : Hid (∀ i, limL i ++ [pairC i] = limL (i + 1)) := limL_succ
  have HSP := Lib.hid hsp
  clear hW ho hsp
  go_enter Tryz.func13, Tryz.ntmps13
  go_wp2_with (go_at_call 15; (with_reducible refine (awake_any _ HW.out).mono ?_); rintro e w0 ⟨rfl, hB0⟩; have HB0 := Lib.hid hB0; clear hB0)
  have hz0 := HB0.out.size
  go_loopw [3, 4, 13] (fun v3 v4 v wr => ∃ (j P : Nat) (out : List Cu), j ≤ r ∧ v = .int .i64 j ∧ v4 = .int .i64 (P : Nat) ∧ P ≤ 8192 ∧ Hid (P = 2 ^ j) ∧ Hid (out = limL j) ∧ out.length = j ∧ Hid (Co wr w0.heap.size v3 out) ∧ Hid (Below w0.heap.size w0 wr)) (fun _ _ v _ => r - (intOf v).toNat)
  case atStart => exact ⟨0, 1, [], Nat.zero_le _, rfl, rfl, by omega, rfl, rfl, rfl, Co.nil _ _, Below.refl _ _⟩
  case round =>
    obtain ⟨j, P, out, hj, rfl, rfl, hP, hPe, hout, hol, hco, hB⟩ := hrel
    have hzr := hB.out.size
    by_cases hjr : j < r
    · have hj0 : (0 : Int) ≤ (j : Int) := Int.natCast_nonneg _
      have hj1 : (j : Int) < (r : Int) := by omega
      have hP2 : P * 2 ≤ 8192 := by
        have h1 := hPe.out
        have h2 : 2 ^ (j + 1) ≤ 2 ^ 13 := Nat.pow_le_pow_right (by omega) (by omega)
        rw [Nat.pow_succ, ← h1] at h2
        exact h2
      have HP : Hid (P * 2 = 2 ^ (j + 1)) := by show _ = _; rw [Nat.pow_succ, hPe.out]
      have HO : Hid (out ++ [([2 * j, 2 * j + 1], [])] = limL (j + 1)) := by show _ = _; rw [hout.out]; exact HLS.out j
      obtain ⟨y, hy⟩ : ∃ y, [2 * j, 2 * j + 1] = y := ⟨_, rfl⟩
      have HY := Lib.hid hy
      rw [hy] at HO
      have hob : out.length + 1 ≤ 1000000000 := by omega
      have HOL : Hid ((out ++ [(y, [])]).length = j + 1) := by show _ = _; simp; omega
      have hj100 : j < 100 := by omega
      obtain ⟨oa, on, oc, rfl, -, -⟩ := hco.out.dn
      have hbx := Lib.hid ((Below.refl wr.heap.size wr).alloc (Nat.le_refl _) (.cells #[.int .i64 (2 * (j : Int)), .int .i64 (2 * (j : Int) + 1)] 3))
      clear hy hout hol hPe
      go_wp2_with (first
        | (go_at_call 30; refine (of_pair j hj100 y wr HY _ rfl).mono ?_; rintro e w1 ⟨a1, n1, c1, rfl, hs, hb⟩; have HB1 := Lib.hid (bel1 hb); have hco2 := hco.out.below HB1.out; have hCO := Lib.hid (Cs.one w1 a1 none n1 c1 0 0 (y, []) ⟨hs, Bs.nil _⟩ _ rfl); have hz1 := HB1.out.size; clear hb hs)
        | (at_builtin; refine wpList_append_co rfl (.tmp 16) (.tmp 25) rfl w0.heap.size _ out rfl (hco2.below ((Below.refl _ _).alloc (Nat.le_refl _) _)) _ 1 1 [(y, [])] rfl hCO.out hob (by simp; omega) ?_; intro v6 w6 hown6 hg6; have HO6 := Lib.hid hown6; have HB6 := Lib.hid (((hB.out.trans (HB1.out.mono hzr)).alloc (by omega) (.cells #[.slice a1 n1 c1, .slice none 0 0] 34)).grown hg6 (by simp; omega) (fun k hk => (hco2.lt k hk).1)); clear hown6 hg6))
      go_roundw
      case rel => exact ⟨j + 1, P * 2, out ++ [(y, [])], by omega, by go_num, by go_num, hP2, HP.out, HO.out, HOL.out, HO6.out, HB6.out⟩
      case measure => simp [intOf]; omega
    · have hje : j = r := by omega
      obtain ⟨oa, on, oc, rfl, hon, hcs⟩ := hco.out.dn
      have HE : Hid (out = limL r) := by show _ = _; rw [hout.out, hje]
      have HPr : Hid (P = 2 ^ r) := by show _ = _; rw [hPe.out, hje]
      have HCV2 : Hid (coveredC out ([], []) = false) := by show _ = _; rw [HE.out]; exact HCV.out
      have hBr := step_call HB0.out hB.out
      clear hon hout hol hPe hje
      by_cases hgt : 2000 < P
      · have ES : Hid (splitC ([], []) out = none) := by show _ = _; rw [HE.out]; exact HSP.out.1 (by rw [← HPr.out]; exact hgt)
        go_wp2_with (first
          | (go_at_call 42; (with_reducible refine (split_none _ _ _ _ _ _ _ _ _ _ _ _ (Cb.nil _) hcs (HW.out.below hBr).tz ES).mono ?_); rintro e w5 ⟨rfl, hb⟩; have hcs := hcs.below hb; have hBr := step_call hBr hb; clear hb)
          | (go_at_call 51; (with_reducible refine (covered_t _ _ _ _ _ _ _ _ _ _ _ _ _ (Cb.nil _) hcs (HW.out.below hBr).tz HCV2).mono ?_); rintro e w8 ⟨rfl, hb⟩; have hBr := step_call hBr hb; clear hb))
        go_ret
        exact ⟨rfl, hBr⟩
      · obtain ⟨got, hgot, hgl⟩ := HSP.out.2 (by rw [← HPr.out]; omega)
        have ES : Hid (splitC ([], []) out = some got) := by show _ = _; rw [HE.out]; exact hgot
        have HGL : Hid (got.length = P) := by show _ = _; rw [hgl, HPr.out]
        clear hgot hgl
        go_wp2_with (first
          | (go_at_call 42; (with_reducible refine (split_some _ _ _ _ _ _ _ _ _ _ _ _ _ (Cb.nil _) hcs (HW.out.below hBr).tz ES).mono ?_); rintro e w5 ⟨a5, n5, c5, rfl, hg, hb⟩; obtain rfl : n5 = P := (by rw [← hg.len, HGL.out]); have hcs := hcs.below hb; have hBr := step_call hBr hb; clear hb)
          | (go_at_call 51; (with_reducible refine (covered_t _ _ _ _ _ _ _ _ _ _ _ _ _ (Cb.nil _) hcs (HW.out.below hBr).tz HCV2).mono ?_); rintro e w8 ⟨rfl, hb⟩; have hBr := step_call hBr hb; clear hb))
        go_ret
        exact ⟨rfl, hBr⟩
end Go.Proofs.YtadomogbakcokaaGreatDoor
