/- Contracts: the reference's Check and Spans; the law's spans, few, Fit. -/
import Derived.Test.YtgbonpmakahibaaDoorDaH
import Derived.Test.YtgbonpmakahibaaDoorDaU
namespace Go.Proofs.YtgbonpmakahibaaDoor.Dy
open Go.RowKit Go.PlainAid
set_option linter.unusedVariables false
set_option linter.unusedSimpArgs false
set_option maxHeartbeats 2000000

theorem ret_i {x y : Int} (h : x = y) : Ending.returned (.int .i64 x) = .returned (.int .i64 y) := by rw [h]
set_option maxRecDepth 100000 in
theorem rcheck_any (a : Option Addr) (n cap : Nat) (l : List (Int × Int)) (w : World) (h : Ds w a n cap l) :
    Calls Tryd.prog 16 #[.slice a n cap] w fun e w' => e = .returned (.int .i64 (errL l)) ∧ RowKit.Below w.heap.size w w' := by
  obtain ⟨hl, hc, hm, h4⟩ := h
  unfold maxLen at hm
  have H4 := Lib.hid h4
  have HL := Lib.hid hl
  clear h4 hl
  go_enter Tryd.func16, Tryd.ntmps16
  go_wp2_with fail
  go_loopw [7] (fun v wr => ∃ j : Nat, j ≤ n ∧ v = .int .i64 j ∧ Hid (errL l = errL (l.drop j)) ∧ RowKit.Below w.heap.size w wr) (fun v _ => n - (intOf v).toNat)
  case atStart => exact ⟨0, by omega, rfl, rfl, RowKit.Below.refl _ _⟩
  case round =>
    obtain ⟨j, hj, rfl, hpre, hbw⟩ := hrel
    have hz := hbw.size
    by_cases hjn : j < n
    · rcases H4.out with h0 | ⟨b, o, rfl, hb, hcell⟩
      · omega
      obtain ⟨⟨p1, p2⟩, hp⟩ : ∃ p, l[j]? = some p := ⟨_, List.getElem?_eq_getElem (by rw [HL.out]; exact hjn)⟩
      obtain ⟨c1, c2⟩ := hcell j _ hp
      have c1 := (hbw.cell (p := ⟨b, _, none⟩) hb).trans c1
      have c2 := (hbw.cell (p := ⟨b, _, none⟩) hb).trans c2
      dsimp only at c1 c2
      have hj0 : (0 : Int) ≤ (j : Int) := Int.natCast_nonneg _
      have hj1 : (j : Int) < (n : Int) := by omega
      have hb2 := hbw.alloc hz (.cells #[.int .i64 p1, .int .i64 p2] 69)
      have hcase : p1 < 0 ∨ (0 ≤ p1 ∧ 30000 < p1) ∨ (0 ≤ p1 ∧ p1 ≤ 30000 ∧ p2 < 0) ∨ (0 ≤ p1 ∧ p1 ≤ 30000 ∧ 0 ≤ p2 ∧ 30000 < p2) ∨ (0 ≤ p1 ∧ p1 ≤ 30000 ∧ 0 ≤ p2 ∧ p2 ≤ 30000 ∧ p2 < p1) ∨ (0 ≤ p1 ∧ p1 ≤ 30000 ∧ 0 ≤ p2 ∧ p2 ≤ 30000 ∧ p1 ≤ p2) := by omega
      have e2 : (p1 < 0 ∨ 30000 < p1 ∨ p2 < 0 ∨ 30000 < p2) → Hid (errL l = 2) := fun hh => by
        have e : errP (p1, p2) = 2 := by unfold errP; rw [if_pos (by dsimp only; omega)]
        exact (errL_here hpre.out hp (by rw [e]; omega)).trans e
      have e1 : (0 ≤ p1 ∧ p1 ≤ 30000 ∧ 0 ≤ p2 ∧ p2 ≤ 30000 ∧ p2 < p1) → Hid (errL l = 1) := fun hh => by
        have e : errP (p1, p2) = 1 := by unfold errP; rw [if_neg (by dsimp only; omega), if_pos (by dsimp only; omega)]
        exact (errL_here hpre.out hp (by rw [e]; omega)).trans e
      have e0 : (0 ≤ p1 ∧ p1 ≤ 30000 ∧ 0 ≤ p2 ∧ p2 ≤ 30000 ∧ p1 ≤ p2) → Hid (errL l = errL (l.drop (j + 1))) := fun hh => by
        have e : errP (p1, p2) = 0 := by unfold errP; rw [if_neg (by dsimp only; omega), if_neg (by dsimp only; omega)]
        show errL l = _
        rw [hpre.out, errL_step hp, if_pos e]
      clear hcell hp hpre
      rcases hcase with g | ⟨g1, g⟩ | ⟨g1, g2, g⟩ | ⟨g1, g2, g3, g⟩ | ⟨g1, g2, g3, g4, g⟩ | ⟨g1, g2, g3, g4, g⟩
      · have HE := e2 (by omega)
        clear e0 e1 e2
        go_wp2_with fail
        all_goals first | (exfalso; omega) | (go_ret; exact ⟨ret_i HE.out.symm, hb2⟩)
      · have HE := e2 (by omega)
        clear e0 e1 e2
        go_wp2_with fail
        all_goals first | (exfalso; omega) | (go_ret; exact ⟨ret_i HE.out.symm, hb2⟩)
      · have HE := e2 (by omega)
        clear e0 e1 e2
        go_wp2_with fail
        all_goals first | (exfalso; omega) | (go_ret; exact ⟨ret_i HE.out.symm, hb2⟩)
      · have HE := e2 (by omega)
        clear e0 e1 e2
        go_wp2_with fail
        all_goals first | (exfalso; omega) | (go_ret; exact ⟨ret_i HE.out.symm, hb2⟩)
      · have HE := e1 (by omega)
        clear e0 e1 e2
        go_wp2_with fail
        all_goals first | (exfalso; omega) | (go_ret; exact ⟨ret_i HE.out.symm, hb2⟩)
      · have HE := e0 (by omega)
        clear e0 e1 e2
        go_wp2_with fail
        all_goals first | (exfalso; omega) | skip
        go_roundw
        case rel => exact ⟨j + 1, by omega, by go_num, HE.out, hb2⟩
        case measure => simp [intOf]; omega
    · obtain rfl : j = n := by omega
      have HE : Hid (errL l = 0) := by
        have := hpre.out
        rw [List.drop_of_length_le (by rw [HL.out]; exact Nat.le_refl _)] at this
        exact this
      clear hpre
      go_wp2_with fail
      go_ret
      exact ⟨ret_i HE.out.symm, hbw⟩

theorem infoPair : (Tryd.prog.info? 69).map (fun i => (i.zero, i.size, i.bytes)) = some (some (.agg #[.int .i64 0, .int .i64 0]), 2, 16) := by kernel_rfl
set_option maxRecDepth 100000 in
theorem lspans_any (a : Option Addr) (n cap : Nat) (l : List (Int × Int)) (w : World) (h : Ds w a n cap l) (hn : n ≤ 1000) :
    Calls Tryd.prog 15 #[.slice a n cap] w fun e w' => ∃ v', e = .returned v' ∧ RowKit.Below w.heap.size w w' ∧ Os 60 w' w.heap.size v' l := by
  obtain ⟨i0, hi, hz0, hz1, hz2⟩ := info_parts infoSpan
  obtain ⟨hl, hc, hm, h4⟩ := h
  unfold maxLen at hm
  have H4 := Lib.hid h4
  have HL := Lib.hid hl
  clear h4 hl
  go_enter Tryd.func15, Tryd.ntmps15
  go_wp2_with fail
  go_loopw [3, 8] (fun v3 v8 wr => ∃ j : Nat, j ≤ n ∧ v8 = .int .i64 j ∧ Hid ((l.take j).length = j) ∧ Os 60 wr w.heap.size v3 (l.take j) ∧ RowKit.Below w.heap.size w wr) (fun _ v _ => n - (intOf v).toNat)
  case atStart => exact ⟨0, by omega, rfl, rfl, Os.nil _ _ _, RowKit.Below.refl _ _⟩
  case round =>
    obtain ⟨j, hj, rfl, htl, hown, hbel⟩ := hrel
    have hz := hbel.size
    by_cases hjn : j < n
    · rcases H4.out with h0 | ⟨b, o, rfl, hb, hcell⟩
      · omega
      obtain ⟨⟨p1, p2⟩, hp⟩ : ∃ p, l[j]? = some p := ⟨_, List.getElem?_eq_getElem (by rw [HL.out]; exact hjn)⟩
      obtain ⟨c1, c2⟩ := hcell j _ hp
      have c1 := (hbel.cell (p := ⟨b, _, none⟩) hb).trans c1
      have c2 := (hbel.cell (p := ⟨b, _, none⟩) hb).trans c2
      dsimp only at c1 c2
      have hj0 : (0 : Int) ≤ (j : Int) := Int.natCast_nonneg _
      have hj1 : (j : Int) < (n : Int) := by omega
      have HT : Hid (l.take j ++ [(p1, p2)] = l.take (j + 1)) := (take_snoc' hp).symm
      have HTL : Hid ((l.take (j + 1)).length = j + 1) := by show _ = _; rw [List.length_take, HL.out]; omega
      have hown1 := (hown.alloc (.cells #[.int .i64 p1, .int .i64 p2] 69)).alloc (.cells #[.int .i64 p1, .int .i64 p2] 60)
      have hb2 := (hbel.alloc hz (.cells #[.int .i64 p1, .int .i64 p2] 69)).alloc (by simp; omega) (.cells #[.int .i64 p1, .int .i64 p2] 60)
      clear hcell hp
      go_wp2_with (at_builtin; refine wpList_append_ds rfl (.tmp 12) (.tmp 18) 24 60 rfl Tryd.underlying24 w.heap.size i0 hi hz0 hz1 hz2 _ _ rfl hown1 _ 1 1 [(p1, p2)] rfl (Ds.one _ _ _ _ _ (by simp)) (by rw [htl.out]; omega) (by simp; omega) ?_)
      intro v4 w4 hown4 hgr4
      have hb4 := hb2.grown hgr4 (by simp; omega) (fun b hb => (hown.lt b hb).1)
      rw [HT.out] at hown4
      clear hgr4 hown1 hown hbel hb2 c1 c2
      go_wp2_with fail
      go_roundw
      case rel => exact ⟨j + 1, by omega, by go_num, HTL.out, hown4, hb4⟩
      case measure => simp [intOf]; omega
    · obtain rfl : j = n := by omega
      rw [List.take_of_length_le (by rw [HL.out]; exact Nat.le_refl _)] at hown
      go_wp2_with fail
      go_ret
      exact ⟨_, rfl, hbel, hown⟩

def AtB (a : Option Addr) (n cap : Nat) : Prop := a = none ∧ n = 0 ∧ cap = 0 ∨ ∃ b o, a = some ⟨b, o, none⟩
theorem Ds.take {w : World} {a : Option Addr} {n cap : Nat} {l : List (Int × Int)} (h : Ds w a n cap l) (k : Nat) : Ds w a (min n k) cap (l.take k) := by
  obtain ⟨h1, h2, h3, h4⟩ := h
  refine ⟨by rw [List.length_take, h1]; omega, by omega, h3, ?_⟩
  rcases h4 with h4 | ⟨b, o, h4, hb, hc⟩
  · exact .inl (by omega)
  · exact .inr ⟨b, o, h4, hb, fun j p hp => hc j p (by
      rw [List.getElem?_take] at hp
      split at hp
      · exact hp
      · cases hp)⟩
theorem few_any (a : Option Addr) (n cap : Nat) (w : World) (h4' : AtB a n cap) (h2 : n ≤ cap) (h3 : cap ≤ 9223372036854775807) :
    Calls Tryd.prog 13 #[.slice a n cap] w fun e w' => e = .returned (.slice a (min n 6) cap) ∧ w' = w := by
  rcases h4' with ⟨rfl, rfl, rfl⟩ | ⟨b, o, rfl⟩
  · go_enter Tryd.func13, Tryd.ntmps13
    go_wp2_with fail
    go_ret
    exact ⟨rfl, rfl⟩
  · by_cases h6 : (n : Int) ≤ 6
    · have HM : Hid (min n 6 = n) := by show _ = _; omega
      go_enter Tryd.func13, Tryd.ntmps13
      go_wp2_with fail
      rw [HM.out]
      all_goals first | (exfalso; omega) | (go_ret; exact ⟨rfl, rfl⟩)
    · have HM : Hid (min n 6 = 6) := by show _ = _; omega
      have h7 : (6 : Int) < n := by omega
      have h8 : 6 ≤ cap := by omega
      go_enter Tryd.func13, Tryd.ntmps13
      go_wp2_with fail
      rw [HM.out]
      all_goals first | (exfalso; omega) | (go_ret; exact ⟨rfl, rfl⟩)
end Go.Proofs.YtgbonpmakahibaaDoor.Dy
