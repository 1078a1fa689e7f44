/- Contracts of the reference: Below, Minus, And, Same. -/
import Derived.Test.YtaekkpoknpnnbaaDoorBtW
namespace Go.Proofs.YtaekkpoknpnnbaaDoor
open Go.RowKit Go.PlainAid
set_option linter.unusedVariables false
set_option linter.unusedSimpArgs false
set_option maxHeartbeats 2000000

theorem rbelow_any (n : Int) (w : World) :
    Calls Tryd.prog 19 #[.int .i64 n] w (RowPost w (belowL n)) := by
  obtain ⟨i0, hif, hz0, hz1, hz2⟩ := info_parts info3i
  obtain ⟨m, hm⟩ : ∃ m : Nat, min (max n 0) 4096 = m := ⟨(min (max n 0) 4096).toNat, by omega⟩
  have hB : Hid (belowL n = List.range m) := by show _ = _; unfold belowL; rw [hm]; simp
  have hm4 : m ≤ 4096 := by omega
  have hmn := Lib.hid hm
  clear hm
  go_enter Tryd.func19, Tryd.ntmps19
  go_wp2_with fail
  go_loopw [3, 4] (fun v3 v4 wr => ∃ k : Nat, k ≤ m ∧ v4 = .int .i64 k ∧ RowI wr w.heap.size v3 (List.range k) ∧ Below w.heap.size w wr) (fun _ v _ => m - (intOf v).toNat)
  case atStart => exact ⟨0, Nat.zero_le _, rfl, RowI.nil _ _, Below.refl _ _⟩
  case round =>
    obtain ⟨k, hk, rfl, hrow, hbel⟩ := hrel
    have hzr := hbel.size
    by_cases hlt : k < m
    · have h1 : (k : Int) < n := by have := hmn.out; omega
      have h2 : (k : Int) ≤ 4095 := by omega
      have HS : Hid (List.range k ++ [k] = List.range (k + 1)) := by show _ = _; rw [List.range_succ]
      have hlen : (List.range k).length ≤ 4096 := by rw [List.length_range]; omega
      generalize List.range k = out at hrow HS hlen
      go_wp2_with (at_builtin; refine wpList_append_own _ rfl _ _ 22 rfl w.heap.size 3 i0 (.int .i64 0) 1 8 Tryd.underlying22 hif hz0 hz1 hz2 rfl (by decide) _ _ _ rfl (hrow.alloc _) ⟨wr.heap.size, 0, none⟩ 1 1 [.int .i64 ((k : Nat) : Int)] rfl rfl (cell_one_new _ _ _) (by simp [Value.oneCell']) (by unfold maxLen; omega) (by omega) (by simp; omega) ?_)
      intro v' w1 hown' hgrow _
      have hbel' := below_push (B := 0) hbel hrow hgrow
      clear hgrow hrow hbel
      go_wp2_with fail
      go_roundw
      case rel => exact ⟨k + 1, by omega, by go_num, by rw [← HS.out]; exact rowI_push hown', hbel'⟩
      case measure => simp [intOf]; omega
    · have hkm : k = m := by omega
      have HK : Hid (List.range k = belowL n) := by show _ = _; rw [hB.out, hkm]
      have hor : ¬ (k : Int) < n ∨ ¬ (k : Int) ≤ 4095 := by have := hmn.out; omega
      clear hkm
      by_cases h1 : (k : Int) < n
      · have h2 : ¬ (k : Int) ≤ 4095 := by omega
        have h3 : decide ((k : Int) ≤ 4095) = false := decide_eq_false h2
        clear hor
        go_wp2_with fail
        go_ret
        rw [← HK.out]
        exact ⟨_, rfl, hrow, hbel⟩
      · have h3 : decide ((k : Int) < n) = false := decide_eq_false h1
        clear hor
        go_wp2_with fail
        go_ret
        rw [← HK.out]
        exact ⟨_, rfl, hrow, hbel⟩

/-- The members of l that are (keep) in zs, or are not. -/
def selL (keep : Bool) (l : List Nat) (zs : List Int) : List Nat := l.filter (fun x => decide ((x : Int) ∈ zs) == keep)
theorem selL_and (l r : List Nat) : selL true l (cs r) = andL l r := by
  unfold selL andL
  congr 1; funext x
  rw [show decide ((x : Int) ∈ cs r) = decide (x ∈ r) by rw [decide_eq_decide]; exact mem_cs]
  cases decide (x ∈ r) <;> rfl
theorem selL_minus (l r : List Nat) : selL false l (cs r) = minL l r := by
  unfold selL minL
  congr 1; funext x
  rw [show decide ((x : Int) ∈ cs r) = decide (x ∈ r) by rw [decide_eq_decide]; exact mem_cs]
  cases decide (x ∈ r) <;> rfl
theorem selL_one (l : List Nat) (i : Int) : selL false l [i] = withoutL l i := by
  unfold selL withoutL
  congr 1; funext x
  by_cases h : (x : Int) = i
  · simp [h]
  · simp [h]
theorem sel_in {keep : Bool} {l : List Nat} {zs : List Int} {k : Nat} (h : k < l.length) (hx : decide (((wd l k : Nat) : Int) ∈ zs) = keep) : selL keep (l.take (k + 1)) zs = selL keep (l.take k) zs ++ [wd l k] := by
  unfold selL; rw [take_wd h, List.filter_append]; simp [List.filter_cons, hx]
theorem sel_out {keep : Bool} {l : List Nat} {zs : List Int} {k : Nat} (h : k < l.length) (hx : decide (((wd l k : Nat) : Int) ∈ zs) = !keep) : selL keep (l.take (k + 1)) zs = selL keep (l.take k) zs := by
  unfold selL; rw [take_wd h, List.filter_append]; simp [List.filter_cons, hx]
theorem selL_len (keep : Bool) (l : List Nat) (zs : List Int) (k : Nat) : (selL keep (l.take k) zs).length ≤ l.length := by
  unfold selL
  refine Nat.le_trans (List.length_filter_le _ _) ?_
  rw [List.length_take]; omega

theorem rminus_any (a b : Option Addr) (n m cap dap : Nat) (l : List Nat) (zs : List Int) (w : World) (h : Iw w a n cap (cs l)) (k : Iw w b m dap zs) (hn4 : l.length ≤ 4096) :
    Calls Tryd.prog 39 #[.slice a n cap, .slice b m dap] w (RowPost w (selL false l zs)) := by
  obtain ⟨i0, hif, hz0, hz1, hz2⟩ := info_parts info3i
  have HI := Lib.hid h
  have hn : l.length = n := by rw [← cs_length]; exact h.1
  have HN := Lib.hid hn
  have h2 := h.2.1
  have h3 := h.2.2.1
  have HH := Lib.hid (fun x w' (hb : Below w.heap.size w w') => rhas_any b m dap zs x w' (k.below hb))
  have hn2 : n ≤ 4096 := by omega
  have HLe := Lib.hid (fun j => Nat.le_trans (selL_len false l zs j) hn4)
  have k2 := k.2.1
  have k3 := k.2.2.1
  clear h k hn hn4
  go_enter Tryd.func39, Tryd.ntmps39
  go_wp2_with fail
  go_loopw [5, 10] (fun v5 v10 wr => ∃ k : Nat, k ≤ n ∧ v10 = .int .i64 k ∧ RowI wr w.heap.size v5 (selL false (l.take k) zs) ∧ Below w.heap.size w wr) (fun _ v _ => n - (intOf v).toNat)
  case atStart => exact ⟨0, Nat.zero_le _, rfl, RowI.nil _ _, Below.refl _ _⟩
  case round =>
    obtain ⟨k, hk, rfl, hrow, hbel⟩ := hrel
    have hzr := hbel.size
    have hle := HLe.out k
    by_cases hlt : k < n
    · obtain ⟨b', o, rfl, hb, hc0⟩ := HI.out.at hlt
      have hc := (hbel.cell (p := ⟨b', o + k, none⟩) hb).trans hc0
      rw [zg_cs] at hc
      have hlk : k < l.length := by rw [HN.out]; exact hlt
      clear hc0
      by_cases hx : ((wd l k : Nat) : Int) ∈ zs
      · have HS := Lib.hid (sel_out (keep := false) hlk (decide_eq_true hx))
        have HD : Hid (decide (((wd l k : Nat) : Int) ∈ zs) = true) := decide_eq_true hx
        generalize selL false (l.take k) zs = out at hrow HS hle
        clear hlk hx
        generalize wd l k = x at hc HD
        go_wp2_with (go_at_call 44; refine (HH.out x _ hbel).mono ?_; rintro e w2 ⟨rfl, rfl⟩; rw [HD.out])
        go_roundw
        case rel => exact ⟨k + 1, by omega, by go_num, by rw [HS.out]; exact hrow, hbel⟩
        case measure => simp [intOf]; omega
      · have HS := Lib.hid (sel_in (keep := false) hlk (decide_eq_false hx))
        have HD : Hid (decide (((wd l k : Nat) : Int) ∈ zs) = false) := decide_eq_false hx
        generalize selL false (l.take k) zs = out at hrow HS hle
        clear hlk hx
        generalize wd l k = x at hc HD HS
        go_wp2_with (first
          | (go_at_call 44; refine (HH.out x _ hbel).mono ?_; rintro e w2 ⟨rfl, rfl⟩; rw [HD.out])
          | (at_builtin; refine wpList_append_own _ rfl _ _ 22 rfl w.heap.size 3 i0 (.int .i64 0) 1 8 Tryd.underlying22 hif hz0 hz1 hz2 rfl (by decide) _ _ _ rfl (hrow.alloc _) ⟨w2.heap.size, 0, none⟩ 1 1 [.int .i64 ((x : Nat) : Int)] rfl rfl (cell_one_new _ _ _) (by simp [Value.oneCell']) (by unfold maxLen; omega) (by omega) (by simp; omega) ?_))
        intro v' w1 hown' hgrow _
        have hbel' := below_push (B := 0) hbel hrow hgrow
        clear hgrow hrow hbel
        go_wp2_with fail
        go_roundw
        case rel => exact ⟨k + 1, by omega, by go_num, by rw [HS.out]; exact rowI_push hown', hbel'⟩
        case measure => simp [intOf]; omega
    · have HK : Hid (selL false (l.take k) zs = selL false l zs) := by show _ = _; rw [List.take_of_length_le (by rw [HN.out]; omega)]
      go_wp2_with fail
      go_ret
      rw [← HK.out]
      exact ⟨_, rfl, hrow, hbel⟩

theorem rand_any (a b : Option Addr) (n m cap dap : Nat) (l : List Nat) (zs : List Int) (w : World) (h : Iw w a n cap (cs l)) (k : Iw w b m dap zs) (hn4 : l.length ≤ 4096) :
    Calls Tryd.prog 37 #[.slice a n cap, .slice b m dap] w (RowPost w (selL true l zs)) := by
  obtain ⟨i0, hif, hz0, hz1, hz2⟩ := info_parts info3i
  have HI := Lib.hid h
  have hn : l.length = n := by rw [← cs_length]; exact h.1
  have HN := Lib.hid hn
  have h2 := h.2.1
  have h3 := h.2.2.1
  have HH := Lib.hid (fun x w' (hb : Below w.heap.size w w') => rhas_any b m dap zs x w' (k.below hb))
  have hn2 : n ≤ 4096 := by omega
  have HLe := Lib.hid (fun j => Nat.le_trans (selL_len true l zs j) hn4)
  have k2 := k.2.1
  have k3 := k.2.2.1
  clear h k hn hn4
  go_enter Tryd.func37, Tryd.ntmps37
  go_wp2_with fail
  go_loopw [5, 10] (fun v5 v10 wr => ∃ k : Nat, k ≤ n ∧ v10 = .int .i64 k ∧ RowI wr w.heap.size v5 (selL true (l.take k) zs) ∧ Below w.heap.size w wr) (fun _ v _ => n - (intOf v).toNat)
  case atStart => exact ⟨0, Nat.zero_le _, rfl, RowI.nil _ _, Below.refl _ _⟩
  case round =>
    obtain ⟨k, hk, rfl, hrow, hbel⟩ := hrel
    have hzr := hbel.size
    have hle := HLe.out k
    by_cases hlt : k < n
    · obtain ⟨b', o, rfl, hb, hc0⟩ := HI.out.at hlt
      have hc := (hbel.cell (p := ⟨b', o + k, none⟩) hb).trans hc0
      rw [zg_cs] at hc
      have hlk : k < l.length := by rw [HN.out]; exact hlt
      clear hc0
      by_cases hx : ((wd l k : Nat) : Int) ∈ zs
      · have HS := Lib.hid (sel_in (keep := true) hlk (decide_eq_true hx))
        have HD : Hid (decide (((wd l k : Nat) : Int) ∈ zs) = true) := decide_eq_true hx
        generalize selL true (l.take k) zs = out at hrow HS hle
        clear hlk hx
        generalize wd l k = x at hc HD HS
        go_wp2_with (first
          | (go_at_call 44; refine (HH.out x _ hbel).mono ?_; rintro e w2 ⟨rfl, rfl⟩; rw [HD.out])
          | (at_builtin; refine wpList_append_own _ rfl _ _ 22 rfl w.heap.size 3 i0 (.int .i64 0) 1 8 Tryd.underlying22 hif hz0 hz1 hz2 rfl (by decide) _ _ _ rfl (hrow.alloc _) ⟨w2.heap.size, 0, none⟩ 1 1 [.int .i64 ((x : Nat) : Int)] rfl rfl (cell_one_new _ _ _) (by simp [Value.oneCell']) (by unfold maxLen; omega) (by omega) (by simp; omega) ?_))
        intro v' w1 hown' hgrow _
        have hbel' := below_push (B := 0) hbel hrow hgrow
        clear hgrow hrow hbel
        go_wp2_with fail
        go_roundw
        case rel => exact ⟨k + 1, by omega, by go_num, by rw [HS.out]; exact rowI_push hown', hbel'⟩
        case measure => simp [intOf]; omega
      · have HS := Lib.hid (sel_out (keep := true) hlk (decide_eq_false hx))
        have HD : Hid (decide (((wd l k : Nat) : Int) ∈ zs) = false) := decide_eq_false hx
        generalize selL true (l.take k) zs = out at hrow HS hle
        clear hlk hx
        generalize wd l k = x at hc HD
        go_wp2_with (go_at_call 44; refine (HH.out x _ hbel).mono ?_; rintro e w2 ⟨rfl, rfl⟩; rw [HD.out])
        go_roundw
        case rel => exact ⟨k + 1, by omega, by go_num, by rw [HS.out]; exact hrow, hbel⟩
        case measure => simp [intOf]; omega
    · have HK : Hid (selL true (l.take k) zs = selL true l zs) := by show _ = _; rw [List.take_of_length_le (by rw [HN.out]; omega)]
      go_wp2_with fail
      go_ret
      rw [← HK.out]
      exact ⟨_, rfl, hrow, hbel⟩

theorem rsame_any (a b : Option Addr) (n m c d : Nat) (xs ys : List Int) (w : World) (h : Iw w a n c xs) (k : Iw w b m d ys) :
    Calls Tryd.prog 49 #[.slice a n c, .slice b m d] w fun e w' => e = .returned (.bool (decide (xs = ys))) ∧ w' = w := by
  have HI := Lib.hid h
  have HJ := Lib.hid k
  have h2 := h.2.1
  have h3 := h.2.2.1
  have k2 := k.2.1
  have k3 := k.2.2.1
  by_cases hnm : n = m
  · subst hnm
    clear h k
    go_enter Tryd.func49, Tryd.ntmps49
    go_wp2_with fail
    go_loop [14] (fun v => ∃ k : Nat, k ≤ n ∧ v = .int .i64 k ∧ Hid (∀ j, j < k → zg xs j = zg ys j)) (fun v => n - (intOf v).toNat)
    case atStart => exact ⟨0, Nat.zero_le _, rfl, fun j hj => absurd hj (Nat.not_lt_zero _)⟩
    case round =>
      obtain ⟨k, hk, rfl, HE⟩ := hrel
      by_cases hlt : k < n
      · obtain ⟨b1, o1, rfl, hb1, hc1⟩ := HI.out.at hlt
        obtain ⟨b2, o2, rfl, hb2, hc2⟩ := HJ.out.at hlt
        by_cases hxy : zg xs k = zg ys k
        · have HXY := Lib.hid hxy
          rw [← hxy] at hc2
          clear hxy
          generalize zg xs k = x at hc1 hc2
          go_wp2_with fail
          go_round
          case rel => exact ⟨k + 1, by omega, by go_num, fun j hj => by
            by_cases e : j = k
            · subst e; exact HXY.out
            · exact HE.out j (by omega)⟩
          case measure => simp [intOf]; omega
        · have HF : Hid (decide (xs = ys) = false) := decide_eq_false (fun e => hxy (by rw [e]))
          have hne : (zg xs k != zg ys k) = true := bne_iff_ne.2 hxy
          have hne2 : (zg xs k == zg ys k) = false := beq_eq_false_iff_ne.2 hxy
          generalize zg xs k = x at hc1 hne hne2 hxy
          generalize zg ys k = y at hc2 hne hne2 hxy
          go_wp2_with fail
          go_returns
          exact ⟨ret_bool HF.out.symm, rfl⟩
      · have HT : Hid (decide (xs = ys) = true) := decide_eq_true (by
          have e1 := HI.out.1
          have e2 := HJ.out.1
          refine List.ext_getElem (by rw [e1, e2]) fun j j1 j2 => ?_
          rw [← zg_get j1, ← zg_get j2]
          exact HE.out j (by omega))
        go_wp2_with fail
        go_returns
        exact ⟨ret_bool HT.out.symm, rfl⟩
  · have HF : Hid (decide (xs = ys) = false) := decide_eq_false (fun e => hnm (by rw [← h.1, ← k.1, e]))
    have hnm' : ¬ (n : Int) = (m : Int) := by omega
    clear h k hnm
    go_enter Tryd.func49, Tryd.ntmps49
    go_wp2_with fail
    go_returns
    exact ⟨ret_bool HF.out.symm, rfl⟩
end Go.Proofs.YtaekkpoknpnnbaaDoor
