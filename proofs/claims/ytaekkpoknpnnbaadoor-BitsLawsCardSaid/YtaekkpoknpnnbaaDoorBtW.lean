/- Contracts of the reference: With, Of, Below, Minus, And. -/
import Derived.Test.YtaekkpoknpnnbaaDoorBtV
namespace Go.Proofs.YtaekkpoknpnnbaaDoor
open Go.RowKit Go.PlainAid
set_option linter.unusedVariables false
set_option linter.unusedSimpArgs false
set_option maxHeartbeats 2000000

theorem asc_len {l : List Nat} (h : Asc l) : l.length ≤ 4096 := asc_length h
theorem rowI_push {w : World} {B : Nat} {v : Value} {l : List Nat} {x : Nat} (h : w.ownsRow B 3 1 v (l.length + 1) (l.map i64v ++ [.int .i64 (x : Nat)])) : RowI w B v (l ++ [x]) := by
  unfold RowI
  rw [List.length_append, List.map_append]
  exact h
theorem below_push {w wr w1 : World} {B : Nat} {v : Value} {l : List Nat} {o : Obj} (hb : Below w.heap.size w wr) (hr : RowI wr w.heap.size v l) (hg : (wr.alloc o).grownBy w1 v.ownBlock) : Below w.heap.size w w1 :=
  (hb.alloc hb.size _).grown hg (by have := hb.size; simp; omega) (fun b hb => (World.ownsRow.lt hr b hb).1)

set_option maxRecDepth 20000 in
theorem with_copy {a : Option Addr} {n cap : Nat} {l : List Nat} {i : Int} {w : World} (h : Iw w a n cap (cs l)) (hl : Asc l) (hi : ¬ (0 ≤ i ∧ i ≤ 4095) ∨ ∃ m : Nat, i = m ∧ m ≤ 4095 ∧ m ∈ l) :
    Calls Tryd.prog 42 #[.slice a n cap, .int .i64 i] w (RowPost w (withL l i)) := by
  obtain ⟨i0, hif, hz0, hz1, hz2⟩ := info_parts info3i
  have hn : l.length = n := by rw [← cs_length]; exact h.1
  have hn2 : n ≤ 4096 := by rw [← hn]; exact asc_len hl
  have HF : Hid (∀ w' v', w'.ownsRow w.heap.size 3 1 v' n ((cs l).map fun z => .int .i64 z) → Below w.heap.size w w' → RowPost w (withL l i) (.returned v') w') := by
    intro w' v' hr hb
    have hw : withL l i = l := by
      rcases hi with hi | ⟨m, rfl, h1, h2⟩
      · exact withL_out hi
      · exact withL_has hl h1 h2
    rw [hw]
    rw [← i64v_cs, ← hn] at hr
    exact ⟨v', rfl, hr, hb⟩
  have HI := Lib.hid h
  have h2 := h.2.1
  have h3 := h.2.2.1
  have HH := Lib.hid (fun w' (hb : Below w.heap.size w w') => rhas_any a n cap (cs l) i w' (h.below hb))
  rcases Classical.em (0 ≤ i) with h0 | h0
  · rcases Classical.em (i ≤ 4095) with h1 | h1
    · have HD : Hid (decide (i ∈ cs l) = true) := by
        rcases hi with hi | ⟨m, rfl, k1, k2⟩
        · exact absurd ⟨h0, h1⟩ hi
        · exact decide_eq_true (mem_cs.2 k2)
      clear hi h hl hn
      go_enter Tryd.func42, Tryd.ntmps42
      go_wp2_with (first
        | (go_at_call 44; refine (HH.out _ (Below.refl _ _)).mono ?_; rintro e w2 ⟨rfl, hw⟩; rw [hw, HD.out]; clear hw)
        | (at_builtin; refine wpList_append_iw rfl (.tmp 20) (.tmp 21) rfl w.heap.size i0 hif hz0 hz1 hz2 _ 0 [] rfl (empty_rowI w) a n cap (cs l) rfl (HI.out.below (by go_grown)) (by omega) (by simp) ?_))
      all_goals first | (exfalso; omega) | skip
      all_goals
        intro v' w1 hown' hgrow
        have hb1 : Below w.heap.size w w1 := ((Below.refl w.heap.size w).alloc (Nat.le_refl _) _).grown hgrow (by simp) (fun b hb => by cases hb; exact Nat.le_refl _)
        clear hgrow
        go_wp2_with fail
        go_ret
        exact HF.out _ _ hown' hb1
    · clear hi h hl hn
      go_enter Tryd.func42, Tryd.ntmps42
      go_wp2_with (at_builtin; refine wpList_append_iw rfl (.tmp 20) (.tmp 21) rfl w.heap.size i0 hif hz0 hz1 hz2 _ 0 [] rfl (empty_rowI w) a n cap (cs l) rfl (HI.out.below (by go_grown)) (by omega) (by simp) ?_)
      all_goals first | (exfalso; omega) | skip
      all_goals
        intro v' w1 hown' hgrow
        have hb1 : Below w.heap.size w w1 := ((Below.refl w.heap.size w).alloc (Nat.le_refl _) _).grown hgrow (by simp) (fun b hb => by cases hb; exact Nat.le_refl _)
        clear hgrow
        go_wp2_with fail
        go_ret
        exact HF.out _ _ hown' hb1
  · clear hi h hl hn
    go_enter Tryd.func42, Tryd.ntmps42
    go_wp2_with (at_builtin; refine wpList_append_iw rfl (.tmp 20) (.tmp 21) rfl w.heap.size i0 hif hz0 hz1 hz2 _ 0 [] rfl (empty_rowI w) a n cap (cs l) rfl (HI.out.below (by go_grown)) (by omega) (by simp) ?_)
    all_goals first | (exfalso; omega) | skip
    all_goals
      intro v' w1 hown' hgrow
      have hb1 : Below w.heap.size w w1 := ((Below.refl w.heap.size w).alloc (Nat.le_refl _) _).grown hgrow (by simp) (fun b hb => by cases hb; exact Nat.le_refl _)
      clear hgrow
      go_wp2_with fail
      go_ret
      exact HF.out _ _ hown' hb1

set_option maxRecDepth 20000 in
theorem rwith_any (a : Option Addr) (n cap : Nat) (l : List Nat) (i : Int) (w : World) (h : Iw w a n cap (cs l)) (hl : Asc l) :
    Calls Tryd.prog 42 #[.slice a n cap, .int .i64 i] w (RowPost w (withL l i)) := by
  by_cases hin : 0 ≤ i ∧ i ≤ 4095
  · obtain ⟨m, rfl⟩ : ∃ m : Nat, i = m := ⟨i.toNat, by omega⟩
    have hm4 : m ≤ 4095 := by omega
    by_cases hm : m ∈ l
    · exact with_copy h hl (.inr ⟨m, rfl, hm4, hm⟩)
    · obtain ⟨i0, hif, hz0, hz1, hz2⟩ := info_parts info3i
      have hn : l.length = n := by rw [← cs_length]; exact h.1
      have hn2 : n ≤ 4096 := by rw [← hn]; exact asc_len hl
      have HI := Lib.hid h
      have h2 := h.2.1
      have h3 := h.2.2.1
      have HH := Lib.hid (fun w' (hb : Below w.heap.size w w') => rhas_any a n cap (cs l) m w' (h.below hb))
      have HD : Hid (decide ((m : Int) ∈ cs l) = false) := decide_eq_false (fun e => hm (mem_cs.1 e))
      have HM := Lib.hid hm
      have HN := Lib.hid hn
      have HL := Lib.hid hl
      clear h hl hn hm hin
      go_enter Tryd.func42, Tryd.ntmps42
      go_wp2_with (go_at_call 44; refine (HH.out _ (Below.refl _ _)).mono ?_; rintro e w2 ⟨rfl, hw⟩; rw [hw, HD.out]; clear hw)
      go_loopw [5, 6, 25] (fun v5 v6 v25 wr => ∃ (k : Nat) (out : List Nat) (d : Bool), k ≤ n ∧ v25 = .int .i64 k ∧ v6 = .bool d ∧ Hid (WAt l m k out d) ∧ out.length ≤ k + d.toNat ∧ RowI wr w.heap.size v5 out ∧ Below w.heap.size w wr) (fun _ _ v _ => n - (intOf v).toNat)
      case atStart => exact ⟨0, [], false, Nat.zero_le _, rfl, rfl, WAt.zero _ _, by simp, RowI.nil _ _, Below.refl _ _⟩
      case round =>
        obtain ⟨k, out, d, hk, rfl, rfl, HW, hol, hrow, hbel⟩ := hrel
        have hzr := hbel.size
        by_cases hlt : k < n
        · obtain ⟨b, o, rfl, hb, hc0⟩ := HI.out.at hlt
          have hc := (hbel.cell (p := ⟨b, o + k, none⟩) hb).trans hc0
          rw [zg_cs] at hc
          have hlk : k < l.length := by rw [HN.out]; exact hlt
          clear hc0
          cases d with
          | true =>
            have hol : out.length ≤ k + 1 := hol
            obtain ⟨hx, hW1⟩ := HW.out.late HL.out hlk
            have HW1 := Lib.hid hW1
            clear hW1 hlk
            generalize wd l k = x at hc hx HW1
            have hxi : (m : Int) < (x : Int) := by omega
            go_wp2_with (at_builtin; refine wpList_append_own _ rfl _ _ 22 rfl w.heap.size 3 i0 (.int .i64 0) 1 8 Tryd.underlying22 hif hz0 hz1 hz2 rfl (by decide) _ _ _ rfl (hrow.alloc _) ⟨wr.heap.size, 0, none⟩ 1 1 [.int .i64 ((x : Nat) : Int)] rfl rfl (cell_one_new _ _ _) (by simp [Value.oneCell']) (by unfold maxLen; omega) (by omega) (by simp; omega) ?_)
            intro v' w1 hown' hgrow _
            have hbel' := below_push (B := 0) hbel hrow hgrow
            clear hgrow hrow hbel
            go_wp2_with fail
            go_roundw
            case rel => exact ⟨k + 1, out ++ [x], true, by omega, by go_num, rfl, HW1.out, by simp; omega, rowI_push hown', hbel'⟩
            case measure => simp [intOf]; omega
          | false =>
            have hol : out.length ≤ k := hol
            by_cases hx : m < wd l k
            · have HW1 := Lib.hid (HW.out.first HL.out HM.out hlk hx)
              clear hlk
              generalize wd l k = x at hc hx HW1
              have hxi : (m : Int) < (x : Int) := by omega
              go_wp2_with (at_builtin; refine wpList_append_own _ rfl (.tmp 36) (.tmp 38) 22 rfl w.heap.size 3 i0 (.int .i64 0) 1 8 Tryd.underlying22 hif hz0 hz1 hz2 rfl (by decide) _ _ _ rfl (hrow.alloc _) ⟨wr.heap.size, 0, none⟩ 1 1 [.int .i64 ((m : Nat) : Int)] rfl rfl (cell_one_new _ _ _) (by simp [Value.oneCell']) (by unfold maxLen; omega) (by omega) (by simp; omega) ?_)
              intro v' w1 hown' hgrow _
              have hbel' := below_push (B := 0) hbel hrow hgrow
              have hrow' := rowI_push hown'
              have hol' : (out ++ [m]).length ≤ k + 1 := by simp; omega
              have hz1' := hbel'.size
              clear hgrow hrow hbel hown'
              generalize out ++ [m] = out1 at hrow' hol' HW1
              go_wp2_with (at_builtin; refine wpList_append_own _ rfl (.tmp 40) (.tmp 42) 22 rfl w.heap.size 3 i0 (.int .i64 0) 1 8 Tryd.underlying22 hif hz0 hz1 hz2 rfl (by decide) _ _ _ rfl (hrow'.alloc _) ⟨w1.heap.size, 0, none⟩ 1 1 [.int .i64 ((x : Nat) : Int)] rfl rfl (cell_one_new _ _ _) (by simp [Value.oneCell']) (by unfold maxLen; omega) (by omega) (by simp; omega) ?_)
              intro v2 w2 hown2 hgrow2 _
              have hbel2 := below_push (B := 0) hbel' hrow' hgrow2
              clear hgrow2
              go_wp2_with fail
              go_roundw
              case rel => exact ⟨k + 1, out1 ++ [x], true, by omega, by go_num, rfl, HW1.out, by simp; omega, rowI_push hown2, hbel2⟩
              case measure => simp [intOf]; omega
            · have HW1 := Lib.hid (HW.out.early hlk hx)
              clear hlk
              generalize wd l k = x at hc hx HW1
              have hxi : ¬ (m : Int) < (x : Int) := by omega
              go_wp2_with (at_builtin; refine wpList_append_own _ rfl _ _ 22 rfl w.heap.size 3 i0 (.int .i64 0) 1 8 Tryd.underlying22 hif hz0 hz1 hz2 rfl (by decide) _ _ _ rfl (hrow.alloc _) ⟨wr.heap.size, 0, none⟩ 1 1 [.int .i64 ((x : Nat) : Int)] rfl rfl (cell_one_new _ _ _) (by simp [Value.oneCell']) (by unfold maxLen; omega) (by omega) (by simp; omega) ?_)
              intro v' w1 hown' hgrow _
              have hbel' := below_push (B := 0) hbel hrow hgrow
              clear hgrow hrow hbel
              go_wp2_with fail
              go_roundw
              case rel => exact ⟨k + 1, out ++ [x], false, by omega, by go_num, rfl, HW1.out, by simp; omega, rowI_push hown', hbel'⟩
              case measure => simp [intOf]; omega
        · have HK : Hid (k = l.length) := by show _ = _; rw [HN.out]; omega
          cases d with
          | true =>
            have hol : out.length ≤ k + 1 := hol
            have HO := Lib.hid (HW.out.doneT HL.out hm4 HM.out HK.out)
            go_wp2_with fail
            go_ret
            rw [← HO.out]
            exact ⟨_, rfl, hrow, hbel⟩
          | false =>
            have hol : out.length ≤ k := hol
            have HO := Lib.hid (HW.out.doneF HL.out hm4 HM.out HK.out)
            go_wp2_with (at_builtin; refine wpList_append_own _ rfl (.tmp 47) (.tmp 49) 22 rfl w.heap.size 3 i0 (.int .i64 0) 1 8 Tryd.underlying22 hif hz0 hz1 hz2 rfl (by decide) _ _ _ rfl (hrow.alloc _) ⟨wr.heap.size, 0, none⟩ 1 1 [.int .i64 ((m : Nat) : Int)] rfl rfl (cell_one_new _ _ _) (by simp [Value.oneCell']) (by unfold maxLen; omega) (by omega) (by simp; omega) ?_)
            intro v' w1 hown' hgrow _
            have hbel' := below_push (B := 0) hbel hrow hgrow
            clear hgrow
            go_wp2_with fail
            go_ret
            rw [← HO.out]
            exact ⟨_, rfl, rowI_push hown', hbel'⟩
  · exact with_copy h hl (.inl hin)

/-- The reference's Of. -/
theorem ofL_nil : ofL [] = [] := by unfold ofL; simp
theorem ofL_snoc (zs : List Int) (x : Int) : withL (ofL zs) x = ofL (zs ++ [x]) := by
  refine asc_ext (asc_withL (asc_ofL _) _) (asc_ofL _) fun y => ?_
  rw [mem_ofL, List.mem_append, List.mem_singleton]
  by_cases h : 0 ≤ x ∧ x ≤ 4095
  · obtain ⟨m, rfl⟩ : ∃ m : Nat, x = m := ⟨x.toNat, by omega⟩
    rw [mem_withL (by omega), mem_ofL, Int.ofNat_inj]
    constructor
    · rintro ⟨h1, ⟨_, h2⟩ | h2⟩
      · exact ⟨h1, .inl h2⟩
      · exact ⟨h1, .inr h2⟩
    · rintro ⟨h1, h2 | h2⟩
      · exact ⟨h1, .inl ⟨h1, h2⟩⟩
      · exact ⟨h1, .inr h2⟩
  · rw [withL_out h, mem_ofL]
    constructor
    · rintro ⟨h1, h2⟩; exact ⟨h1, .inl h2⟩
    · rintro ⟨h1, h2 | h2⟩
      · exact ⟨h1, h2⟩
      · omega
theorem takeI_zg {zs : List Int} {k : Nat} (h : k < zs.length) : zs.take (k + 1) = zs.take k ++ [zg zs k] := by
  rw [List.take_succ_eq_append_getElem h, zg_get h]
theorem rof_any (a : Option Addr) (n cap : Nat) (zs : List Int) (w : World) (h : Iw w a n cap zs) :
    Calls Tryd.prog 17 #[.slice a n cap] w (RowPost w (ofL zs)) := by
  have HI := Lib.hid h
  have HN := Lib.hid h.1
  have h2 := h.2.1
  have h3 := h.2.2.1
  clear h
  go_enter Tryd.func17, Tryd.ntmps17
  go_wp2_with fail
  go_loopw [3, 8] (fun v3 v8 wr => ∃ k : Nat, k ≤ n ∧ v8 = .int .i64 k ∧ RowI wr w.heap.size v3 (ofL (zs.take k)) ∧ Below w.heap.size w wr) (fun _ v _ => n - (intOf v).toNat)
  case atStart => exact ⟨0, Nat.zero_le _, rfl, by rw [List.take_zero, ofL_nil]; exact RowI.nil _ _, Below.refl _ _⟩
  case round =>
    obtain ⟨k, hk, rfl, hrow, hbel⟩ := hrel
    have hzr := hbel.size
    by_cases hlt : k < n
    · obtain ⟨b, o, rfl, hb, hc0⟩ := HI.out.at hlt
      have hc := (hbel.cell (p := ⟨b, o + k, none⟩) hb).trans hc0
      have HS : Hid (withL (ofL (zs.take k)) (zg zs k) = ofL (zs.take (k + 1))) := by show _ = _; rw [ofL_snoc, ← takeI_zg (by rw [HN.out]; exact hlt)]
      have HA := Lib.hid (asc_ofL (zs.take k))
      generalize ofL (zs.take k) = out at hrow HS HA
      generalize zg zs k = x at hc HS
      obtain ⟨a1, c1, rfl, hi1⟩ := hrow.iw
      clear hc0
      go_wp2_with (go_at_call 42; refine (rwith_any a1 out.length c1 out x wr hi1 HA.out).mono ?_; rintro e w2 ⟨v2, rfl, hr2, hb2⟩)
      have hbel2 := hbel.trans (hb2.mono hzr)
      go_roundw
      case rel => exact ⟨k + 1, by omega, by go_num, by rw [← HS.out]; exact owns_mono hr2 hzr, hbel2⟩
      case measure => simp [intOf]; omega
    · have HK : Hid (ofL (zs.take k) = ofL zs) := by show _ = _; rw [List.take_of_length_le (by rw [HN.out]; omega)]
      go_wp2_with fail
      go_ret
      rw [← HK.out]
      exact ⟨_, rfl, hrow, hbel⟩
end Go.Proofs.YtaekkpoknpnnbaaDoor
