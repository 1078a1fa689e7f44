/- slices.SortFunc of spans, walked from its caller's side; contracts of join, Of, Or. -/
import Derived.Test.YtfdododighjjpaaGreatDoorDaD
import Derived.Test.YtfdododighjjpaaGreatDoorDaE
import Derived.Test.YtfdododighjjpaaGreatDoorDaU
import Derived.Test.YtfdododighjjpaaGreatDoorDaF
import Derived.Test.YtfdododighjjpaaGreatDoorSrt
import Derived.Test.YtfdododighjjpaaGreatDoorShelf
namespace Go.Proofs.YtfdododighjjpaaGreatDoor.Dy
open Go.Shelf Go.RowKit Go.PlainAid Go.Sort
set_option linter.unusedVariables false
set_option linter.unusedSimpArgs false
set_option maxHeartbeats 2000000

theorem closure_any (x y : Int × Int) (W : World) : Calls Tryz.prog 72 #[.agg #[.int .i64 x.1, .int .i64 x.2], .agg #[.int .i64 y.1, .int .i64 y.2]] W fun e w' => e = .returned (.int .i64 (Lib.compareInt x.1 y.1)) ∧ ∃ q os', w' = grow (W.drewN q) os' := by
  have hcon := fun W' => Tryz.cmp_Compare_int x.1 y.1 W'
  generalize Lib.compareInt x.1 y.1 = r at hcon ⊢
  go_enter Tryz.func72, Tryz.ntmps72
  go_wp2_with (go_at_call 73; refine (hcon _).mono ?_; rintro e w' ⟨rfl, rfl⟩)
  go_ret
  exact ⟨rfl, 0, _, by rw [alloc_eq_grow, alloc_eq_grow, grow_grow]; rfl⟩

set_option maxRecDepth 100000 in
theorem sort_any (B : Nat) (v : Value) (l : List (Int × Int)) (w : World) (hown : Os 48 w B v l) (hB : B ≤ w.heap.size) (hn : l.length ≤ 1000000) :
    Calls Tryz.prog 71 #[v, .func (.func 72) #[] #[]] w fun e w' => e = .returned (.tuple #[]) ∧ (∃ a n cap l', v = .slice a n cap ∧ Ds w' a n cap l' ∧ l'.Perm l ∧ l'.Pairwise fun p q => p.1 ≤ q.1) ∧ RowKit.Below B w w' := by
  by_cases h0 : l.length = 0
  · obtain ⟨a, cap, rfl, hd⟩ := hown.ds
    obtain rfl : l = [] := List.eq_nil_of_length_eq_zero h0
    refine (AnyF.slices_SortFunc_none { Tryz.sortSpan with } a cap (.func (.func 72) #[] #[]) w).mono ?_
    rintro e w' ⟨rfl, rfl⟩
    exact ⟨rfl, ⟨_, _, _, [], rfl, hd, List.Perm.refl _, List.Pairwise.nil⟩, RowKit.Below.refl _ _⟩
  · obtain ⟨a, cap, hv, hd⟩ := hown.ds
    obtain ⟨hx, ⟨hn1, hn2⟩ | ⟨g, cap2, cur, hv2, hg, hh, hc, hm, hs, ht⟩⟩ := hown
    · exact absurd hn2 h0
    · rw [hv2] at hv
      cases hv
      subst hv2
      have hgl : g < w.heap.size := (Array.getElem?_eq_some_iff.1 hh).1
      have hH : HoldsK spV 2 w g 0 l.toArray := holds_of_ds hd (fun j => Lib.frozen_of_heap hh j)
      have eg : ∀ args w, (callFunc 72 args).run Tryz.prog w = .ok (.enter 72 args) w := enters_of Tryz.func72 (by kernel_rfl) rfl
      have hcon := AnyQ.slices_SortFunc Tryz.sortSpan 2 Tryz.isAgg48 Tryz.sizeOf48 spV (fun _ => rfl) (fun x v hv => by simp [spV] at hv; rcases hv with rfl | rfl <;> rfl) (fun x y => Lib.compareInt x.1 y.1) swoLo 72 #[] g 0 cap l.toArray w eg (fun _ _ _ _ x y => closure_any x y _) hH hgl (by rw [List.size_toArray]; omega)
      rw [List.size_toArray] at hcon
      refine Calls.mono hcon ?_
      rintro e w' ⟨rfl, d', n, os, hp, hso, rfl⟩
      have hsz : d'.size = l.length := by rw [hp.1, List.size_toArray]
      refine ⟨rfl, ⟨_, _, _, d'.toList, rfl, ds_of_holds (holdsK_sortWorldK spV 2 w g 0 n l.toArray d' os hgl hH (by rw [hsz, List.size_toArray])) hsz hc hm (lt_sortWorldK spV 2 w g 0 n d' os hgl), perm_list (List.size_toArray ..) hp, sorted_list hsz hso⟩, below_sort (RowKit.Below.refl _ _) hg hB⟩

theorem Os.last {T : TypeId} {w : World} {base : Nat} {v : Value} {acc : List (Int × Int)} {q : Int × Int} {m : Nat} (h : Os T w base v (acc ++ [q])) (hm : acc.length = m) : ∃ g cap, v = .slice (some ⟨g, 0, none⟩) (m + 1) cap ∧ base ≤ g ∧ g < w.heap.size ∧ m + 1 ≤ cap ∧ cap ≤ maxLen ∧
    w.cell? ⟨g, m * 2, none⟩ = some (.int .i64 q.1) ∧ w.cell? ⟨g, m * 2 + 1, none⟩ = some (.int .i64 q.2) ∧ ∀ j : Nat, w.frozen? ⟨g, j, none⟩ = false := by
  obtain ⟨a, n, c, hv, hn, hd⟩ := h.dn
  rw [List.length_append, hm] at hn
  have hn : n = m + 1 := hn
  obtain ⟨hx, ⟨hn1, hn2⟩ | ⟨g, cap2, cur, hv2, hg, hh, hc, hmx, hs, ht⟩⟩ := h
  · simp at hn2
  · rw [hv2] at hv
    injection hv with e1 e2 e3
    subst e1 e3
    rw [e2, hn] at hv2
    rw [hn] at hd
    obtain ⟨d1, d2, d3, d4 | ⟨b, o, ha, hb, hcell⟩⟩ := hd
    · omega
    · cases ha
      have := hcell m q (by rw [List.getElem?_append_right (by omega), hm]; simp)
      exact ⟨g, _, hv2, hg, hb, d2, d3, by simpa using this.1, by simpa using this.2, fun j => Lib.frozen_of_heap hh j⟩
theorem Os.stored' {T : TypeId} {w : World} {base g cap m : Nat} {acc : List (Int × Int)} {p : Int × Int} (h : Os T w base (.slice (some ⟨g, 0, none⟩) (m + 1) cap) (acc ++ [p])) (hm : acc.length = m) (y : Int) :
    Os T (w.setCell ⟨g, m * 2 + 1, none⟩ (.int .i64 y)) base (.slice (some ⟨g, 0, none⟩) (m + 1) cap) (acc ++ [(p.1, y)]) := by
  subst hm; exact h.stored y

set_option maxRecDepth 100000 in
theorem join_any (a : Option Addr) (n cap : Nat) (l : List (Int × Int)) (w : World) (h : Ds w a n cap l) (hok : ∀ x ∈ l, Okp x) (hn : n ≤ 100000) :
    Calls Tryz.prog 57 #[.slice a n cap] w (SetP w (Dm l)) := by
  obtain ⟨i0, hi, hz0, hz1, hz2⟩ := info_parts infoSpan
  have HCL := Lib.hid (fun W (hw : RowKit.Below w.heap.size w W) => clone_any a n cap l W (h.below hw (Nat.le_refl _)) hn)
  have HL := Lib.hid h.1
  have HO := Lib.hid hok
  clear h hok
  go_enter Tryz.func57, Tryz.ntmps57
  go_wp2_with (first
    | (go_at_call 49; refine (HCL.out _ ((RowKit.Below.refl _ w).alloc (Nat.le_refl _) _)).mono ?_; rintro e w1 ⟨v1, rfl, hb1, hown1⟩)
    | (go_at_call 71; refine (sort_any _ _ _ _ hown1 hb1.size (by rw [HL.out]; omega)).mono ?_; rintro e w2 ⟨rfl, ⟨a2, n2, c2, ys, rfl, hd2, hp, hs⟩, hb2⟩))
  have hbw : RowKit.Below (w.heap.size + 1) (w.alloc (.cells #[.slice none 0 0] 25)) w2 := (by simpa using hb1 : RowKit.Below (w.heap.size + 1) _ w1).trans (by simpa using hb2)
  obtain ⟨k0, hbw1⟩ := box1 hbw
  have f0 : w2.frozen? ⟨w.heap.size, 0, none⟩ = false := (hbw.frozen (p := ⟨w.heap.size, 0, none⟩) (Nat.lt_succ_self _)).trans (new1 _ _ _).2
  have hz : w.heap.size + 1 ≤ w2.heap.size := by have := hbw.size; simpa using this
  have hyl : ys.length = n2 := hd2.1
  have hn2 : n2 ≤ 100000 := by rw [← hyl, hp.length_eq, HL.out]; exact hn
  have HY := Lib.hid hyl
  have HS := Lib.hid (JoinI.start (fun x hx => HO.out x (hp.mem_iff.1 hx)) hs)
  have HF := Lib.hid (fun d => dm_perm hp d)
  have hc2 : n2 ≤ c2 := hd2.2.1
  have hm2 := hd2.2.2.1
  unfold maxLen at hm2
  have H4 := Lib.hid hd2.2.2.2
  clear hb1 hb2 hown1 hp hs hd2 hyl hbw
  go_wp2_with fail
  go_loopw [3, 13] (fun v3 v13 wr => ∃ (j : Nat) (acc : List (Int × Int)), j ≤ n2 ∧ v13 = .int .i64 j ∧ acc.length ≤ j ∧ Os 48 wr w2.heap.size v3 acc ∧ Hid (JoinI ys acc (ys.drop j)) ∧ RowKit.Below w2.heap.size w2 wr) (fun _ v _ => n2 - (intOf v).toNat)
  case atStart => exact ⟨0, [], by omega, rfl, by simp, Os.nil _ _ _, HS.out, RowKit.Below.refl _ _⟩
  case round =>
    obtain ⟨j, acc, hj, rfl, hacc, hown, hpre, hbel⟩ := hrel
    have hzr := hbel.size
    by_cases hjn : j < n2
    · rcases H4.out with h0 | ⟨b, o, rfl, hb, hcell⟩
      · omega
      obtain ⟨⟨p1, p2⟩, hp⟩ : ∃ p, ys[j]? = some p := ⟨_, List.getElem?_eq_getElem (by rw [HY.out]; exact hjn)⟩
      obtain ⟨x1, x2⟩ := hcell j _ hp
      have x1 := (hbel.cell (p := ⟨b, _, none⟩) hb).trans x1
      have x2 := (hbel.cell (p := ⟨b, _, none⟩) hb).trans x2
      dsimp only at x1 x2
      have hpre2 := hpre.out
      rw [drop_at hp] at hpre2
      have hokx := hpre2.ok _ (List.mem_cons_self ..)
      unfold Okp at hokx
      dsimp only at hokx
      have hj0 : (0 : Int) ≤ (j : Int) := Int.natCast_nonneg _
      have hj1 : (j : Int) < (n2 : Int) := by omega
      have hbx := hbel.alloc hzr (.cells #[.int .i64 p1, .int .i64 p2] 48)
      rcases List.eq_nil_or_concat acc with rfl | ⟨acc', ⟨q1, q2⟩, hac⟩
      · have HST := Lib.hid hpre2.first
        obtain ⟨a3, n3, c3, rfl, hn3, hd3⟩ := hown.dn
        obtain rfl : n3 = 0 := hn3
        have hown1 := (hown.alloc (.cells #[.int .i64 p1, .int .i64 p2] 48)).alloc (.cells #[.int .i64 p1, .int .i64 p2] 48)
        have hb3 := hbx.alloc (by simp; omega) (.cells #[.int .i64 p1, .int .i64 p2] 48)
        clear hcell hp hpre hpre2 hd3
        have hown1 := (hown.alloc (.cells #[.int .i64 p1, .int .i64 p2] 48)).alloc (.cells #[.int .i64 p1, .int .i64 p2] 48)
        have hb3 := hbx.alloc (by simp; omega) (.cells #[.int .i64 p1, .int .i64 p2] 48)
        go_wp2_with fail
        go_quiet (fail)
        go_wp2_with (at_builtin; refine wpList_append_ds rfl (.tmp 47) (.tmp 49) 23 48 rfl Tryz.underlying23 w2.heap.size i0 hi hz0 hz1 hz2 _ _ rfl hown1 _ 1 1 [(p1, p2)] rfl (Ds.one _ _ _ _ _ (by simp)) (by first | (simp only [List.length_append, List.length_cons, List.length_nil] at hacc ⊢; omega) | simp) (by simp; omega) ?_)
        intro v4 w4 hown4 hgr4
        have hb4 := (bdr hb3 _).grown hgr4 (by simp; omega) (fun b hb => (hown.lt b hb).1)
        clear hgr4 hown1 hown hbel hb3 hbx x1 x2
        go_wp2_with fail
        go_roundw
        case rel => exact ⟨j + 1, [(p1, p2)], by omega, by go_num, by simp at hacc ⊢ <;> omega, hown4, HST.out, hb4⟩
        case measure => simp [intOf]; omega
      · rw [List.concat_eq_append] at hac
        subst hac
        obtain ⟨m, hm⟩ : ∃ m, acc'.length = m := ⟨_, rfl⟩
        obtain ⟨g, c3, rfl, hgb, hgl, hgc, hgm, y1, y2, hfz⟩ := hown.last hm
        have HM := Lib.hid hm
        have hmj : m + 1 ≤ j := by rw [List.length_append, hm] at hacc; exact hacc
        have hokq := (can_init hpre2.ca).2.1
        unfold Okp at hokq
        unfold maxLen at hgm
        dsimp only at y1 y2 hokq
        have e2 : IntKind.i64.wrap (q2 + 1) = q2 + 1 := by rw [IntKind.wrap_i64]; omega
        have hm0 : (0 : Int) ≤ (m : Int) := Int.natCast_nonneg _
        have hf1 := hfz (m * 2 + 1)
        by_cases hle : p1 ≤ q2 + 1
        · have HST := Lib.hid (hpre2.merge hle)
          dsimp only at HST
          clear hcell hp hpre hpre2 hm
          rcases Int.lt_or_le q2 p2 with hlt | hlt
          · have e1 : max q2 p2 = p2 := by omega
            rw [e1] at HST
            have hb5 := hbx.setCell (p := ⟨g, m * 2 + 1, none⟩) hgb (.int .i64 p2)
            have hown5 := (hown.alloc (.cells #[.int .i64 p1, .int .i64 p2] 48)).stored' HM.out p2
            dsimp only at hown5
            go_wp2_with fail
            go_quiet (fail)
            go_wp2_with fail
            go_region
            go_wp2_with fail
            go_roundw
            case rel => exact ⟨j + 1, acc' ++ [(q1, p2)], by omega, by go_num, by simp at hacc ⊢ <;> omega, hown5, HST.out, bdr hb5 _⟩
            case measure => simp [intOf]; omega
          · have e1 : max q2 p2 = q2 := by omega
            rw [e1] at HST
            have hb5 := hbx.setCell (p := ⟨g, m * 2 + 1, none⟩) hgb (.int .i64 q2)
            have hown5 := (hown.alloc (.cells #[.int .i64 p1, .int .i64 p2] 48)).stored' HM.out q2
            dsimp only at hown5
            go_wp2_with fail
            go_quiet (fail)
            go_wp2_with fail
            go_region
            go_wp2_with fail
            go_roundw
            case rel => exact ⟨j + 1, acc' ++ [(q1, q2)], by omega, by go_num, by simp at hacc ⊢ <;> omega, hown5, HST.out, bdr hb5 _⟩
            case measure => simp [intOf]; omega
        · have HST := Lib.hid (hpre2.next hle)
          clear hcell hp hpre hpre2 hm
          have hown1 := (hown.alloc (.cells #[.int .i64 p1, .int .i64 p2] 48)).alloc (.cells #[.int .i64 p1, .int .i64 p2] 48)
          have hb3 := hbx.alloc (by simp; omega) (.cells #[.int .i64 p1, .int .i64 p2] 48)
          go_wp2_with fail
          go_quiet (fail)
          go_wp2_with (at_builtin; refine wpList_append_ds rfl (.tmp 47) (.tmp 49) 23 48 rfl Tryz.underlying23 w2.heap.size i0 hi hz0 hz1 hz2 _ _ rfl hown1 _ 1 1 [(p1, p2)] rfl (Ds.one _ _ _ _ _ (by simp)) (by first | (simp only [List.length_append, List.length_cons, List.length_nil] at hacc ⊢; omega) | simp) (by simp; omega) ?_)
          intro v4 w4 hown4 hgr4
          have hb4 := (bdr hb3 _).grown hgr4 (by simp; omega) (fun b hb => (hown.lt b hb).1)
          clear hgr4 hown1 hown hbel hb3 hbx x1 x2
          go_wp2_with fail
          go_roundw
          case rel => exact ⟨j + 1, (acc' ++ [(q1, q2)]) ++ [(p1, p2)], by omega, by go_num, by simp at hacc ⊢ <;> omega, by rw [List.append_assoc]; exact hown4, HST.out, hb4⟩
          case measure => simp [intOf]; omega
    · obtain rfl : j = n2 := by omega
      have hst : JoinI ys acc [] := by
        have := hpre.out
        rwa [List.drop_of_length_le (by rw [HY.out]; exact Nat.le_refl _)] at this
      have HE := Lib.hid hst.stop
      obtain ⟨a3, n3, c3, rfl, hn3, hs3⟩ := hown.dn
      have HS3 := Lib.hid hs3
      have r0 := (hbel.cell (p := ⟨w.heap.size, 0, none⟩) (show w.heap.size < w2.heap.size by omega)).trans k0
      have rf := (hbel.frozen (p := ⟨w.heap.size, 0, none⟩) (show w.heap.size < w2.heap.size by omega)).trans f0
      have hbw2 : RowKit.Below w.heap.size w wr := hbw1.trans (hbel.mono (by omega))
      clear hpre hst hs3 hown hn3
      go_wp2_with fail
      have cs := World.cell?_setCell_same wr ⟨w.heap.size, 0, none⟩ (.slice a3 n3 c3) r0
      refine bodyPost_ret (v := .agg #[.slice a3 n3 c3]) (by simp [results, Tryz.results57, go_sem, cs]) rfl ?_
      exact ⟨a3, n3, c3, acc, rfl, HS3.out.set r0 (by intro x e; cases e), HE.out.1, fun d => (HE.out.2 d).trans (HF.out d), hbw2.setCell (Nat.le_refl _) _⟩

/-- The result of Of. -/
def OfP (w : World) (l : List (Int × Int)) (e : Ending) (w' : World) : Prop :=
  ∃ a n cap r, e = .returned (.tuple #[.agg #[.slice a n cap], .int .i64 (errL l)]) ∧ Ds w' a n cap r ∧ Can r ∧ (∀ d, Dm r d = match decide (errL l = 0) with | true => Dm l d | false => false) ∧ RowKit.Below w.heap.size w w'
end Go.Proofs.YtfdododighjjpaaGreatDoor.Dy
