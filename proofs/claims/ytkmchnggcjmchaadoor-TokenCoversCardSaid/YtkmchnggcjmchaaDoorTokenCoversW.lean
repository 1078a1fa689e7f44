/- The walk of TokenCovers. -/
import Derived.Test.YtkmchnggcjmchaaDoorTkL
import Derived.Test.YtkmchnggcjmchaaDoorTkJ
import Derived.Test.YtkmchnggcjmchaaDoorTcA
import Derived.Test.YtkmchnggcjmchaaDoorShS
import Derived.Test.YtkmchnggcjmchaaDoorReh
namespace Go.Proofs.YtkmchnggcjmchaaDoor
open Go.RowKit Go.PlainAid
set_option linter.unusedVariables false
set_option linter.unusedSimpArgs false
set_option maxHeartbeats 4000000
set_option maxRecDepth 20000

/-- The library's variable holds some number. -/
def Mxl (w : World) : Prop := ∃ m, w.cell? ⟨0, 0, none⟩ = some (.int .i64 m)
theorem Mxl.below {w w' : World} (h : Mxl w) (hb : Below w.heap.size w w') : Mxl w' := by
  obtain ⟨m, hm⟩ := h
  exact ⟨m, (hb.cell (p := ⟨0, 0, none⟩) (World.block_lt_of_cell? _ _ hm)).trans hm⟩
theorem lines_len (c : UInt8) : ∀ (l : List UInt8), ∀ y ∈ linesL c l, y.length ≤ l.length
  | [], y, hy => by simp [linesL] at hy; rw [hy]; exact Nat.le_refl _
  | b :: l, y, hy => by
    have ih := lines_len c l
    by_cases h : b = c
    · subst h
      rw [linesL_cut] at hy
      rcases List.mem_cons.1 hy with rfl | hy
      · simp
      · have := ih y hy
        rw [List.length_cons]; omega
    · obtain ⟨z, t, e⟩ := List.exists_cons_of_ne_nil (linesL_ne c l)
      rw [linesL_put h e] at hy
      rw [e] at ih
      rcases List.mem_cons.1 hy with rfl | hy
      · have := ih z (by simp)
        simp only [List.length_cons]; omega
      · have := ih y (by simp [hy])
        rw [List.length_cons]; omega
theorem split_c (s : ByteArray) (w : World) (hm : Mxl w) (hs : s.size ≤ 400) :
    Calls Tryd.prog 8 #[.string s, .string ⟨#[10]⟩] w fun e w' => ∃ (m : Nat) (xs : List ByteArray), xs.length = m ∧ e = .returned (.slice (some ⟨w.heap.size, 0, none⟩) m m) ∧ (∀ (j : Nat) x, xs[j]? = some x → w'.cell? ⟨w.heap.size, j, none⟩ = some (.string x)) ∧ w.heap.size < w'.heap.size ∧ m ≤ 401 ∧ xs.map (·.data.toList) = linesL 10 s.data.toList ∧ Below w.heap.size w w' := by
  obtain ⟨m, hm⟩ := hm
  refine (Tryd.strings_Split s ⟨#[10]⟩ m w (by omega) hm (by decide)).mono ?_
  rintro e w' ⟨rfl, rfl⟩
  have hl := Lib.splitB_all ⟨#[10]⟩ (by decide) 0 _ s rfl
  have hle := Lib.countB_le ⟨#[10]⟩ (by decide) s.size s (Nat.le_refl _)
  refine ⟨_, Lib.splitB ⟨#[10]⟩ 0 (Lib.countB s ⟨#[10]⟩) s, hl, rfl, fun j x hx => ?_, by simp, by omega, ?_, (Below.refl _ _).alloc (Nat.le_refl _) _⟩
  · have h2 : ((Lib.splitB ⟨#[10]⟩ 0 (Lib.countB s ⟨#[10]⟩) s).map Value.string)[j]? = some (.string x) := by rw [List.getElem?_map, hx]; rfl
    have := cells_new w ((Lib.splitB ⟨#[10]⟩ 0 (Lib.countB s ⟨#[10]⟩) s).map Value.string).toArray 9 w.heap.size rfl j (.string x) h2
    rwa [Addr.add_lit, Nat.zero_add] at this
  · rw [Lib.splitB_data]
    have hc : Lib.countB s ⟨#[10]⟩ = s.data.toList.count 10 := Lib.count_one 10 s.data.toList
    rw [hc]
    exact split_lines 10 _
theorem cut_c (x : ByteArray) (w : World) (hm : Mxl w) (hs : x.size ≤ 400) :
    Calls Tryd.prog 9 #[.string x, .string ⟨#[35]⟩] w fun e w' => ∃ (b : ByteArray) (t : Bool), e = .returned (.tuple #[.string ⟨(Lib.cut x.data.toList [35]).1.toArray⟩, .string b, .bool t]) ∧ Below w.heap.size w w' := by
  obtain ⟨m, hm⟩ := hm
  refine (Tryd.strings_Cut x ⟨#[35]⟩ m w (by omega) hm).mono ?_
  rintro e w' ⟨rfl, n, rfl⟩
  exact ⟨_, _, rfl, ⟨rfl, rfl, rfl, Nat.le_refl _, fun _ _ => rfl⟩⟩
theorem trim_c (x : List UInt8) (w : World) (hg : goodL x) (hs : x.length ≤ 400) :
    Calls Tryd.prog 10 #[.string ⟨(Lib.cut x [35]).1.toArray⟩, .string ⟨#[32, 9, 13]⟩] w fun e w' => ∃ t : ByteArray, e = .returned (.string t) ∧ t.toList.isEmpty = true ∧ Below w.heap.size w w' := by
  have hl : (Lib.cut x [35]).1.length ≤ 400 := by
    rw [cut_one]; exact Nat.le_trans (List.takeWhile_sublist _).length_le hs
  refine (Any.strings_Trim_laid Tryd.lays160 (by kernel_rfl) ⟨(Lib.cut x [35]).1.toArray⟩ ⟨#[32, 9, 13]⟩ w (by show (Lib.cut x [35]).1.toArray.size ≤ _; rw [List.size_toArray]; omega) (by decide) (ascii_of_all (by decide))).mono ?_
  rintro e w' ⟨rfl, hb⟩
  refine ⟨_, rfl, ?_, hb⟩
  rw [ByteArray.toList_eq]
  show (Lib.trimS (Lib.cut x [35]).1 [32, 9, 13]).isEmpty = true
  rw [trim_good hg]; rfl
theorem cov_step {l : List UInt8} {p : Nat} {x : Tok} {r : List Tok} (h : Cov l p (x :: r)) :
    p ≤ x.pos ∧ x.pos + x.text.length ≤ l.length ∧ (l.drop x.pos).take x.text.length = x.text ∧ GapOk l p x.pos ∧ (x.kind = 0 ↔ r = []) ∧ (x.text = [] ↔ r = []) ∧ (r ≠ [] → Cov l (x.pos + x.text.length) r) ∧ (r = [] → x.pos + x.text.length = l.length) := by
  cases r with
  | nil =>
    obtain ⟨h1, h2, h3, h4, h5⟩ := h
    refine ⟨h4, by rw [h2]; simp; omega, by rw [h2]; simp, h5, ⟨fun _ => rfl, fun _ => h1⟩, ⟨fun _ => rfl, fun _ => h2⟩, fun h => absurd rfl h, fun _ => by rw [h2]; simp; omega⟩
  | cons y r =>
    obtain ⟨h1, h2, h3, h4, h5, h6, h7⟩ := h
    exact ⟨h3, h4, h5, h6, ⟨fun e => absurd e h1, fun e => by cases e⟩, ⟨fun e => absurd e h2, fun e => by cases e⟩, fun _ => h7, fun e => by cases e⟩
theorem tokenCovers_walk (s : ByteArray) (w : World) (hM : Mxl w) (hs : s.size ≤ 9223372036854775807) :
    Calls Tryd.prog 3 #[.string s] w fun e w' => e = .returned (.bool true) ∧ Below w.heap.size w w' := by
  obtain ⟨s', hs'⟩ : ∃ s', s' = s.extract 0 400 := ⟨_, rfl⟩
  have hsz' : s'.size ≤ 400 := by rw [hs']; simp; omega
  have HS := Lib.hid hs'
  have HM := Lib.hid hM
  clear hs' hM
  go_enter Tryd.func3, Tryd.ntmps3
  go_wp2_with fail
  refine (awake_any _).mono ?_
  rintro e w1 ⟨rfl, hb1⟩
  go_wp2_with fail
  refine (cut_any s _ hs).mono ?_
  rintro e w2 ⟨rfl, rfl⟩
  rw [← HS.out]
  go_wp2_with fail
  refine (scan_any s' _ (by omega)).mono ?_
  rintro e w2 ⟨v, rfl, hb2, ho2⟩
  have hbel := hb1.trans (hb2.mono hb1.size)
  have hsl := Sl.owned ho2
  have HB := Lib.hid hbel
  clear hb1 hb2 hbel ho2
  obtain ⟨l, el⟩ : ∃ l, s'.data.toList = l := ⟨_, rfl⟩
  have hll : l.length = s'.size := by rw [← el]; rfl
  rw [el] at hsl ⊢
  have EL := Lib.hid el
  clear el
  by_cases h0 : (scanR l).2.2 = 0
  · have hP : scanP l = scanR l := by unfold scanP; rw [if_neg (by omega), if_pos h0]
    rw [hP] at hsl ⊢
    have hcov := scanR_cov h0
    rw [h0]
    obtain ⟨ts, ets⟩ : ∃ ts, (scanR l).1 = ts := ⟨_, rfl⟩
    rw [ets] at hsl hcov
    obtain ⟨n, en⟩ : ∃ n, ts.length = n := ⟨_, rfl⟩
    obtain ⟨h1, a, ca, rfl, hac, ham, hcells⟩ := hsl
    rw [en] at hac hcells ⊢
    have hn0 : 0 < n := by
      rw [← en]
      cases ts with
      | nil => exact hcov.elim
      | cons x r => simp
    obtain ⟨bt0, o0, rfl, hbl, hcl⟩ := hcells.resolve_left (by omega)
    have HC := Lib.hid hcl
    have HCOV := Lib.hid hcov
    have HN := Lib.hid en
    unfold maxLen at ham
    clear hP h0 ets en h1 hcells hcov hcl
    simp only [Int.natCast_zero] 
    go_upto_region 9 with fail
    go_loopw [6, 31] (fun v6 v31 wr => ∃ j p : Nat, j ≤ n ∧ v31 = .int .i64 j ∧ v6 = .int .i64 p ∧ p ≤ s'.size ∧ Hid ((j < n → Cov l p (ts.drop j)) ∧ (j = n → p = l.length)) ∧ Below w.heap.size w wr ∧ Below w2.heap.size w2 wr) (fun _ v _ => n - (intOf v).toNat)
    case atStart => exact ⟨0, 0, Nat.zero_le _, rfl, rfl, Nat.zero_le _, ⟨fun _ => HCOV.out, fun e => by omega⟩, HB.out, Below.refl _ _⟩
    case round =>
      obtain ⟨j, p, hj, rfl, rfl, hps, HJ, hbel, hbel2⟩ := hrel
      have hzr := hbel.size
      have hj0 : (0 : Int) ≤ (j : Int) := Int.natCast_nonneg _
      by_cases hjn : j < n
      · have hj1 : (j : Int) < (n : Int) := by omega
        obtain ⟨x, hx⟩ : ∃ x, ts[j]? = some x := ⟨_, List.getElem?_eq_getElem (by rw [HN.out]; exact hjn)⟩
        have hdrop : ts.drop j = x :: ts.drop (j + 1) := by
          obtain ⟨hlt, rfl⟩ := List.getElem?_eq_some_iff.1 hx
          exact List.drop_eq_getElem_cons hlt
        have hcv := HJ.out.1 hjn
        rw [hdrop] at hcv
        obtain ⟨c1, c2, c3, c4, c5, c6, c7, c8⟩ := cov_step hcv
        have hlast : ts.drop (j + 1) = [] ↔ j + 1 = n := by rw [List.drop_eq_nil_iff, HN.out]; omega
        obtain ⟨y0, y1, y2, y3⟩ := tokP_cells (w := wr) (fun i hi => (hbel2.cell (p := ⟨bt0, o0 + i, none⟩) hbl).trans (HC.out i hi)) j x hjn hx
        have hbl2 : bt0 < wr.heap.size := Nat.lt_of_lt_of_le hbl hbel2.size
        obtain ⟨la, ela⟩ : ∃ la, decide (j + 1 = n) = la := ⟨_, rfl⟩
        obtain ⟨tx, etx⟩ : ∃ tx : ByteArray, tx = ⟨x.text.toArray⟩ := ⟨_, rfl⟩
        rw [← etx] at y1
        have htl : tx.size = x.text.length := by rw [etx]; show x.text.toArray.size = _; simp
        have f1 : ((x.kind : Int) == 0) = la := by
          rw [← ela, Bool.eq_iff_iff, beq_iff_eq, decide_eq_true_iff]
          rw [← hlast, ← c5]; omega
        have f2 : ((j : Int) == (n : Int) - 1) = la := by rw [← ela, Bool.eq_iff_iff, beq_iff_eq, decide_eq_true_iff]; omega
        have f3 : tx.toList.isEmpty = la := by
          rw [← ela, Bool.eq_iff_iff, List.isEmpty_iff, decide_eq_true_iff, ByteArray.toList_eq, etx, ← hlast, ← c6]
        have f4 : s'.extract x.pos (x.pos + tx.size) = tx := by
          rw [etx]
          refine str_eq ?_
          rw [ext_list, EL.out, ← etx, htl, Nat.add_sub_cancel_left]; exact c3
        have f5 : x.pos + tx.size ≤ s'.size := by rw [htl, ← hll]; exact c2
        have HGAP := Lib.hid c4
        have HNX : Hid ((j + 1 < n → Cov l (x.pos + tx.size) (ts.drop (j + 1))) ∧ (j + 1 = n → x.pos + tx.size = l.length)) := by
          rw [htl]
          exact ⟨fun h => c7 (fun e => by have := hlast.1 e; omega), fun h => c8 (hlast.2 h)⟩
        clear hdrop hcv c2 c3 c4 c5 c6 c7 c8 hlast HJ etx htl ela hx
        generalize x.pos = ps at y3 c1 f4 f5 HGAP HNX
        generalize x.n = nv0 at y2
        generalize (x.kind : Int) = kd at y0 f1
        generalize hnv : (nv0 : Int) = nv at y2
        clear hnv x
        generalize etl : tx.size = tl at f4 f5 HNX
        have hw1 : IntKind.i64.wrap ((ps : Int) + (tl : Int)) = ((ps + tl : Nat) : Int) := by rw [IntKind.wrap_i64]; omega
        have c9 : ps ≤ ps + tl := Nat.le_add_right _ _
        generalize ps + tl = q at f4 f5 HNX hw1 c9
        go_upto_region 11 with fail
        obtain ⟨W8, hW8⟩ : ∃ W8, wr.alloc (.cells #[.int .u8 kd, .string tx, .int .i64 nv, .int .i64 (ps : Nat)] 30) = W8 := ⟨_, rfl⟩
        have hbk : Blk4 W8 wr.heap.size (.int .u8 kd) (.string tx) (.int .i64 nv) (.int .i64 (ps : Nat)) := by rw [← hW8]; exact Blk4.new _ _ _ _ _ _
        have hb8 : Below w.heap.size w W8 := by rw [← hW8]; exact hbel.alloc hzr _
        have hb82 : Below w2.heap.size w2 W8 := by rw [← hW8]; exact hbel2.alloc hbel2.size _
        have hlt8 : wr.heap.size < W8.heap.size := by rw [← hW8]; simp
        rw [hW8]
        clear hW8 y0 y1 y2 y3
        generalize wr.heap.size = g8 at hbk hlt8 ⊢
        have hbkd : Blk4 W8.drew g8 (.int .u8 kd) (.string tx) (.int .i64 nv) (.int .i64 (ps : Nat)) := hbk
        have q0 := hbkd.1
        have q1 := hbkd.2.1
        have q2 := hbkd.2.2.1
        have q3 := hbkd.2.2.2.1
        have l1 : ¬ (ps : Int) < (p : Int) := by omega
        have l3 : ¬ ps < p := by omega
        have hw2 : IntKind.i64.wrap ((n : Int) - 1) = (n : Int) - 1 := by rw [IntKind.wrap_i64]; omega
        have l4 : ¬ s'.size < q := by omega
        have l2 : ¬ (s'.size : Int) < (q : Int) := by omega
        go_wp2_with fail
        refine wp_region_noPanic ?_
        refine R2.region_ord (S := fun w' => w'.cell? ⟨g8, 0, none⟩ = some (.int .u8 kd) ∧ w'.cell? ⟨g8, 1, none⟩ = some (.string tx) ∧ w'.cell? ⟨g8, 2, none⟩ = some (.int .i64 nv) ∧ w'.cell? ⟨g8, 3, none⟩ = some (.int .i64 (ps : Nat))) [0, 1, 2, 3, 4, 5, 6, 7, 8, 9, 10, 11, 12, 13, 14, 15, 16, 17, 18, 19, 20, 21, 22, 23, 24, 25, 26, 27, 28, 29, 30, 31, 32, 33, 34, 35, 36, 37, 38, 39, 40, 41, 42, 43, 44, 45, 46, 47, 48, 49] (by kernel_rfl) (by decide +kernel) (fun _ _ _ _ _ h => h) (⟨q0, q1, q2, q3⟩) (fun _ => ?_)
        repeat (first
          | (refine R2.ord_skip rfl rfl rfl ?_; (try simp only [Act.put, List.setIfInBounds_toArray, List.set_cons_zero, List.set_cons_succ]))
          | (refine' R2.ord_light (v := _) rfl rfl rfl (fun w' hSw => ?_) ?_; rotate_left; (focus ((try dsimp only at hSw); go_simp <;> (with_reducible rfl))); (try simp only [Act.put, List.setIfInBounds_toArray, List.set_cons_zero, List.set_cons_succ])))
        refine R2.ord_nil (NoPanic.normal ?_)

        have hb9 : Below w.heap.size w W8.drew := hb8.drew
        have hb92 : Below w2.heap.size w2 W8.drew := hb82.drew
        obtain ⟨W9, hW9⟩ : ∃ W9, W8.drew = W9 := ⟨_, rfl⟩
        have hlt9 : g8 < W9.heap.size := by rw [← hW9]; exact hlt8
        rw [hW9] at hbkd hb9 hb92 q0 q1 q2 q3 ⊢
        clear hW9 hbk hb8 hb82 hlt8 hbel hbel2
        have hpsz : ps ≤ s'.size := by omega
        obtain ⟨gs, egs⟩ : ∃ gs, s'.extract p ps = gs := ⟨_, rfl⟩
        have hgs : gs.size ≤ 400 := by rw [← egs, ByteArray.size_extract]; omega
        have hgood : ∀ y ∈ linesL 10 gs.data.toList, goodL y := by
          rw [← egs, ext_list, EL.out]; exact HGAP.out
        have HGOOD := Lib.hid hgood
        have HB9 := Lib.hid hb9
        have HB92 := Lib.hid hb92
        have HBK := Lib.hid hbkd
        clear hgood hb9 hb92 hbkd HGAP l1 l2 l3 l4 hw2 f1 f2 f3 f4
        go_upto_region 14 with (go_at_call 8; (with_reducible refine (split_c gs _ (HM.out.below HB9.out) hgs).mono ?_); rintro e w5 ⟨m, xs, hxs, rfl, hcell, hlt5, hm4, hmap, hb⟩; have HXS := Lib.hid hxs; have HCELL := Lib.hid hcell; have HMAP := Lib.hid hmap; have HB5 := Lib.hid hb; clear hxs hcell hmap hb egs)
        obtain ⟨g5, eg5⟩ : ∃ g5, W9.heap.size = g5 := ⟨_, rfl⟩
        rw [eg5] at HCELL hlt5 ⊢
        have HB95 := Lib.hid (HB9.out.trans (HB5.out.mono HB9.out.size))
        have HB925 := Lib.hid (HB92.out.trans (HB5.out.mono HB92.out.size))
        have HBK5 := Lib.hid (HBK.out.below HB5.out hlt9)
        clear eg5 q0 q1 q2 q3 hbl2
        go_loopw [93] (fun v93 wq => ∃ k : Nat, k ≤ m ∧ v93 = .int .i64 k ∧ Below w5.heap.size w5 wq) (fun v _ => m - (intOf v).toNat)
        case atStart => exact ⟨0, Nat.zero_le _, rfl, Below.refl _ _⟩
        case round =>
          obtain ⟨k, hk, rfl, hcur⟩ := hrel
          have hk0 : (0 : Int) ≤ (k : Int) := Int.natCast_nonneg _
          by_cases hkm : k < m
          · obtain ⟨y, hy⟩ : ∃ y, xs[k]? = some y := ⟨_, List.getElem?_eq_getElem (by rw [HXS.out]; exact hkm)⟩
            have hk1 : (k : Int) < (m : Int) := by omega
            have hm4i : (m : Int) ≤ 401 := by omega
            have hz0 := (hcur.cell (p := ⟨g5, k, none⟩) hlt5).trans (HCELL.out k y hy)
            have hlt6 : g5 < wr.heap.size := Nat.lt_of_lt_of_le hlt5 hcur.size
            have hyin : y.data.toList ∈ linesL 10 gs.data.toList := by
              rw [← HMAP.out]
              exact List.mem_map.2 ⟨y, List.mem_of_getElem? hy, rfl⟩
            have hyg := HGOOD.out _ hyin
            have hyl : y.data.toList.length ≤ 400 := by
              have h1 := lines_len 10 gs.data.toList _ hyin
              have h2 : gs.data.toList.length = gs.size := rfl
              omega
            have HYG := Lib.hid hyg
            have HYL := Lib.hid hyl
            have HYS : Hid (y.size ≤ 400) := hyl
            have HCUR := Lib.hid hcur
            have HMX : Hid (∀ W, Below wr.heap.size wr W → Mxl W) := fun W hw => HM.out.below ((HB95.out.trans (hcur.mono HB95.out.size)).trans (hw.mono (Nat.le_trans HB95.out.size hcur.size)))
            clear hy hyin hyg hyl hcur
            go_wp2_with (first
              | (go_at_call 9; (with_reducible refine (cut_c y _ (HMX.out _ (Below.refl _ _)) HYS.out).mono ?_); rintro e w6 ⟨bb, tt, rfl, hb⟩; have HB6 := Lib.hid (HCUR.out.trans (hb.mono HCUR.out.size)); clear hb)
              | (go_at_call 10; (with_reducible refine (trim_c y.data.toList _ HYG.out HYL.out).mono ?_); rintro e w7 ⟨ty, rfl, hty, hb⟩; have HB7 := Lib.hid (HB6.out.trans (hb.mono HB6.out.size)); clear hb))
            go_roundw
            case rel => exact ⟨k + 1, by omega, by go_num, HB7.out⟩
            case measure => simp [intOf]; omega
          · have hkm2 : k = m := by omega
            subst hkm2
            have hbk := HBK5.out.below hcur (Nat.lt_of_lt_of_le hlt9 (HB5.out.size))
            have z1 := hbk.2.1
            have z3 := hbk.2.2.2.1
            have HF1 := Lib.hid (HB95.out.trans (hcur.mono HB95.out.size))
            have HF2 := Lib.hid (HB925.out.trans (hcur.mono HB925.out.size))
            clear hbk hcur
            go_wp2_with fail
            go_roundw
            case rel => exact ⟨j + 1, q, by omega, by go_num, by go_num, f5, ⟨fun h => HNX.out.1 h, fun h => HNX.out.2 h⟩, HF1.out, HF2.out⟩
            case measure => simp [intOf]; omega
      · have hjn2 : j = n := by omega
        have hp := HJ.out.2 hjn2
        have hp2 : p = s'.size := by omega
        subst hp2
        have HBF := Lib.hid hbel
        clear hp HJ hbel hbel2
        subst hjn2
        go_wp2_with fail
        go_ret
        exact ⟨rfl, HBF.out⟩
  · have hP : scanP l = ([], (scanR l).2) := by unfold scanP; rw [if_neg (by omega), if_neg h0]
    rw [hP] at hsl ⊢
    obtain ⟨h1, a, ca, rfl, hac, ham, hcells⟩ := hsl
    dsimp only
    have he : ¬ ((scanR l).2.2 : Int) = 0 := by omega
    generalize ((scanR l).2.2 : Int) = e0 at he
    generalize ((scanR l).2.1 : Int) = e1
    clear hP h0 hcells
    go_wp2_with fail
    go_ret
    exact ⟨rfl, HB.out⟩
end Go.Proofs.YtkmchnggcjmchaaDoor
