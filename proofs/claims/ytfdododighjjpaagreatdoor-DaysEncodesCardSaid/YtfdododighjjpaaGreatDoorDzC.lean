/- Contract: Parse. -/
import Derived.Test.YtfdododighjjpaaGreatDoorDzB
import Derived.RegionTactic
import Derived.BigRegion
import Derived.Deep.DeepCutAuto
import Derived.Deep.CutBlock
namespace Go.Proofs.YtfdododighjjpaaGreatDoor.Dy
open Go.RowKit Go.PlainAid
set_option linter.unusedVariables false
set_option linter.unusedSimpArgs false
set_option maxHeartbeats 8000000
set_option maxRecDepth 20000
theorem ne_list {a b : ByteArray} (h : a ≠ b) : (a.toList == b.toList) = false := by
  rw [ByteArray.toList_eq, ByteArray.toList_eq]
  exact beq_eq_false_iff_ne.2 fun e => h (by cases a; cases b; simp at e; rw [e])
theorem idx_bound (l s : List UInt8) : (Lib.index l s).toNat ≤ l.length := by
  induction l with
  | nil => rw [Lib.index]; split <;> simp
  | cons b l ih =>
    rw [Lib.index]
    split
    · simp
    · split
      · simp
      · rw [List.length_cons]; omega
theorem cut_len (l s : List UInt8) : (Lib.cut l s).1.length ≤ l.length ∧ (Lib.cut l s).2.1.length ≤ l.length := by
  unfold Lib.cut
  split
  · simp [List.length_take, List.length_drop]; omega
  · simp
theorem box_w (w W1 : World) (T : TypeId) (h : (w.alloc (.cells #[.slice none 0 0] T)).alloc (.cells #[.slice none 0 0] T) = W1) :
    W1.heap.size = w.heap.size + 2 ∧ W1.cell? ⟨w.heap.size, 0, none⟩ = some (.slice none 0 0) ∧ W1.frozen? ⟨w.heap.size, 0, none⟩ = false ∧ W1.cell? ⟨w.heap.size + 1, 0, none⟩ = some (.slice none 0 0) ∧ W1.frozen? ⟨w.heap.size + 1, 0, none⟩ = false := by
  subst h
  obtain ⟨h1, h2, h3, h4, h5⟩ := box2 (w := w) (x := .slice none 0 0) (y := .slice none 0 0) (T1 := T) (T2 := T) (RowKit.Below.refl _ _)
  refine ⟨by simp, h1, ?_, h2, h3⟩
  obtain ⟨a1, a2⟩ := new1 w (.slice none 0 0) T
  exact (((RowKit.Below.refl _ _).alloc (Nat.le_refl _) _).frozen (p := ⟨w.heap.size, 0, none⟩) (by simp)).trans a2
theorem le_lines {xs : List ByteArray} {m : Nat} {L : List (List UInt8)} (h1 : xs.length = m) (h2 : xs.map (·.data.toList) = L) (h3 : L.length ≤ 100000) : m ≤ 100000 := by
  rw [← h2, List.length_map] at h3; omega
theorem none_nil : textL [] = noneT := by unfold textL; rw [if_pos rfl]
theorem all_text {r : List (Int × Int)} (hr : Can r) (h : ∀ d, Dm r d = inD d) : textL r = allT := by
  have e : r = [(0, 30000)] := can_ext hr can_all fun d => by
    rw [h]
    apply bool_ext
    rw [inD_iff, dm_cons_iff, dm_nil]
    simp
  rw [e]; decide +kernel
theorem of_piece {s : List UInt8} {l r : List (Int × Int)} (h1 : s ≠ noneT) (h2 : s ≠ allT) (ha : AllOk (linesL 44 s) l) (he : errL l = 0) (hr : Can r) (hm : ∀ d, Dm r d = match decide (errL l = 0) with | true => Dm l d | false => false) : ∀ r', Can r' → textL r' = s → r' = r := by
  intro r' hr' ht
  have e := text_is (r' := []) h1 h2 ha hr' ht
  subst e
  refine can_ext hr' hr fun d => ?_
  rw [hm d, decide_eq_true he]
theorem of_bad {s : List UInt8} {l : List (Int × Int)} (h1 : s ≠ noneT) (h2 : s ≠ allT) (ha : AllOk (linesL 44 s) l) (he : errL l ≠ 0) : ∀ r', Can r' → textL r' ≠ s := by
  intro r' hr' ht
  have e := text_is (r' := []) h1 h2 ha hr' ht
  subst e
  exact he (ok_errL hr'.1)
set_option maxRecDepth 100000 in
theorem parse_any (s : ByteArray) (hs : s.size ≤ 200000) (hlin : (linesL 44 s.data.toList).length ≤ 100000) (w : World) (hW : Wz w) :
    Calls Tryz.prog 7 #[.string s] w (ParseP s w) := by
  obtain ⟨i0, hi, hz0, hz1, hz2⟩ := info_parts infoSpan
  have HW := Lib.hid hW
  obtain ⟨W1, hW1⟩ : ∃ W1, (w.alloc (.cells #[.slice none 0 0] 25)).alloc (.cells #[.slice none 0 0] 25) = W1 := ⟨_, rfl⟩
  have hBW : RowKit.Below w.heap.size w W1 := by rw [← hW1]; exact ((RowKit.Below.refl _ _).alloc (Nat.le_refl _) _).alloc (by simp) _
  obtain ⟨hws', b0, g0, b1, g1⟩ := box_w w W1 _ hW1
  have hws : w.heap.size + 2 ≤ W1.heap.size := by omega
  clear hws'
  have HBW := Lib.hid hBW
  have HW1 := Lib.hid hW1
  clear hW hBW hW1
  go_enter Tryz.func7, Tryz.ntmps7
  go_upto_block 0 with fail
  rw [HW1.out]
  go_cut [] (fun wx => ∃ a n c r, RowKit.Below w.heap.size w wx ∧ w.heap.size + 2 ≤ wx.heap.size ∧ wx.cell? ⟨w.heap.size, 0, none⟩ = some (.slice none 0 0) ∧ wx.frozen? ⟨w.heap.size, 0, none⟩ = false ∧ wx.cell? ⟨w.heap.size + 1, 0, none⟩ = some (.slice a n c) ∧ Ds wx a n c r ∧ Can r ∧ (textL r = s.data.toList ∨ ∀ r', Can r' → textL r' = s.data.toList → r' = r))
  case first =>
    by_cases h1 : s.data.toList = noneT
    · obtain rfl : s = ⟨noneT.toArray⟩ := by rw [← h1]
      clear h1
      go_wp2_with fail
      go_meet
      exact ⟨none, 0, 0, [], HBW.out, by omega, b0, g0, b1, Ds.nil _ _ _ (by unfold maxLen; omega), can_nil, .inl none_nil⟩
    by_cases h2 : s.data.toList = allT
    · obtain rfl : s = ⟨allT.toArray⟩ := by rw [← h2]
      clear h1 h2
      go_wp2_with (go_at_call 30; (with_reducible refine (all_any _).mono ?_); rintro e w2 ⟨a, n, c, us, rfl, hd, hc, hm, hb⟩; have d1 := (hb.cell (p := ⟨w.heap.size + 1, 0, none⟩) (show w.heap.size + 1 < W1.heap.size by omega)).trans b1; have d0 := (hb.cell (p := ⟨w.heap.size, 0, none⟩) (show w.heap.size < W1.heap.size by omega)).trans b0; have k0 := (hb.frozen (p := ⟨w.heap.size, 0, none⟩) (show w.heap.size < W1.heap.size by omega)).trans g0; have k1 := (hb.frozen (p := ⟨w.heap.size + 1, 0, none⟩) (show w.heap.size + 1 < W1.heap.size by omega)).trans g1; have HD := Lib.hid hd; have HC := Lib.hid hc; have HM := Lib.hid hm; clear hd hc hm)
      go_meet
      have hz := hb.size
      exact ⟨a, n, c, us, (HBW.out.trans (hb.mono HBW.out.size)).setCell (by show w.heap.size ≤ w.heap.size + 1; omega) _, by rw [World.size_setCell]; omega, (World.cell?_setCell_other _ _ _ _ (by simp)).trans d0, by rw [World.frozen?_setCell]; exact k0, World.cell?_setCell_same _ _ _ d1, HD.out.set d1 (by intro x e; cases e), HC.out, .inl (all_text HC.out HM.out)⟩
    have e1 : (s.toList == [110, 111, 110, 101]) = false := by rw [ByteArray.toList_eq]; exact beq_eq_false_iff_ne.2 h1
    have e2 : (s.toList == [97, 108, 108]) = false := by rw [ByteArray.toList_eq]; exact beq_eq_false_iff_ne.2 h2
    have HN1 := Lib.hid h1
    have HN2 := Lib.hid h2
    clear h1 h2
    have HSP := Lib.hid (split_c s W1 (HW.out.below HBW.out) hs)
    go_wp2_with (go_at_call 31; (with_reducible refine HSP.out.mono ?_); rintro e w2 ⟨m, xs, hxl, rfl, hcell, hz2', hm, hmap, hb2⟩; have HXL := Lib.hid hxl; have HC := Lib.hid hcell; have HMP := Lib.hid hmap; have hm5 := le_lines hxl hmap hlin; have HB2 := Lib.hid hb2; clear hxl hcell hmap hb2)
    clear HSP e1 e2
    go_loopw [5, 21] (fun v5 v21 wr => ∃ (j : Nat) (l : List (Int × Int)), j ≤ m ∧ v21 = .int .i64 j ∧ Hid (AllOk ((xs.take j).map (·.data.toList)) l) ∧ l.length = j ∧ Os 48 wr w2.heap.size v5 l ∧ RowKit.Below w2.heap.size w2 wr) (fun _ v _ => m - (intOf v).toNat)
    case atStart => exact ⟨0, [], by omega, rfl, trivial, rfl, Os.nil _ _ _, RowKit.Below.refl _ _⟩
    case round =>
      obtain ⟨j, l, hj, rfl, hall, hll, hown, hbel⟩ := hrel
      have hz := hbel.size
      have hbr : RowKit.Below W1.heap.size W1 wr := HB2.out.trans (hbel.mono (by omega))
      have hbw : RowKit.Below w.heap.size w wr := HBW.out.trans (hbr.mono HBW.out.size)
      have d1 := (hbr.cell (p := ⟨w.heap.size + 1, 0, none⟩) (show w.heap.size + 1 < W1.heap.size by omega)).trans b1
      have d0 := (hbr.cell (p := ⟨w.heap.size, 0, none⟩) (show w.heap.size < W1.heap.size by omega)).trans b0
      have k0 := (hbr.frozen (p := ⟨w.heap.size, 0, none⟩) (show w.heap.size < W1.heap.size by omega)).trans g0
      have k1 := (hbr.frozen (p := ⟨w.heap.size + 1, 0, none⟩) (show w.heap.size + 1 < W1.heap.size by omega)).trans g1
      have HALL := hall
      have HBRW := Lib.hid hbw
      clear hbr hbw hall
      by_cases hjm : j < m
      · obtain ⟨x, hx⟩ : ∃ x, xs[j]? = some x := ⟨_, List.getElem?_eq_getElem (by rw [HXL.out]; exact hjm)⟩
        have cx := (hbel.cell (p := ⟨W1.heap.size, j, none⟩) hz2').trans (HC.out j x hx)
        have hxm : x.data.toList ∈ linesL 44 s.data.toList := by rw [← HMP.out]; exact List.mem_map.2 ⟨x, List.mem_of_getElem? hx, rfl⟩
        have hxs : x.size ≤ 200000 := by
          have h := lines_len 44 _ _ hxm
          have e1 : x.data.toList.length = x.size := Array.length_toList
          have e2 : s.data.toList.length = s.size := Array.length_toList
          omega
        have HX := Lib.hid hx
        have HXM := Lib.hid hxm
        have hCT := fun (W : World) (hb : RowKit.Below w.heap.size w W) => cut_c x W (HW.out.below hb) hxs
        have hlen := cut_len x.data.toList [45]
        have hlx : x.data.toList.length = x.size := Array.length_toList
        obtain ⟨⟨f, t, o⟩, hcut⟩ : ∃ q, Lib.cut x.data.toList [45] = q := ⟨_, rfl⟩
        rw [hcut] at hlen
        simp only [hcut] at hCT
        obtain ⟨fb, hfb⟩ : ∃ fb : ByteArray, ⟨f.toArray⟩ = fb := ⟨_, rfl⟩
        obtain ⟨tb, htb⟩ : ∃ tb : ByteArray, ⟨t.toArray⟩ = tb := ⟨_, rfl⟩
        simp only [hfb, htb] at hCT
        have hf : f = fb.data.toList := by rw [← hfb]
        have ht : t = tb.data.toList := by rw [← htb]
        have hfs : fb.size ≤ 200000 := by rw [← hfb]; show f.toArray.size ≤ 200000; rw [List.size_toArray]; have := hlen.1; dsimp only at this; omega
        have hts : tb.size ≤ 200000 := by rw [← htb]; show t.toArray.size ≤ 200000; rw [List.size_toArray]; have := hlen.2; dsimp only at this; omega
        have HCT := Lib.hid hCT
        have HIT := Lib.hid (fun (W : World) (hb : RowKit.Below w.heap.size w W) => itoa_any 30000 (by omega) (by omega) W (HW.out.below hb).pow)
        have hsel : ∀ tx : ByteArray, toT x.data.toList = tx.data.toList → tx.size ≤ 200000 → ((∃ v1 v2, Lib.atoiAll fb.data.toList = .ok v1 ∧ Lib.atoiAll tx.data.toList = .ok v2 ∧ Hid (PieceOk x.data.toList (v1, v2))) ∨ (((∀ v, Lib.atoiAll fb.data.toList ≠ .ok v) ∨ (∃ v1, Lib.atoiAll fb.data.toList = .ok v1) ∧ ∀ v, Lib.atoiAll tx.data.toList ≠ .ok v) ∧ Hid (∀ p, ¬ PieceOk x.data.toList p))) := by
          intro tx e1 e2
          have hp : ∀ p, PieceOk x.data.toList p ↔ Lib.atoiAll fb.data.toList = .ok p.1 ∧ Lib.atoiAll tx.data.toList = .ok p.2 := fun p => by
            unfold PieceOk; rw [hcut, e1, ← hf]
          by_cases q1 : ∃ v1, Lib.atoiAll fb.data.toList = .ok v1
          · by_cases q2 : ∃ v2, Lib.atoiAll tx.data.toList = .ok v2
            · obtain ⟨v1, q1⟩ := q1
              obtain ⟨v2, q2⟩ := q2
              exact .inl ⟨v1, v2, q1, q2, (hp (v1, v2)).2 ⟨q1, q2⟩⟩
            · exact .inr ⟨.inr ⟨q1, fun v h => q2 ⟨v, h⟩⟩, fun p h => q2 ⟨_, ((hp p).1 h).2⟩⟩
          · exact .inr ⟨.inl fun v h => q1 ⟨v, h⟩, fun p h => q1 ⟨_, ((hp p).1 h).1⟩⟩
        have hto : toT x.data.toList = if o then (if t = [] then Lib.itoa 30000 else t) else f := by unfold toT; rw [hcut]
        clear hCT hcut hlen hlx hx hxm
        have htk0 : Nat := 0
        cases o with
        | false =>
          have hT2 : toT x.data.toList = fb.data.toList := by rw [hto, ← hf]; rfl
          have hxs2 := hfs
          rcases hsel fb hT2 hxs2 with ⟨v1, v2, r1, r2, hpk⟩ | ⟨hq, hbad⟩
          · have HA1 := Lib.hid (fun (W : World) (hb : RowKit.Below w.heap.size w W) => atoi_good fb hfs _ r1 W)
            have HA2 := Lib.hid (fun (W : World) (hb : RowKit.Below w.heap.size w W) => atoi_good fb hxs2 _ r2 W)
            have HPK := Lib.hid hpk
            clear hsel r1 r2 hpk hT2 hf ht hto hfb htb
            go_wp2_with (first
              | (go_at_call 32; clear htk0; (with_reducible refine (HCT.out _ HBRW.out).mono ?_); rintro e w3 ⟨rfl, hb3⟩; have hw3 := HBRW.out.trans (hb3.mono HBRW.out.size); have tk1 : Nat := 0)
              | (go_at_call 34; clear tk1; (with_reducible refine (HA1.out _ hw3).mono ?_); rintro e w5 ⟨rfl, hb5⟩; have hw5 := hw3.trans (hb5.mono hw3.size); have hb5 := hb3.trans (hb5.mono hb3.size); have tk2 : Nat := 0)
              | (go_at_call 34; clear tk2; (with_reducible refine (HA2.out _ hw5).mono ?_); rintro e w6 ⟨rfl, hb6⟩; have hw6 := hw5.trans (hb6.mono hw5.size); have hb6 := hb5.trans (hb6.mono hb5.size); have q0 := (hb6.cell (p := ⟨w.heap.size, 0, none⟩) (show w.heap.size < wr.heap.size by omega)).trans d0; have j0 := (hb6.frozen (p := ⟨w.heap.size, 0, none⟩) (show w.heap.size < wr.heap.size by omega)).trans k0)
              | (have hown0 := hown.below (Nat.le_refl _) hb6; have hown1 := hown0.alloc (.cells #[.int .i64 v1, .int .i64 v2] 48); at_builtin; refine wpList_append_ds rfl (.tmp 54) (.tmp 58) 23 48 rfl Tryz.underlying23 w2.heap.size i0 hi hz0 hz1 hz2 _ _ rfl hown1 _ 1 1 [(v1, v2)] rfl (Ds.one _ _ _ _ _ (by simp)) (by rw [hll]; omega) (by have := hb6.size; simp; omega) ?_))
            intro v7 w7 hown7 hgr7
            have hb7 := (((hbel.trans (hb6.mono hz)).alloc (by have := hb6.size; omega) (.cells #[.int .i64 v1, .int .i64 v2] 48)).grown hgr7 (by have := hb6.size; simp; omega) (fun b hb => (hown1.lt b hb).1))
            clear hgr7 hown1 hown0 hown hbel hb3 hb5 hb6 hw3 hw5 hw6
            go_wp2_with fail
            go_roundw
            case rel =>
              refine ⟨j + 1, l ++ [(v1, v2)], by omega, by go_num, ?_, by simp [hll], hown7, hb7⟩
              show AllOk _ _
              rw [take_snoc' HX.out, List.map_append]
              exact all_snoc HALL.out HPK.out
            case measure => simp [intOf]; omega
          · have HBD := Lib.hid hbad
            rcases hq with r1 | ⟨⟨v1, r1⟩, r2⟩
            · by_cases r2 : ∃ v2, Lib.atoiAll fb.data.toList = .ok v2
              · obtain ⟨v2, r2⟩ := r2
                have HA1 := Lib.hid (fun (W : World) (hb : RowKit.Below w.heap.size w W) => atoi_bad fb hfs r1 W (HW.out.below hb))
                have HA2 := Lib.hid (fun (W : World) (hb : RowKit.Below w.heap.size w W) => atoi_good fb hxs2 _ r2 W)
                clear hsel r1 r2 hbad hT2 hf ht hto hfb htb
                go_wp2_with (first
                  | (go_at_call 32; clear htk0; (with_reducible refine (HCT.out _ HBRW.out).mono ?_); rintro e w3 ⟨rfl, hb3⟩; have hw3 := HBRW.out.trans (hb3.mono HBRW.out.size); have tk1 : Nat := 0)
                  | (go_at_call 34; clear tk1; (with_reducible refine (HA1.out _ hw3).mono ?_); rintro e w5 ⟨v5, tp5, p5, rfl, hb5⟩; have hw5 := hw3.trans (hb5.mono hw3.size); have hb5 := hb3.trans (hb5.mono hb3.size); have tk2 : Nat := 0)
                  | (go_at_call 34; clear tk2; (with_reducible refine (HA2.out _ hw5).mono ?_); rintro e w6 ⟨rfl, hb6⟩; have hw6 := hw5.trans (hb6.mono hw5.size); have hb6 := hb5.trans (hb6.mono hb5.size); have q0 := (hb6.cell (p := ⟨w.heap.size, 0, none⟩) (show w.heap.size < wr.heap.size by omega)).trans d0; have j0 := (hb6.frozen (p := ⟨w.heap.size, 0, none⟩) (show w.heap.size < wr.heap.size by omega)).trans k0))
                have cs := World.cell?_setCell_same w6 ⟨w.heap.size, 0, none⟩ (.slice none 0 0) q0
                refine bodyPost_ret (v := .tuple #[.agg #[.slice none 0 0], .int .i64 6]) (by simp [results, Tryz.results7, go_sem, cs]) rfl ?_
                exact ⟨.inr ⟨rfl, no_text1 HN1.out HN2.out HXM.out HBD.out⟩, hw6.setCell (Nat.le_refl _) _⟩
              · have r2 : ∀ v, Lib.atoiAll fb.data.toList ≠ .ok v := fun v h => r2 ⟨v, h⟩
                have HA1 := Lib.hid (fun (W : World) (hb : RowKit.Below w.heap.size w W) => atoi_bad fb hfs r1 W (HW.out.below hb))
                have HA2 := Lib.hid (fun (W : World) (hb : RowKit.Below w.heap.size w W) => atoi_bad fb hxs2 r2 W (HW.out.below hb))
                clear hsel r1 r2 hbad hT2 hf ht hto hfb htb
                go_wp2_with (first
                  | (go_at_call 32; clear htk0; (with_reducible refine (HCT.out _ HBRW.out).mono ?_); rintro e w3 ⟨rfl, hb3⟩; have hw3 := HBRW.out.trans (hb3.mono HBRW.out.size); have tk1 : Nat := 0)
                  | (go_at_call 34; clear tk1; (with_reducible refine (HA1.out _ hw3).mono ?_); rintro e w5 ⟨v5, tp5, p5, rfl, hb5⟩; have hw5 := hw3.trans (hb5.mono hw3.size); have hb5 := hb3.trans (hb5.mono hb3.size); have tk2 : Nat := 0)
                  | (go_at_call 34; clear tk2; (with_reducible refine (HA2.out _ hw5).mono ?_); rintro e w6 ⟨v6, tp6, p6, rfl, hb6⟩; have hw6 := hw5.trans (hb6.mono hw5.size); have hb6 := hb5.trans (hb6.mono hb5.size); have q0 := (hb6.cell (p := ⟨w.heap.size, 0, none⟩) (show w.heap.size < wr.heap.size by omega)).trans d0; have j0 := (hb6.frozen (p := ⟨w.heap.size, 0, none⟩) (show w.heap.size < wr.heap.size by omega)).trans k0))
                have cs := World.cell?_setCell_same w6 ⟨w.heap.size, 0, none⟩ (.slice none 0 0) q0
                refine bodyPost_ret (v := .tuple #[.agg #[.slice none 0 0], .int .i64 6]) (by simp [results, Tryz.results7, go_sem, cs]) rfl ?_
                exact ⟨.inr ⟨rfl, no_text1 HN1.out HN2.out HXM.out HBD.out⟩, hw6.setCell (Nat.le_refl _) _⟩
            · have HA1 := Lib.hid (fun (W : World) (hb : RowKit.Below w.heap.size w W) => atoi_good fb hfs _ r1 W)
              have HA2 := Lib.hid (fun (W : World) (hb : RowKit.Below w.heap.size w W) => atoi_bad fb hxs2 r2 W (HW.out.below hb))
              clear hsel r1 r2 hbad hT2 hf ht hto hfb htb
              go_wp2_with (first
                | (go_at_call 32; clear htk0; (with_reducible refine (HCT.out _ HBRW.out).mono ?_); rintro e w3 ⟨rfl, hb3⟩; have hw3 := HBRW.out.trans (hb3.mono HBRW.out.size); have tk1 : Nat := 0)
                | (go_at_call 34; clear tk1; (with_reducible refine (HA1.out _ hw3).mono ?_); rintro e w5 ⟨rfl, hb5⟩; have hw5 := hw3.trans (hb5.mono hw3.size); have hb5 := hb3.trans (hb5.mono hb3.size); have tk2 : Nat := 0)
                | (go_at_call 34; clear tk2; (with_reducible refine (HA2.out _ hw5).mono ?_); rintro e w6 ⟨v6, tp6, p6, rfl, hb6⟩; have hw6 := hw5.trans (hb6.mono hw5.size); have hb6 := hb5.trans (hb6.mono hb5.size); have q0 := (hb6.cell (p := ⟨w.heap.size, 0, none⟩) (show w.heap.size < wr.heap.size by omega)).trans d0; have j0 := (hb6.frozen (p := ⟨w.heap.size, 0, none⟩) (show w.heap.size < wr.heap.size by omega)).trans k0))
              have cs := World.cell?_setCell_same w6 ⟨w.heap.size, 0, none⟩ (.slice none 0 0) q0
              refine bodyPost_ret (v := .tuple #[.agg #[.slice none 0 0], .int .i64 6]) (by simp [results, Tryz.results7, go_sem, cs]) rfl ?_
              exact ⟨.inr ⟨rfl, no_text1 HN1.out HN2.out HXM.out HBD.out⟩, hw6.setCell (Nat.le_refl _) _⟩
        | true =>
          by_cases h0 : t = []
          · obtain ⟨ib, hI5⟩ : ∃ ib : ByteArray, ⟨(Lib.itoa 30000).toArray⟩ = ib := ⟨_, rfl⟩
            have hT2 : toT x.data.toList = ib.data.toList := by rw [hto, if_pos rfl, if_pos h0, ← hI5]
            have hxs2 : ib.size ≤ 200000 := by rw [← hI5]; decide +kernel
            have e0 : tb.toList.isEmpty = true := by rw [ByteArray.toList_eq, ← ht, h0]; rfl
            clear h0
            rcases hsel ib hT2 hxs2 with ⟨v1, v2, r1, r2, hpk⟩ | ⟨hq, hbad⟩
            · have HA1 := Lib.hid (fun (W : World) (hb : RowKit.Below w.heap.size w W) => atoi_good fb hfs _ r1 W)
              have HA2 := Lib.hid (fun (W : World) (hb : RowKit.Below w.heap.size w W) => atoi_good ib hxs2 _ r2 W)
              have HPK := Lib.hid hpk
              clear hsel r1 r2 hpk hT2 hf ht hto hfb htb
              go_wp2_with (first
                | (go_at_call 32; clear htk0; (with_reducible refine (HCT.out _ HBRW.out).mono ?_); rintro e w3 ⟨rfl, hb3⟩; have hw3 := HBRW.out.trans (hb3.mono HBRW.out.size); have tk1 : Nat := 0)
                | (go_at_call 33; (with_reducible refine (HIT.out _ hw3).mono ?_); rintro e w4 ⟨rfl, hb4⟩; rw [hI5]; have hw4 := hw3.trans (hb4.mono hw3.size); have hb4 := hb3.trans (hb4.mono hb3.size))
                | (go_at_call 34; clear tk1; (with_reducible refine (HA1.out _ hw4).mono ?_); rintro e w5 ⟨rfl, hb5⟩; have hw5 := hw4.trans (hb5.mono hw4.size); have hb5 := hb4.trans (hb5.mono hb4.size); have tk2 : Nat := 0)
                | (go_at_call 34; clear tk2; (with_reducible refine (HA2.out _ hw5).mono ?_); rintro e w6 ⟨rfl, hb6⟩; have hw6 := hw5.trans (hb6.mono hw5.size); have hb6 := hb5.trans (hb6.mono hb5.size); have q0 := (hb6.cell (p := ⟨w.heap.size, 0, none⟩) (show w.heap.size < wr.heap.size by omega)).trans d0; have j0 := (hb6.frozen (p := ⟨w.heap.size, 0, none⟩) (show w.heap.size < wr.heap.size by omega)).trans k0)
                | (have hown0 := hown.below (Nat.le_refl _) hb6; have hown1 := hown0.alloc (.cells #[.int .i64 v1, .int .i64 v2] 48); at_builtin; refine wpList_append_ds rfl (.tmp 54) (.tmp 58) 23 48 rfl Tryz.underlying23 w2.heap.size i0 hi hz0 hz1 hz2 _ _ rfl hown1 _ 1 1 [(v1, v2)] rfl (Ds.one _ _ _ _ _ (by simp)) (by rw [hll]; omega) (by have := hb6.size; simp; omega) ?_))
              intro v7 w7 hown7 hgr7
              have hb7 := (((hbel.trans (hb6.mono hz)).alloc (by have := hb6.size; omega) (.cells #[.int .i64 v1, .int .i64 v2] 48)).grown hgr7 (by have := hb6.size; simp; omega) (fun b hb => (hown1.lt b hb).1))
              clear hgr7 hown1 hown0 hown hbel hb3 hb5 hb6 hw3 hw5 hw6 hb4 hw4
              go_wp2_with fail
              go_roundw
              case rel =>
                refine ⟨j + 1, l ++ [(v1, v2)], by omega, by go_num, ?_, by simp [hll], hown7, hb7⟩
                show AllOk _ _
                rw [take_snoc' HX.out, List.map_append]
                exact all_snoc HALL.out HPK.out
              case measure => simp [intOf]; omega
            · have HBD := Lib.hid hbad
              rcases hq with r1 | ⟨⟨v1, r1⟩, r2⟩
              · by_cases r2 : ∃ v2, Lib.atoiAll ib.data.toList = .ok v2
                · obtain ⟨v2, r2⟩ := r2
                  have HA1 := Lib.hid (fun (W : World) (hb : RowKit.Below w.heap.size w W) => atoi_bad fb hfs r1 W (HW.out.below hb))
                  have HA2 := Lib.hid (fun (W : World) (hb : RowKit.Below w.heap.size w W) => atoi_good ib hxs2 _ r2 W)
                  clear hsel r1 r2 hbad hT2 hf ht hto hfb htb
                  go_wp2_with (first
                    | (go_at_call 32; clear htk0; (with_reducible refine (HCT.out _ HBRW.out).mono ?_); rintro e w3 ⟨rfl, hb3⟩; have hw3 := HBRW.out.trans (hb3.mono HBRW.out.size); have tk1 : Nat := 0)
                    | (go_at_call 33; (with_reducible refine (HIT.out _ hw3).mono ?_); rintro e w4 ⟨rfl, hb4⟩; rw [hI5]; have hw4 := hw3.trans (hb4.mono hw3.size); have hb4 := hb3.trans (hb4.mono hb3.size))
                    | (go_at_call 34; clear tk1; (with_reducible refine (HA1.out _ hw4).mono ?_); rintro e w5 ⟨v5, tp5, p5, rfl, hb5⟩; have hw5 := hw4.trans (hb5.mono hw4.size); have hb5 := hb4.trans (hb5.mono hb4.size); have tk2 : Nat := 0)
                    | (go_at_call 34; clear tk2; (with_reducible refine (HA2.out _ hw5).mono ?_); rintro e w6 ⟨rfl, hb6⟩; have hw6 := hw5.trans (hb6.mono hw5.size); have hb6 := hb5.trans (hb6.mono hb5.size); have q0 := (hb6.cell (p := ⟨w.heap.size, 0, none⟩) (show w.heap.size < wr.heap.size by omega)).trans d0; have j0 := (hb6.frozen (p := ⟨w.heap.size, 0, none⟩) (show w.heap.size < wr.heap.size by omega)).trans k0))
                  have cs := World.cell?_setCell_same w6 ⟨w.heap.size, 0, none⟩ (.slice none 0 0) q0
                  refine bodyPost_ret (v := .tuple #[.agg #[.slice none 0 0], .int .i64 6]) (by simp [results, Tryz.results7, go_sem, cs]) rfl ?_
                  exact ⟨.inr ⟨rfl, no_text1 HN1.out HN2.out HXM.out HBD.out⟩, hw6.setCell (Nat.le_refl _) _⟩
                · have r2 : ∀ v, Lib.atoiAll ib.data.toList ≠ .ok v := fun v h => r2 ⟨v, h⟩
                  have HA1 := Lib.hid (fun (W : World) (hb : RowKit.Below w.heap.size w W) => atoi_bad fb hfs r1 W (HW.out.below hb))
                  have HA2 := Lib.hid (fun (W : World) (hb : RowKit.Below w.heap.size w W) => atoi_bad ib hxs2 r2 W (HW.out.below hb))
                  clear hsel r1 r2 hbad hT2 hf ht hto hfb htb
                  go_wp2_with (first
                    | (go_at_call 32; clear htk0; (with_reducible refine (HCT.out _ HBRW.out).mono ?_); rintro e w3 ⟨rfl, hb3⟩; have hw3 := HBRW.out.trans (hb3.mono HBRW.out.size); have tk1 : Nat := 0)
                    | (go_at_call 33; (with_reducible refine (HIT.out _ hw3).mono ?_); rintro e w4 ⟨rfl, hb4⟩; rw [hI5]; have hw4 := hw3.trans (hb4.mono hw3.size); have hb4 := hb3.trans (hb4.mono hb3.size))
                    | (go_at_call 34; clear tk1; (with_reducible refine (HA1.out _ hw4).mono ?_); rintro e w5 ⟨v5, tp5, p5, rfl, hb5⟩; have hw5 := hw4.trans (hb5.mono hw4.size); have hb5 := hb4.trans (hb5.mono hb4.size); have tk2 : Nat := 0)
                    | (go_at_call 34; clear tk2; (with_reducible refine (HA2.out _ hw5).mono ?_); rintro e w6 ⟨v6, tp6, p6, rfl, hb6⟩; have hw6 := hw5.trans (hb6.mono hw5.size); have hb6 := hb5.trans (hb6.mono hb5.size); have q0 := (hb6.cell (p := ⟨w.heap.size, 0, none⟩) (show w.heap.size < wr.heap.size by omega)).trans d0; have j0 := (hb6.frozen (p := ⟨w.heap.size, 0, none⟩) (show w.heap.size < wr.heap.size by omega)).trans k0))
                  have cs := World.cell?_setCell_same w6 ⟨w.heap.size, 0, none⟩ (.slice none 0 0) q0
                  refine bodyPost_ret (v := .tuple #[.agg #[.slice none 0 0], .int .i64 6]) (by simp [results, Tryz.results7, go_sem, cs]) rfl ?_
                  exact ⟨.inr ⟨rfl, no_text1 HN1.out HN2.out HXM.out HBD.out⟩, hw6.setCell (Nat.le_refl _) _⟩
              · have HA1 := Lib.hid (fun (W : World) (hb : RowKit.Below w.heap.size w W) => atoi_good fb hfs _ r1 W)
                have HA2 := Lib.hid (fun (W : World) (hb : RowKit.Below w.heap.size w W) => atoi_bad ib hxs2 r2 W (HW.out.below hb))
                clear hsel r1 r2 hbad hT2 hf ht hto hfb htb
                go_wp2_with (first
                  | (go_at_call 32; clear htk0; (with_reducible refine (HCT.out _ HBRW.out).mono ?_); rintro e w3 ⟨rfl, hb3⟩; have hw3 := HBRW.out.trans (hb3.mono HBRW.out.size); have tk1 : Nat := 0)
                  | (go_at_call 33; (with_reducible refine (HIT.out _ hw3).mono ?_); rintro e w4 ⟨rfl, hb4⟩; rw [hI5]; have hw4 := hw3.trans (hb4.mono hw3.size); have hb4 := hb3.trans (hb4.mono hb3.size))
                  | (go_at_call 34; clear tk1; (with_reducible refine (HA1.out _ hw4).mono ?_); rintro e w5 ⟨rfl, hb5⟩; have hw5 := hw4.trans (hb5.mono hw4.size); have hb5 := hb4.trans (hb5.mono hb4.size); have tk2 : Nat := 0)
                  | (go_at_call 34; clear tk2; (with_reducible refine (HA2.out _ hw5).mono ?_); rintro e w6 ⟨v6, tp6, p6, rfl, hb6⟩; have hw6 := hw5.trans (hb6.mono hw5.size); have hb6 := hb5.trans (hb6.mono hb5.size); have q0 := (hb6.cell (p := ⟨w.heap.size, 0, none⟩) (show w.heap.size < wr.heap.size by omega)).trans d0; have j0 := (hb6.frozen (p := ⟨w.heap.size, 0, none⟩) (show w.heap.size < wr.heap.size by omega)).trans k0))
                have cs := World.cell?_setCell_same w6 ⟨w.heap.size, 0, none⟩ (.slice none 0 0) q0
                refine bodyPost_ret (v := .tuple #[.agg #[.slice none 0 0], .int .i64 6]) (by simp [results, Tryz.results7, go_sem, cs]) rfl ?_
                exact ⟨.inr ⟨rfl, no_text1 HN1.out HN2.out HXM.out HBD.out⟩, hw6.setCell (Nat.le_refl _) _⟩
          · have hT2 : toT x.data.toList = tb.data.toList := by rw [hto, if_pos rfl, if_neg h0, ← ht]
            have hxs2 := hts
            have e0 : tb.toList.isEmpty = false := by rw [ByteArray.toList_eq, ← ht]; cases t with | nil => exact absurd rfl h0 | cons => rfl
            clear h0
            rcases hsel tb hT2 hxs2 with ⟨v1, v2, r1, r2, hpk⟩ | ⟨hq, hbad⟩
            · have HA1 := Lib.hid (fun (W : World) (hb : RowKit.Below w.heap.size w W) => atoi_good fb hfs _ r1 W)
              have HA2 := Lib.hid (fun (W : World) (hb : RowKit.Below w.heap.size w W) => atoi_good tb hxs2 _ r2 W)
              have HPK := Lib.hid hpk
              clear hsel r1 r2 hpk hT2 hf ht hto hfb htb
              go_wp2_with (first
                | (go_at_call 32; clear htk0; (with_reducible refine (HCT.out _ HBRW.out).mono ?_); rintro e w3 ⟨rfl, hb3⟩; have hw3 := HBRW.out.trans (hb3.mono HBRW.out.size); have tk1 : Nat := 0)
                | (go_at_call 34; clear tk1; (with_reducible refine (HA1.out _ hw3).mono ?_); rintro e w5 ⟨rfl, hb5⟩; have hw5 := hw3.trans (hb5.mono hw3.size); have hb5 := hb3.trans (hb5.mono hb3.size); have tk2 : Nat := 0)
                | (go_at_call 34; clear tk2; (with_reducible refine (HA2.out _ hw5).mono ?_); rintro e w6 ⟨rfl, hb6⟩; have hw6 := hw5.trans (hb6.mono hw5.size); have hb6 := hb5.trans (hb6.mono hb5.size); have q0 := (hb6.cell (p := ⟨w.heap.size, 0, none⟩) (show w.heap.size < wr.heap.size by omega)).trans d0; have j0 := (hb6.frozen (p := ⟨w.heap.size, 0, none⟩) (show w.heap.size < wr.heap.size by omega)).trans k0)
                | (have hown0 := hown.below (Nat.le_refl _) hb6; have hown1 := hown0.alloc (.cells #[.int .i64 v1, .int .i64 v2] 48); at_builtin; refine wpList_append_ds rfl (.tmp 54) (.tmp 58) 23 48 rfl Tryz.underlying23 w2.heap.size i0 hi hz0 hz1 hz2 _ _ rfl hown1 _ 1 1 [(v1, v2)] rfl (Ds.one _ _ _ _ _ (by simp)) (by rw [hll]; omega) (by have := hb6.size; simp; omega) ?_))
              intro v7 w7 hown7 hgr7
              have hb7 := (((hbel.trans (hb6.mono hz)).alloc (by have := hb6.size; omega) (.cells #[.int .i64 v1, .int .i64 v2] 48)).grown hgr7 (by have := hb6.size; simp; omega) (fun b hb => (hown1.lt b hb).1))
              clear hgr7 hown1 hown0 hown hbel hb3 hb5 hb6 hw3 hw5 hw6
              go_wp2_with fail
              go_roundw
              case rel =>
                refine ⟨j + 1, l ++ [(v1, v2)], by omega, by go_num, ?_, by simp [hll], hown7, hb7⟩
                show AllOk _ _
                rw [take_snoc' HX.out, List.map_append]
                exact all_snoc HALL.out HPK.out
              case measure => simp [intOf]; omega
            · have HBD := Lib.hid hbad
              rcases hq with r1 | ⟨⟨v1, r1⟩, r2⟩
              · by_cases r2 : ∃ v2, Lib.atoiAll tb.data.toList = .ok v2
                · obtain ⟨v2, r2⟩ := r2
                  have HA1 := Lib.hid (fun (W : World) (hb : RowKit.Below w.heap.size w W) => atoi_bad fb hfs r1 W (HW.out.below hb))
                  have HA2 := Lib.hid (fun (W : World) (hb : RowKit.Below w.heap.size w W) => atoi_good tb hxs2 _ r2 W)
                  clear hsel r1 r2 hbad hT2 hf ht hto hfb htb
                  go_wp2_with (first
                    | (go_at_call 32; clear htk0; (with_reducible refine (HCT.out _ HBRW.out).mono ?_); rintro e w3 ⟨rfl, hb3⟩; have hw3 := HBRW.out.trans (hb3.mono HBRW.out.size); have tk1 : Nat := 0)
                    | (go_at_call 34; clear tk1; (with_reducible refine (HA1.out _ hw3).mono ?_); rintro e w5 ⟨v5, tp5, p5, rfl, hb5⟩; have hw5 := hw3.trans (hb5.mono hw3.size); have hb5 := hb3.trans (hb5.mono hb3.size); have tk2 : Nat := 0)
                    | (go_at_call 34; clear tk2; (with_reducible refine (HA2.out _ hw5).mono ?_); rintro e w6 ⟨rfl, hb6⟩; have hw6 := hw5.trans (hb6.mono hw5.size); have hb6 := hb5.trans (hb6.mono hb5.size); have q0 := (hb6.cell (p := ⟨w.heap.size, 0, none⟩) (show w.heap.size < wr.heap.size by omega)).trans d0; have j0 := (hb6.frozen (p := ⟨w.heap.size, 0, none⟩) (show w.heap.size < wr.heap.size by omega)).trans k0))
                  have cs := World.cell?_setCell_same w6 ⟨w.heap.size, 0, none⟩ (.slice none 0 0) q0
                  refine bodyPost_ret (v := .tuple #[.agg #[.slice none 0 0], .int .i64 6]) (by simp [results, Tryz.results7, go_sem, cs]) rfl ?_
                  exact ⟨.inr ⟨rfl, no_text1 HN1.out HN2.out HXM.out HBD.out⟩, hw6.setCell (Nat.le_refl _) _⟩
                · have r2 : ∀ v, Lib.atoiAll tb.data.toList ≠ .ok v := fun v h => r2 ⟨v, h⟩
                  have HA1 := Lib.hid (fun (W : World) (hb : RowKit.Below w.heap.size w W) => atoi_bad fb hfs r1 W (HW.out.below hb))
                  have HA2 := Lib.hid (fun (W : World) (hb : RowKit.Below w.heap.size w W) => atoi_bad tb hxs2 r2 W (HW.out.below hb))
                  clear hsel r1 r2 hbad hT2 hf ht hto hfb htb
                  go_wp2_with (first
                    | (go_at_call 32; clear htk0; (with_reducible refine (HCT.out _ HBRW.out).mono ?_); rintro e w3 ⟨rfl, hb3⟩; have hw3 := HBRW.out.trans (hb3.mono HBRW.out.size); have tk1 : Nat := 0)
                    | (go_at_call 34; clear tk1; (with_reducible refine (HA1.out _ hw3).mono ?_); rintro e w5 ⟨v5, tp5, p5, rfl, hb5⟩; have hw5 := hw3.trans (hb5.mono hw3.size); have hb5 := hb3.trans (hb5.mono hb3.size); have tk2 : Nat := 0)
                    | (go_at_call 34; clear tk2; (with_reducible refine (HA2.out _ hw5).mono ?_); rintro e w6 ⟨v6, tp6, p6, rfl, hb6⟩; have hw6 := hw5.trans (hb6.mono hw5.size); have hb6 := hb5.trans (hb6.mono hb5.size); have q0 := (hb6.cell (p := ⟨w.heap.size, 0, none⟩) (show w.heap.size < wr.heap.size by omega)).trans d0; have j0 := (hb6.frozen (p := ⟨w.heap.size, 0, none⟩) (show w.heap.size < wr.heap.size by omega)).trans k0))
                  have cs := World.cell?_setCell_same w6 ⟨w.heap.size, 0, none⟩ (.slice none 0 0) q0
                  refine bodyPost_ret (v := .tuple #[.agg #[.slice none 0 0], .int .i64 6]) (by simp [results, Tryz.results7, go_sem, cs]) rfl ?_
                  exact ⟨.inr ⟨rfl, no_text1 HN1.out HN2.out HXM.out HBD.out⟩, hw6.setCell (Nat.le_refl _) _⟩
              · have HA1 := Lib.hid (fun (W : World) (hb : RowKit.Below w.heap.size w W) => atoi_good fb hfs _ r1 W)
                have HA2 := Lib.hid (fun (W : World) (hb : RowKit.Below w.heap.size w W) => atoi_bad tb hxs2 r2 W (HW.out.below hb))
                clear hsel r1 r2 hbad hT2 hf ht hto hfb htb
                go_wp2_with (first
                  | (go_at_call 32; clear htk0; (with_reducible refine (HCT.out _ HBRW.out).mono ?_); rintro e w3 ⟨rfl, hb3⟩; have hw3 := HBRW.out.trans (hb3.mono HBRW.out.size); have tk1 : Nat := 0)
                  | (go_at_call 34; clear tk1; (with_reducible refine (HA1.out _ hw3).mono ?_); rintro e w5 ⟨rfl, hb5⟩; have hw5 := hw3.trans (hb5.mono hw3.size); have hb5 := hb3.trans (hb5.mono hb3.size); have tk2 : Nat := 0)
                  | (go_at_call 34; clear tk2; (with_reducible refine (HA2.out _ hw5).mono ?_); rintro e w6 ⟨v6, tp6, p6, rfl, hb6⟩; have hw6 := hw5.trans (hb6.mono hw5.size); have hb6 := hb5.trans (hb6.mono hb5.size); have q0 := (hb6.cell (p := ⟨w.heap.size, 0, none⟩) (show w.heap.size < wr.heap.size by omega)).trans d0; have j0 := (hb6.frozen (p := ⟨w.heap.size, 0, none⟩) (show w.heap.size < wr.heap.size by omega)).trans k0))
                have cs := World.cell?_setCell_same w6 ⟨w.heap.size, 0, none⟩ (.slice none 0 0) q0
                refine bodyPost_ret (v := .tuple #[.agg #[.slice none 0 0], .int .i64 6]) (by simp [results, Tryz.results7, go_sem, cs]) rfl ?_
                exact ⟨.inr ⟨rfl, no_text1 HN1.out HN2.out HXM.out HBD.out⟩, hw6.setCell (Nat.le_refl _) _⟩
      · obtain rfl : j = m := by omega
        have hAL : AllOk (linesL 44 s.data.toList) l := by
          rw [← HMP.out]
          have := HALL.out
          rwa [List.take_of_length_le (by rw [HXL.out]; exact Nat.le_refl _)] at this
        have HAL := Lib.hid hAL
        clear hAL
        obtain ⟨a5, c5, rfl, hd5⟩ := hown.ds
        have HO := Lib.hid (of_any a5 l.length c5 l wr hd5 (by omega))
        rw [hll] at HO
        by_cases he : errL l = 0
        · have HE := Lib.hid he
          clear he
          go_wp2_with (go_at_call 24; (with_reducible refine HO.out.mono ?_); rintro e w3 ⟨a, n, c, r, rfl, hd, hc, hm3, hb3⟩; have q1 := (hb3.cell (p := ⟨w.heap.size + 1, 0, none⟩) (show w.heap.size + 1 < wr.heap.size by omega)).trans d1; have q0 := (hb3.cell (p := ⟨w.heap.size, 0, none⟩) (show w.heap.size < wr.heap.size by omega)).trans d0; have j0 := (hb3.frozen (p := ⟨w.heap.size, 0, none⟩) (show w.heap.size < wr.heap.size by omega)).trans k0; have j1 := (hb3.frozen (p := ⟨w.heap.size + 1, 0, none⟩) (show w.heap.size + 1 < wr.heap.size by omega)).trans k1; have HD := Lib.hid hd; have HC3 := Lib.hid hc; have HM := Lib.hid hm3; clear hd hc hm3; rw [HE.out])
          go_meet
          have hz3 := hb3.size
          exact ⟨a, n, c, r, (HBRW.out.trans (hb3.mono HBRW.out.size)).setCell (by show w.heap.size ≤ w.heap.size + 1; omega) _, by rw [World.size_setCell]; omega, (World.cell?_setCell_other _ _ _ _ (by simp)).trans q0, by rw [World.frozen?_setCell]; exact j0, World.cell?_setCell_same _ _ _ q1, HD.out.set q1 (by intro x e; cases e), HC3.out, .inr (of_piece HN1.out HN2.out HAL.out HE.out HC3.out HM.out)⟩
        · have HE := Lib.hid he
          obtain ⟨ee, hee⟩ : ∃ ee, errL l = ee := ⟨_, rfl⟩
          have he : ee ≠ 0 := by rw [← hee]; exact he
          have HEE := Lib.hid hee
          clear hee
          go_wp2_with (go_at_call 24; (with_reducible refine HO.out.mono ?_); rintro e w3 ⟨a, n, c, r, rfl, hd, hc, hm3, hb3⟩; have q1 := (hb3.cell (p := ⟨w.heap.size + 1, 0, none⟩) (show w.heap.size + 1 < wr.heap.size by omega)).trans d1; have q0 := (hb3.cell (p := ⟨w.heap.size, 0, none⟩) (show w.heap.size < wr.heap.size by omega)).trans d0; have j0 := (hb3.frozen (p := ⟨w.heap.size, 0, none⟩) (show w.heap.size < wr.heap.size by omega)).trans k0; have j1 := (hb3.frozen (p := ⟨w.heap.size + 1, 0, none⟩) (show w.heap.size + 1 < wr.heap.size by omega)).trans k1; have HD := Lib.hid hd; have HC3 := Lib.hid hc; have HM := Lib.hid hm3; clear hd hc hm3; rw [HEE.out])
          have cs := World.cell?_setCell_same (w3.setCell ⟨w.heap.size + 1, 0, none⟩ (.slice a n c)) ⟨w.heap.size, 0, none⟩ (.slice none 0 0) ((World.cell?_setCell_other _ _ _ _ (by simp)).trans q0)
          refine bodyPost_ret (v := .tuple #[.agg #[.slice none 0 0], .int .i64 6]) (by simp [results, Tryz.results7, go_sem, cs]) rfl ?_
          exact ⟨.inr ⟨rfl, of_bad HN1.out HN2.out HAL.out HE.out⟩, ((HBRW.out.trans (hb3.mono HBRW.out.size)).setCell (by show w.heap.size ≤ w.heap.size + 1; omega) _).setCell (Nat.le_refl _) _⟩
  case rest =>
    obtain ⟨a, n, c, r, hb, hz, c0, f0, c1, hd, hr, hu⟩ := hcut
    have HU := Lib.hid hu
    have HD := Lib.hid hd
    have HR := Lib.hid hr
    have HT := Lib.hid (text_any a n c r wc hd hr (HW.out.below hb).pow)
    clear hu hd hr
    obtain ⟨tx, htx⟩ : ∃ tx : ByteArray, ⟨(textL r).toArray⟩ = tx := ⟨_, rfl⟩
    rw [htx] at HT
    have HTX := Lib.hid htx
    clear htx
    by_cases hs1 : tx = s
    · have ht : (tx.toList == s.toList) = true := by rw [hs1]; exact beq_self_eq_true _
      have HS1 := Lib.hid hs1
      clear hs1
      go_wp2_with (go_at_call 11; (with_reducible refine HT.out.mono ?_); rintro e w2 ⟨rfl, hb2⟩; have d1 := (hb2.cell (p := ⟨w.heap.size + 1, 0, none⟩) (show w.heap.size + 1 < wc.heap.size by omega)).trans c1; have d0 := (hb2.cell (p := ⟨w.heap.size, 0, none⟩) (show w.heap.size < wc.heap.size by omega)).trans c0; have g0 := (hb2.frozen (p := ⟨w.heap.size, 0, none⟩) (show w.heap.size < wc.heap.size by omega)).trans f0)
      have cs := World.cell?_setCell_same w2 ⟨w.heap.size, 0, none⟩ (.slice a n c) d0
      refine bodyPost_ret (v := .tuple #[.agg #[.slice a n c], .int .i64 0]) (by simp [results, Tryz.results7, go_sem, cs]) rfl ?_
      exact ⟨.inl ⟨r, a, n, c, rfl, (HD.out.below hb2 (Nat.le_refl _)).set d0 (by intro x e; cases e), HR.out, by rw [← HS1.out, ← HTX.out]⟩, (hb.trans (hb2.mono hb.size)).setCell (Nat.le_refl _) _⟩
    · have ht : (tx.toList == s.toList) = false := ne_list hs1
      have HS1 := Lib.hid hs1
      clear hs1
      go_wp2_with (go_at_call 11; (with_reducible refine HT.out.mono ?_); rintro e w2 ⟨rfl, hb2⟩; have d1 := (hb2.cell (p := ⟨w.heap.size + 1, 0, none⟩) (show w.heap.size + 1 < wc.heap.size by omega)).trans c1; have d0 := (hb2.cell (p := ⟨w.heap.size, 0, none⟩) (show w.heap.size < wc.heap.size by omega)).trans c0; have g0 := (hb2.frozen (p := ⟨w.heap.size, 0, none⟩) (show w.heap.size < wc.heap.size by omega)).trans f0)
      have cs := World.cell?_setCell_same w2 ⟨w.heap.size, 0, none⟩ (.slice none 0 0) d0
      refine bodyPost_ret (v := .tuple #[.agg #[.slice none 0 0], .int .i64 6]) (by simp [results, Tryz.results7, go_sem, cs]) rfl ?_
      refine ⟨.inr ⟨rfl, fun r' hr' e => HS1.out ?_⟩, (hb.trans (hb2.mono hb.size)).setCell (Nat.le_refl _) _⟩
      rw [← HTX.out]
      rcases HU.out with h | h
      · rw [h]
      · rw [← h r' hr' e, e]
end Go.Proofs.YtfdododighjjpaaGreatDoor.Dy
