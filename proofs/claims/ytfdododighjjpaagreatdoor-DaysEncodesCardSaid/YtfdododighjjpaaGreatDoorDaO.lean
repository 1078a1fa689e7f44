/- Contract: the law's is. -/
import Derived.Test.YtfdododighjjpaaGreatDoorDaN
namespace Go.Proofs.YtfdododighjjpaaGreatDoor.Dy
open Go.RowKit Go.PlainAid
set_option linter.unusedVariables false
set_option linter.unusedSimpArgs false
set_option maxHeartbeats 40000000

set_option maxRecDepth 100000 in
theorem is_any (a b : Option Addr) (n ca cb : Nat) (l : List (Int × Int)) (S : Int → Bool) (w : World) (h : Ds w a n ca l) (hl : Can l) (k : Fl w b cb S) (hS : ∀ d : Int, 0 ≤ d → d ≤ 30000 → S d = Dm l d) :
    Calls Tryz.prog 10 #[.agg #[.slice a n ca], .slice b 30001 cb] w fun e w' => e = .returned (.bool true) ∧ RowKit.Below w.heap.size w w' := by
  have hn : n ≤ 15001 := by rw [← h.1]; exact can_len hl
  have HSP := Lib.hid (fun W (hb : RowKit.Below w.heap.size w W) => spans_any a n ca l W (h.below hb (Nat.le_refl _)) (by omega))
  have HRS := Lib.hid (fun W (hb : RowKit.Below w.heap.size w W) => rspans_any b cb S W (k.below hb (Nat.le_refl _)))
  have HLN := Lib.hid (fun W (hb : RowKit.Below w.heap.size w W) => len_any a n ca l W (h.below hb (Nat.le_refl _)) hl)
  have HRL := Lib.hid (fun W (hb : RowKit.Below w.heap.size w W) => rlen_any b cb S W (k.below hb (Nat.le_refl _)))
  have HHAS := Lib.hid (fun d W (hb : RowKit.Below w.heap.size w W) => has_any a n ca l d W (h.below hb (Nat.le_refl _)) hl)
  have HCNT := Lib.hid (cnt_flags hl hS)
  have HEX := Lib.hid (fun r (hr : Can r) (h1 : ∀ d, Dm r d = (inD d && S d)) => can_flags hl hr h1 hS)
  have HEND := Lib.hid (can_ends hl)
  have HOK := Lib.hid hl.1
  have HL := Lib.hid h.1
  have HX : Hid (∀ x : Int, x = cntN S 30001 → x = lenD l) := fun x hx => by rw [hx]; exact cnt_flags hl hS
  obtain ⟨x, hx⟩ : ∃ x, lenD l = x := ⟨_, rfl⟩
  rw [HCNT.out] at HRL
  rw [hx] at HLN HRL
  clear h hl k hS HCNT HX hx
  have hE := RowKit.Below.refl (w.heap.size + 1) (w.alloc (.cells #[.slice a n ca] 25))
  have hzE : w.heap.size + 1 ≤ (w.alloc (.cells #[.slice a n ca] 25)).heap.size := by simp
  obtain ⟨q0, hD⟩ := box1 hE
  obtain ⟨z, hdz, hb0⟩ : ∃ z : Bool, decide (n = 0) = z ∧ ((n : Int) == 0) = z := ⟨_, rfl, by by_cases h : n = 0 <;> simp [h]⟩
  have HDZ := Lib.hid hdz
  clear hdz
  · go_enter Tryz.func10, Tryz.ntmps10
    go_wp2_with (first
      | (go_at_call 18; (with_reducible refine (HSP.out _ hD).mono ?_); rintro e w1 ⟨v1, rfl, hb1, hown1⟩; obtain ⟨a1, n1, c1, rfl, hn1, hd1⟩ := hown1.dn; obtain rfl : n1 = n := hn1.trans HL.out; have hE1 := hE.trans (hb1.mono hzE); have hz1 := Nat.le_trans hzE hb1.size; obtain ⟨q1, hD1⟩ := box1 hE1; clear hn1 hown1)
      | (go_at_call 37; (with_reducible refine (HRS.out _ hD1).mono ?_); rintro e w2 ⟨v2, r, rfl, hb2, hown2, hc2, hm2⟩; obtain rfl := HEX.out r hc2 hm2; obtain ⟨a2, n2, c2, rfl, hn2, hd2⟩ := hown2.dn; obtain rfl : n2 = n1 := hn2.trans HL.out; have hE2 := hE1.trans (hb2.mono hz1); have hz2 := Nat.le_trans hz1 hb2.size; obtain ⟨q2, hD2⟩ := box1 hE2; have HD1 := Lib.hid (hd1.below hb2 (Nat.le_refl _)); have HD2 := Lib.hid hd2; clear hn2 hown2 hd1 hd2 hc2 hm2)
      | (go_at_call 38; (with_reducible refine (HLN.out _ hD2).mono ?_); rintro e w3 ⟨rfl, hb3⟩; have hE3 := hE2.trans (hb3.mono hz2); have hz3 := Nat.le_trans hz2 hb3.size; obtain ⟨q3, hD3⟩ := box1 hE3)
      | (go_at_call 39; (with_reducible refine (HRL.out _ hD3).mono ?_); rintro e w4 ⟨rfl, hb4⟩; have hE4 := hE3.trans (hb4.mono hz3); have hz4 := Nat.le_trans hz3 hb4.size; obtain ⟨q4, hD4⟩ := box1 hE4)
      | (go_at_call 9; (with_reducible refine (empty_any _ _ _ _).mono ?_); rintro e w5 ⟨rfl, hb5⟩; rw [HDZ.out]; have hE5 := hE4.trans (hb5.mono hz4); have hz5 := Nat.le_trans hz4 hb5.size; obtain ⟨q5, hD5⟩ := box1 hE5; have hG := hb3.trans ((hb4.trans (hb5.mono hb4.size)).mono hb3.size)))
    have HD1' := Lib.hid (HD1.out.below hG (Nat.le_refl _))
    have HD2' := Lib.hid (HD2.out.below hG (Nat.le_refl _))
    clear HD1 HD2 hG hb1 hb2 hb3 hb4 hb5 q1 q2 q3 q4 hE1 hE2 hE3 hE4 hD1 hD2 hD3 hD4 hz1 hz2 hz3 hz4
    go_loopw [35] (fun v wr => ∃ j : Nat, j ≤ n2 ∧ v = .int .i64 j ∧ RowKit.Below w5.heap.size w5 wr) (fun v _ => n2 - (intOf v).toNat)
    case atStart => exact ⟨0, by omega, rfl, RowKit.Below.refl _ _⟩
    case round =>
      obtain ⟨j, hj, rfl, hbel⟩ := hrel
      have hz := hbel.size
      have hj0 : (0 : Int) ≤ (j : Int) := Int.natCast_nonneg _
      by_cases hjn : j < n2
      · have hj1 : (j : Int) < (n2 : Int) := by omega
        rcases HD1'.out.2.2.2 with h1 | ⟨b1, o1, rfl, hb1, hcell1⟩
        · omega
        rcases HD2'.out.2.2.2 with h2 | ⟨b2, o2, rfl, hb2, hcell2⟩
        · omega
        obtain ⟨⟨p1, p2⟩, hp⟩ : ∃ p, r[j]? = some p := ⟨_, List.getElem?_eq_getElem (by rw [HL.out]; exact hjn)⟩
        obtain ⟨x1, x2⟩ := hcell1 j _ hp
        obtain ⟨y1, y2⟩ := hcell2 j _ hp
        dsimp only at x1 x2 y1 y2
        have x1 := (hbel.cell (p := ⟨b1, _, none⟩) hb1).trans x1
        have x2 := (hbel.cell (p := ⟨b1, _, none⟩) hb1).trans x2
        have y1 := (hbel.cell (p := ⟨b2, _, none⟩) hb2).trans y1
        have y2 := (hbel.cell (p := ⟨b2, _, none⟩) hb2).trans y2
        have hmem := List.mem_of_getElem? hp
        have hok := HOK.out _ hmem
        unfold Okp at hok
        obtain ⟨d0, d1, d2, d3⟩ := HEND.out _ hmem
        dsimp only at hok d0 d1 d2 d3
        have HB0 := Lib.hid (HHAS.out p1)
        have HB1 := Lib.hid (HHAS.out p2)
        have HB2 := Lib.hid (HHAS.out (p1 - 1))
        have HB3 := Lib.hid (HHAS.out (p2 + 1))
        rw [d0] at HB0
        rw [d1] at HB1
        rw [d2] at HB2
        rw [d3] at HB3
        have e1 : IntKind.i64.wrap (p1 - 1) = p1 - 1 := by rw [IntKind.wrap_i64]; omega
        have e2 : IntKind.i64.wrap (p2 + 1) = p2 + 1 := by rw [IntKind.wrap_i64]; omega
        have g1 : b1 < wr.heap.size + 1 := by omega
        have g3 : wr.heap.size < wr.heap.size + 1 := by omega
        have g5 : w.heap.size < wr.heap.size + 1 := by omega
        have qr := (hbel.cell (p := ⟨w.heap.size, 0, none⟩) (show w.heap.size < w5.heap.size by omega)).trans q5
        clear hcell1 hcell2 hp hmem d0 d1 d2 d3
        go_wp2_with fail
        have hW := ((RowKit.Below.refl wr.heap.size wr).alloc (Nat.le_refl _) (.cells #[.int .i64 p1, .int .i64 p2] 61)).drew
        have s1 := (hW.cell (p := ⟨b1, _, none⟩) (show b1 < wr.heap.size by omega)).trans x1
        have s2 := (hW.cell (p := ⟨b1, _, none⟩) (show b1 < wr.heap.size by omega)).trans x2
        have s3 : (wr.alloc (.cells #[.int .i64 p1, .int .i64 p2] 61)).drew.cell? ⟨wr.heap.size, 0, none⟩ = some (.int .i64 p1) := (new2 wr _ _ _).1
        have s4 : (wr.alloc (.cells #[.int .i64 p1, .int .i64 p2] 61)).drew.cell? ⟨wr.heap.size, 1, none⟩ = some (.int .i64 p2) := (new2 wr _ _ _).2
        have s5 := (hW.cell (p := ⟨w.heap.size, 0, none⟩) (show w.heap.size < wr.heap.size by omega)).trans qr
        have hF := RowKit.Below.refl (wr.heap.size + 1) (wr.alloc (.cells #[.int .i64 p1, .int .i64 p2] 61)).drew
        have hDr := hD5.trans (hbel.mono hD5.size)
        have hDW := hDr.trans (hW.mono hDr.size)
        have hNW : w.heap.size ≤ wr.heap.size + 1 := by omega
        have hzF : wr.heap.size + 1 ≤ (wr.alloc (.cells #[.int .i64 p1, .int .i64 p2] 61)).drew.heap.size := by show _ ≤ (wr.alloc _).heap.size; simp
        have tk0 : Hid True := trivial
        refine wp_region_noPanic ?_
        refine region_ord (S := fun w' => w'.cell? ⟨b1, o1 + j * 2, none⟩ = some (.int .i64 p1) ∧ w'.cell? ⟨b1, o1 + j * 2 + 1, none⟩ = some (.int .i64 p2) ∧ w'.cell? ⟨wr.heap.size, 0, none⟩ = some (.int .i64 p1) ∧ w'.cell? ⟨wr.heap.size, 1, none⟩ = some (.int .i64 p2) ∧ w'.cell? ⟨w.heap.size, 0, none⟩ = some (.slice a n2 ca)) [0, 1, 2, 3, 4, 5, 6, 7, 8, 9, 10, 11, 12, 13, 14, 15, 16, 17, 18, 19, 20, 21, 22, 23, 24, 25, 26, 27, 28, 29, 30, 31, 32, 33, 34, 35, 36, 37] (by kernel_rfl) (by decide +kernel) (fun _ _ _ _ _ h => h) (⟨s1, s2, s3, s4, s5⟩) (fun _ => ?_)
        repeat (first
          | (refine ord_skip rfl rfl rfl ?_; (try simp only [Act.put, List.setIfInBounds_toArray, List.set_cons_zero, List.set_cons_succ]))
          | (refine' ord_light (v := _) rfl rfl rfl (fun w' hSw => ?_) ?_; rotate_left; (focus ((try dsimp only at hSw); go_simp <;> (with_reducible rfl))); (try simp only [Act.put, List.setIfInBounds_toArray, List.set_cons_zero, List.set_cons_succ]))
          | (refine ord_heavy rfl rfl (fun K hK => ?_); go_simp; (go_at_call 40; clear tk0; (with_reducible refine (HB0.out _ (hDW.trans (hF.mono hNW))).mono ?_); rintro e w6 ⟨rfl, hb6⟩; have hF := hF.trans (hb6.mono (Nat.le_trans hzF hF.size)); have tk1 : Hid True := trivial); (try go_wp2_with fail); refine hK.out _ _ (⟨(hF.cell (p := ⟨b1, _, none⟩) g1).trans s1, (hF.cell (p := ⟨b1, _, none⟩) g1).trans s2, (hF.cell (p := ⟨wr.heap.size, 0, none⟩) g3).trans s3, (hF.cell (p := ⟨wr.heap.size, 1, none⟩) g3).trans s4, (hF.cell (p := ⟨w.heap.size, 0, none⟩) g5).trans s5⟩) ?_; clear hK K; (try simp only [Act.put, List.setIfInBounds_toArray, List.set_cons_zero, List.set_cons_succ]))
          | (refine ord_heavy rfl rfl (fun K hK => ?_); go_simp; (go_at_call 40; clear tk1; (with_reducible refine (HB1.out _ (hDW.trans (hF.mono hNW))).mono ?_); rintro e w6 ⟨rfl, hb6⟩; have hF := hF.trans (hb6.mono (Nat.le_trans hzF hF.size)); have tk2 : Hid True := trivial); (try go_wp2_with fail); refine hK.out _ _ (⟨(hF.cell (p := ⟨b1, _, none⟩) g1).trans s1, (hF.cell (p := ⟨b1, _, none⟩) g1).trans s2, (hF.cell (p := ⟨wr.heap.size, 0, none⟩) g3).trans s3, (hF.cell (p := ⟨wr.heap.size, 1, none⟩) g3).trans s4, (hF.cell (p := ⟨w.heap.size, 0, none⟩) g5).trans s5⟩) ?_; clear hK K; (try simp only [Act.put, List.setIfInBounds_toArray, List.set_cons_zero, List.set_cons_succ]))
          | (refine ord_heavy rfl rfl (fun K hK => ?_); go_simp; (go_at_call 40; clear tk2; (with_reducible refine (HB2.out _ (hDW.trans (hF.mono hNW))).mono ?_); rintro e w6 ⟨rfl, hb6⟩; have hF := hF.trans (hb6.mono (Nat.le_trans hzF hF.size)); have tk3 : Hid True := trivial); (try go_wp2_with fail); refine hK.out _ _ (⟨(hF.cell (p := ⟨b1, _, none⟩) g1).trans s1, (hF.cell (p := ⟨b1, _, none⟩) g1).trans s2, (hF.cell (p := ⟨wr.heap.size, 0, none⟩) g3).trans s3, (hF.cell (p := ⟨wr.heap.size, 1, none⟩) g3).trans s4, (hF.cell (p := ⟨w.heap.size, 0, none⟩) g5).trans s5⟩) ?_; clear hK K; (try simp only [Act.put, List.setIfInBounds_toArray, List.set_cons_zero, List.set_cons_succ]))
          | (refine ord_heavy rfl rfl (fun K hK => ?_); go_simp; (go_at_call 40; clear tk3; (with_reducible refine (HB3.out _ (hDW.trans (hF.mono hNW))).mono ?_); rintro e w6 ⟨rfl, hb6⟩; have hF := hF.trans (hb6.mono (Nat.le_trans hzF hF.size)); have tk4 : Hid True := trivial); (try go_wp2_with fail); refine hK.out _ _ (⟨(hF.cell (p := ⟨b1, _, none⟩) g1).trans s1, (hF.cell (p := ⟨b1, _, none⟩) g1).trans s2, (hF.cell (p := ⟨wr.heap.size, 0, none⟩) g3).trans s3, (hF.cell (p := ⟨wr.heap.size, 1, none⟩) g3).trans s4, (hF.cell (p := ⟨w.heap.size, 0, none⟩) g5).trans s5⟩) ?_; clear hK K; (try simp only [Act.put, List.setIfInBounds_toArray, List.set_cons_zero, List.set_cons_succ]))
          | (refine ord_heavy rfl rfl (fun K hK => ?_); go_simp; (try go_wp2_with fail); refine hK.out _ _ (⟨(hF.cell (p := ⟨b1, _, none⟩) g1).trans s1, (hF.cell (p := ⟨b1, _, none⟩) g1).trans s2, (hF.cell (p := ⟨wr.heap.size, 0, none⟩) g3).trans s3, (hF.cell (p := ⟨wr.heap.size, 1, none⟩) g3).trans s4, (hF.cell (p := ⟨w.heap.size, 0, none⟩) g5).trans s5⟩) ?_; clear hK K; (try simp only [Act.put, List.setIfInBounds_toArray, List.set_cons_zero, List.set_cons_succ])))
        refine ord_nil (NoPanic.normal ?_)
        go_wp2_with fail
        go_roundw
        case rel => exact ⟨j + 1, by omega, by go_num, (hbel.trans (hW.mono hz)).trans (hF.mono (by omega))⟩
        case measure => simp [intOf]; omega
      · have hj1 : ¬ (j : Int) < (n2 : Int) := by omega
        go_wp2_with fail
        go_ret
        exact ⟨rfl, hD5.trans (hbel.mono hD5.size)⟩
end Go.Proofs.YtfdododighjjpaaGreatDoor.Dy
