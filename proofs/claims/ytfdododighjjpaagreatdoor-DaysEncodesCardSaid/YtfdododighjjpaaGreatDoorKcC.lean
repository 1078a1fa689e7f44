/- Package keccak: the permutation's walk. -/
import Derived.Test.YtfdododighjjpaaGreatDoorKcB
namespace Go.Proofs.YtfdododighjjpaaGreatDoor.Kc
open Go.RowKit Go.PlainAid Go.Proofs.YtfdododighjjpaaGreatDoor.Wi
set_option linter.unusedVariables false
set_option linter.unusedSimpArgs false
set_option maxHeartbeats 8000000
set_option maxRecDepth 20000

theorem permute_any (p : Nat) (A : Nat → Int) (w : World) (h : Wd .u64 w p 0 25 A) (hK : Kt w) (hp1 : p ≠ 4) (hp2 : p ≠ 5) :
    Calls Tryz.prog 119 #[.pointer (some ⟨p, 0, none⟩)] w fun e w' => (∃ v, e = .returned v) ∧ Wd .u64 w' p 0 25 (permF A) ∧ Kg p w w' := by
  have HK := Lib.hid hK
  have HA := Lib.hid h
  have hpl := h.lt (by omega)
  clear hK h
  go_enter Tryz.func119, Tryz.ntmps119
  go_wp2_with (refine wpList_load_mid rfl 176 (.global 4) rfl 4 0 rfl _ _ HK.out.rc Tryz.underlying176 rfl (by kernel_rfl) ?_)
  go_loopw [13] (fun v wr => ∃ t : Nat, t ≤ 24 ∧ v = .int .i64 t ∧ Hid (Wd .u64 wr p 0 25 (it roundF t A)) ∧ Hid (Kg p w wr)) (fun v _ => 24 - (intOf v).toNat)
  case atStart => exact ⟨0, by omega, rfl, HA.out, Kg.of (Below.refl _ _)⟩
  case round =>
    obtain ⟨t, ht, rfl, hA, hG⟩ := hrel
    obtain ⟨As, hAs⟩ : ∃ As, it roundF t A = As := ⟨_, rfl⟩
    rw [hAs] at hA
    by_cases hlt : t < 24
    · have ht1 : (t : Int) < 24 := by omega
      have hix := fun W => index_rc t hlt W
      have hp3 := Nat.lt_of_lt_of_le hpl hG.out.size
      go_upto_block 2 with fail
      have hz0 : wr.heap.size ≠ p := by omega
      have hA1 : Wd .u64 (wr.alloc (.cells #[.int .u64 0, .int .u64 0, .int .u64 0, .int .u64 0, .int .u64 0] 177)) p 0 25 As := hA.out.alloc _
      have hG1 : Kg p w (wr.alloc (.cells #[.int .u64 0, .int .u64 0, .int .u64 0, .int .u64 0, .int .u64 0] 177)) := hG.out.tr (Kg.of ((Below.refl _ _).alloc (Nat.le_refl _) _))
      have hC1 : Wd .u64 (wr.alloc (.cells #[.int .u64 0, .int .u64 0, .int .u64 0, .int .u64 0, .int .u64 0] 177)) wr.heap.size 0 5 (fill (cF As) 0) := by rw [fill_zero]; exact zero_row wr _ 5 rfl
      have hcw : Hid (w.heap.size ≤ wr.heap.size) := hG.out.size
      generalize (wr.alloc (.cells #[.int .u64 0, .int .u64 0, .int .u64 0, .int .u64 0, .int .u64 0] 177)) = w1 at hA1 hG1 hC1 ⊢
      have hAsH := Lib.hid hAs
      clear hA hG hAs
      generalize wr.heap.size = cb at hz0 hC1 hcw hp3 ⊢
      go_cut [] (fun wx => Hid (Wd .u64 wx p 0 25 As) ∧ Hid (Wd .u64 wx cb 0 5 (fill (cF As) 5)) ∧ Hid (Kg p w wx))
      case first =>
        go_wp2_with fail
        go_loopw [16] (fun v wx => ∃ x : Nat, x ≤ 5 ∧ v = .int .i64 x ∧ Hid (Wd .u64 wx p 0 25 As) ∧ Hid (Wd .u64 wx cb 0 5 (fill (cF As) x)) ∧ Hid (Kg p w wx)) (fun v _ => 5 - (intOf v).toNat)
        case atStart => exact ⟨0, by omega, rfl, hA1, hC1, hG1⟩
        case round =>
          obtain ⟨x, hx, rfl, hAx, hCx, hGx⟩ := hrel
          by_cases hx5 : x < 5
          · have hx0 : (0 : Int) ≤ (x : Int) := Int.natCast_nonneg _
            have hx1 : (x : Int) < 5 := by omega
            have hx2 : (x : Int) < 25 := by omega
            have hx3 : (x : Int) + 5 < 25 := by omega
            have hx4 : (x : Int) + 10 < 25 := by omega
            have hx5' : (x : Int) + 15 < 25 := by omega
            have hx6 : (x : Int) + 20 < 25 := by omega
            have a0 := (hAx.out x (by omega)).1
            have a1 := (hAx.out (x + 5) (by omega)).1
            have a2 := (hAx.out (x + 10) (by omega)).1
            have a3 := (hAx.out (x + 15) (by omega)).1
            have a4 := (hAx.out (x + 20) (by omega)).1
            obtain ⟨c0, f0⟩ := hCx.out x hx5
            have hCs := hCx.out.set hx5 (cF As x)
            have hAo := hAx.out.other ⟨cb, x, none⟩ (.int .u64 (cF As x)) hz0
            have hGs := kg_drew (kg_new hGx.out hcw.out x (.int .u64 (cF As x)))
            rw [Nat.zero_add] at a0 a1 a2 a3 a4 c0 f0 hCs
            rw [fill_upd] at hCs
            have HC := Lib.hid hCs.drew
            have HAO := Lib.hid hAo.drew
            have HG := Lib.hid hGs
            clear hCs hAo hGs hAx hCx hGx
            go_wp2_with fail
            go_region
            clear a0 a1 a2 a3 a4 c0 f0
            go_wp2_with fail
            go_roundw
            case rel => exact ⟨x + 1, by omega, by go_num, HAO.out, HC.out, HG.out⟩
            case measure => simp [intOf]; omega
          · obtain rfl : x = 5 := by omega
            go_wp2_with fail
            go_meet
            exact ⟨hAx, hCx, hGx⟩
      case rest =>
        obtain ⟨hAx, hCx, hGx⟩ := hcut
        clear hA1 hG1 hC1
        go_upto_block 4 with fail
        have hz1 : wc.heap.size ≠ p := by have := hGx.out.size; have := hcw.out; omega
        have hz2 : Hid (wc.heap.size ≠ 5 ∧ wc.heap.size ≠ cb) := by
          have h1 := HK.out.lt2; have h2 := hGx.out.size; have h3 := hCx.out.lt (by omega)
          exact ⟨by omega, by omega⟩
        have hbw : Hid (w.heap.size ≤ wc.heap.size) := hGx.out.size
        have hAx := Lib.hid (hAx.out.alloc (.cells #[.int .u64 0, .int .u64 0, .int .u64 0, .int .u64 0, .int .u64 0, .int .u64 0, .int .u64 0, .int .u64 0, .int .u64 0, .int .u64 0, .int .u64 0, .int .u64 0, .int .u64 0, .int .u64 0, .int .u64 0, .int .u64 0, .int .u64 0, .int .u64 0, .int .u64 0, .int .u64 0, .int .u64 0, .int .u64 0, .int .u64 0, .int .u64 0, .int .u64 0] 130))
        have hCx := Lib.hid (hCx.out.alloc (.cells #[.int .u64 0, .int .u64 0, .int .u64 0, .int .u64 0, .int .u64 0, .int .u64 0, .int .u64 0, .int .u64 0, .int .u64 0, .int .u64 0, .int .u64 0, .int .u64 0, .int .u64 0, .int .u64 0, .int .u64 0, .int .u64 0, .int .u64 0, .int .u64 0, .int .u64 0, .int .u64 0, .int .u64 0, .int .u64 0, .int .u64 0, .int .u64 0, .int .u64 0] 130))
        have hGx := Lib.hid (hGx.out.tr (Kg.of ((Below.refl _ _).alloc (Nat.le_refl _) (.cells #[.int .u64 0, .int .u64 0, .int .u64 0, .int .u64 0, .int .u64 0, .int .u64 0, .int .u64 0, .int .u64 0, .int .u64 0, .int .u64 0, .int .u64 0, .int .u64 0, .int .u64 0, .int .u64 0, .int .u64 0, .int .u64 0, .int .u64 0, .int .u64 0, .int .u64 0, .int .u64 0, .int .u64 0, .int .u64 0, .int .u64 0, .int .u64 0, .int .u64 0] 130))))
        have hBx := Lib.hid (zero_row wc 130 25 (cs := #[.int .u64 0, .int .u64 0, .int .u64 0, .int .u64 0, .int .u64 0, .int .u64 0, .int .u64 0, .int .u64 0, .int .u64 0, .int .u64 0, .int .u64 0, .int .u64 0, .int .u64 0, .int .u64 0, .int .u64 0, .int .u64 0, .int .u64 0, .int .u64 0, .int .u64 0, .int .u64 0, .int .u64 0, .int .u64 0, .int .u64 0, .int .u64 0, .int .u64 0]) rfl)
        generalize (wc.alloc (.cells #[.int .u64 0, .int .u64 0, .int .u64 0, .int .u64 0, .int .u64 0, .int .u64 0, .int .u64 0, .int .u64 0, .int .u64 0, .int .u64 0, .int .u64 0, .int .u64 0, .int .u64 0, .int .u64 0, .int .u64 0, .int .u64 0, .int .u64 0, .int .u64 0, .int .u64 0, .int .u64 0, .int .u64 0, .int .u64 0, .int .u64 0, .int .u64 0, .int .u64 0] 130)) = w2 at hAx hCx hGx hBx ⊢
        generalize wc.heap.size = bb at hz1 hz2 hbw hBx ⊢
        go_cut [] (fun wx => Hid (Wd .u64 wx p 0 25 As) ∧ Hid (Wd .u64 wx bb 0 25 (it (bS As) 25 zf)) ∧ Hid (Kg p w wx))
        case first =>
          go_wp2_with fail
          go_loopw [55] (fun v wx => ∃ x : Nat, x ≤ 5 ∧ v = .int .i64 x ∧ Hid (Wd .u64 wx p 0 25 As) ∧ Hid (Wd .u64 wx cb 0 5 (fill (cF As) 5)) ∧ Hid (Wd .u64 wx bb 0 25 (it (bS As) (5 * x) zf)) ∧ Hid (Kg p w wx)) (fun v _ => 5 - (intOf v).toNat)
          case atStart => exact ⟨0, by omega, rfl, hAx, hCx, hBx, hGx⟩
          case round =>
            clear hAx hCx hGx hBx
            obtain ⟨x, hx, rfl, hAx, hCx, hBx, hGx⟩ := hrel
            by_cases hx5 : x < 5
            · have hx0 : (0 : Int) ≤ (x : Int) := Int.natCast_nonneg _
              have hx1 : (x : Int) < 5 := by omega
              obtain ⟨x4, hx4⟩ : ∃ x4, (x + 4) % 5 = x4 := ⟨_, rfl⟩
              obtain ⟨x6, hx6⟩ : ∃ x6, (x + 1) % 5 = x6 := ⟨_, rfl⟩
              have hm4 : ((x : Int) + 4).tmod 5 = (x4 : Int) := by rw [Int.tmod_eq_emod_of_nonneg (by omega)]; omega
              have hm6 : ((x : Int) + 1).tmod 5 = (x6 : Int) := by rw [Int.tmod_eq_emod_of_nonneg (by omega)]; omega
              have hw4 : IntKind.i64.wrap ((x : Int) + 4) = (x : Int) + 4 := IntWalk.i64_in _ (by omega)
              have hw6 : IntKind.i64.wrap ((x : Int) + 1) = (x : Int) + 1 := IntWalk.i64_in _ (by omega)
              have hv4 : IntKind.i64.wrap (x4 : Int) = (x4 : Int) := IntWalk.i64_in _ (by omega)
              have hv6 : IntKind.i64.wrap (x6 : Int) = (x6 : Int) := IntWalk.i64_in _ (by omega)
              have h41 : (x4 : Int) < 5 := by omega
              have h61 : (x6 : Int) < 5 := by omega
              have h40 : (0 : Int) ≤ (x4 : Int) := Int.natCast_nonneg _
              have h60 : (0 : Int) ≤ (x6 : Int) := Int.natCast_nonneg _
              have c4 := (hCx.out x4 (by omega)).1
              have c6 := (hCx.out x6 (by omega)).1
              have hf4 : fill (cF As) 5 x4 = cF As ((x + 4) % 5) := by rw [hx4]; unfold fill; rw [if_pos (by omega)]
              have hf6 : fill (cF As) 5 x6 = cF As ((x + 1) % 5) := by rw [hx6]; unfold fill; rw [if_pos (by omega)]
              rw [Nat.zero_add, hf4] at c4
              rw [Nat.zero_add, hf6] at c6
              have HR1 := Lib.hid (fun W => rot_any (cF As ((x + 1) % 5)) 1 (by omega) W)
              have HD : Hid (bits .xor .u64 (cF As ((x + 4) % 5)) (rotV (cF As ((x + 1) % 5)) 1) = dF As x) := rfl
              generalize cF As ((x + 4) % 5) = y4 at c4 HR1 HD
              generalize cF As ((x + 1) % 5) = y6 at c6 HR1 HD
              clear hf4 hf6 hx4 hx6
              go_wp2_with fail
              go_region_held3 (fun w' => w'.cell? ⟨cb, x4, none⟩ = some (.int .u64 y4) ∧ w'.cell? ⟨cb, x6, none⟩ = some (.int .u64 y6)) (exact ⟨c4, c6⟩) (first | (go_at_call 134; refine (HR1.out _).mono ?_; rintro e w1 ⟨rfl, rfl⟩))
              have HDD : Hid (bits .xor .u64 y4 (rotV y6 1) = dF As x) := HD
              generalize bits .xor .u64 y4 (rotV y6 1) = dd at HDD ⊢
              clear c4 c6 HR1 HD hm4 hm6 hw4 hw6 hv4 hv6 h41 h61 h40 h60
              replace hAx := Lib.hid hAx.out.drew
              replace hCx := Lib.hid hCx.out.drew
              replace hBx := Lib.hid hBx.out.drew
              replace hGx := Lib.hid (kg_drew hGx.out)
              generalize wr.drew = w3 at hAx hCx hBx hGx ⊢
              go_wp2_with fail
              go_loopw [70] (fun v wx => ∃ y : Nat, y ≤ 5 ∧ v = .int .i64 y ∧ Hid (Wd .u64 wx p 0 25 As) ∧ Hid (Wd .u64 wx cb 0 5 (fill (cF As) 5)) ∧ Hid (Wd .u64 wx bb 0 25 (it (bS As) (5 * x + y) zf)) ∧ Hid (Kg p w wx)) (fun v _ => 5 - (intOf v).toNat)
              case atStart => exact ⟨0, by omega, rfl, hAx, hCx, hBx, hGx⟩
              case round =>
                clear hAx hCx hBx hGx
                obtain ⟨y, hy, rfl, hAx, hCx, hBx, hGx⟩ := hrel
                by_cases hy5 : y < 5
                · have hy0 : (0 : Int) ≤ (y : Int) := Int.natCast_nonneg _
                  have hy1 : (y : Int) < 5 := by omega
                  obtain ⟨m, hm⟩ : ∃ m, (2 * x + 3 * y) % 5 = m := ⟨_, rfl⟩
                  have hmt : (2 * (x : Int) + 3 * (y : Int)).tmod 5 = (m : Int) := by rw [Int.tmod_eq_emod_of_nonneg (by omega)]; omega
                  have hw1 : IntKind.i64.wrap (2 * (x : Int)) = 2 * (x : Int) := IntWalk.i64_in _ (by omega)
                  have hw2 : IntKind.i64.wrap (3 * (y : Int)) = 3 * (y : Int) := IntWalk.i64_in _ (by omega)
                  have hw3 : IntKind.i64.wrap (2 * (x : Int) + 3 * (y : Int)) = 2 * (x : Int) + 3 * (y : Int) := IntWalk.i64_in _ (by omega)
                  have hw4 : IntKind.i64.wrap (m : Int) = (m : Int) := IntWalk.i64_in _ (by omega)
                  have hw5 : IntKind.i64.wrap (5 * (m : Int)) = 5 * (m : Int) := IntWalk.i64_in _ (by omega)
                  have hw6 : IntKind.i64.wrap ((y : Int) + 5 * (m : Int)) = (y : Int) + 5 * (m : Int) := IntWalk.i64_in _ (by omega)
                  have hw7 : IntKind.i64.wrap (5 * (y : Int)) = 5 * (y : Int) := IntWalk.i64_in _ (by omega)
                  have hw8 : IntKind.i64.wrap ((x : Int) + 5 * (y : Int)) = (x : Int) + 5 * (y : Int) := IntWalk.i64_in _ (by omega)
                  have hi1 : (y : Int) + 5 * (m : Int) < 25 := by omega
                  have hi2 : (x : Int) + 5 * (y : Int) < 25 := by omega
                  have hi3 : (0 : Int) ≤ (y : Int) + 5 * (m : Int) := by omega
                  have hi4 : (0 : Int) ≤ (x : Int) + 5 * (y : Int) := by omega
                  have ht1' : ((y : Int) + 5 * (m : Int)).toNat = y + 5 * m := by omega
                  have ht2' : ((x : Int) + 5 * (y : Int)).toNat = x + 5 * y := by omega
                  have a1 := (hAx.out (x + 5 * y) (by omega)).1
                  have u1 : wr.cell? ⟨5, x + 5 * y, none⟩ = some (.int .i64 (tu (x + 5 * y) : Nat)) := (hGx.out.cell HK.out.lt2 (Ne.symm hp2) (Ne.symm hp2)).trans (HK.out.tu _ (by omega))
                  obtain ⟨b1, b2⟩ := hBx.out (y + 5 * m) (by omega)
                  have htl := tu_lt (x + 5 * y)
                  have HBF : Hid (rotV (bits .xor .u64 (As (x + 5 * y)) dd) (tu (x + 5 * y)) = bF As x y) := by show _ = _; rw [HDD.out]; rfl
                  have HBS : Hid (upd (it (bS As) (5 * x + y) zf) (y + 5 * m) (bF As x y) = it (bS As) (5 * x + (y + 1)) zf) := bs_at As _ x y m hy5 hm
                  have HBN := Lib.hid (hBx.out.set (j := y + 5 * m) (by omega) (bF As x y))
                  have HAN := Lib.hid (hAx.out.other ⟨bb, 0 + (y + 5 * m), none⟩ (.int .u64 (bF As x y)) hz1)
                  have HCN := Lib.hid (hCx.out.other ⟨bb, 0 + (y + 5 * m), none⟩ (.int .u64 (bF As x y)) hz2.out.2)
                  have HGN := Lib.hid (kg_new hGx.out hbw.out (0 + (y + 5 * m)) (.int .u64 (bF As x y)))
                  rw [Nat.zero_add] at a1 b1 b2 HBN HAN HCN HGN
                  have HR1 := Lib.hid (fun W => rot_any (bits .xor .u64 (As (x + 5 * y)) dd) (tu (x + 5 * y)) htl W)
                  rw [HBF.out] at HR1
                  have hne1 := hz1
                  have hne2 := hz2.out.1
                  generalize tu (x + 5 * y) = tv at u1 HR1
                  generalize As (x + 5 * y) = av at a1 HR1
                  clear HBF hm htl
                  go_wp2_with fail
                  go_region_held3 (fun w' => w'.cell? ⟨p, x + 5 * y, none⟩ = some (.int .u64 av) ∧ w'.cell? ⟨5, x + 5 * y, none⟩ = some (.int .i64 (tv : Nat)))
                    (first | exact ⟨a1, u1⟩ | exact ⟨(World.cell?_setCell_other _ _ _ _ (by intro e; injection e with e; exact hne1 e)).trans a1, (World.cell?_setCell_other _ _ _ _ (by intro e; injection e with e; exact hne2 e)).trans u1⟩)
                    (first | (go_at_call 134; refine (HR1.out _).mono ?_; rintro e w1 ⟨rfl, rfl⟩))
                  all_goals
                    clear a1 u1 b1 b2 HR1 hmt hw1 hw2 hw3 hw4 hw5 hw6 hw7 hw8 hi1 hi2 hi3 hi4 ht1' ht2'
                    go_wp2_with fail
                    go_roundw
                    case rel => exact ⟨y + 1, by omega, by go_num, HAN.out.drew, HCN.out.drew, by rw [← HBS.out]; exact HBN.out.drew, kg_drew HGN.out⟩
                    case measure => simp [intOf]; omega
                · obtain rfl : y = 5 := by omega
                  go_wp2_with fail
                  go_roundw
                  case rel => exact ⟨x + 1, by omega, by go_num, hAx, hCx, by rw [show 5 * (x + 1) = 5 * x + 5 by omega]; exact hBx, hGx⟩
                  case measure => simp [intOf]; omega
            · obtain rfl : x = 5 := by omega
              go_wp2_with fail
              go_meet
              exact ⟨hAx, hBx, hGx⟩
        case rest =>
          clear hAx hCx hGx hBx
          obtain ⟨hAx, hBx, hGx⟩ := hcut
          obtain ⟨B, hB⟩ : ∃ B, it (bS As) 25 zf = B := ⟨_, rfl⟩
          rw [hB] at hBx
          have HB := Lib.hid hB
          clear hB
          go_upto_block 8 with fail
          go_cut [] (fun wx => Hid (Wd .u64 wx p 0 25 (eS B As 25)) ∧ Hid (Kg p w wx))
          case first =>
            go_wp2_with fail
            go_loopw [10] (fun v wx => ∃ k : Nat, k ≤ 5 ∧ v = .int .i64 ((5 * k : Nat) : Int) ∧ Hid (Wd .u64 wx p 0 25 (eS B As (5 * k))) ∧ Hid (Wd .u64 wx bb 0 25 B) ∧ Hid (Kg p w wx)) (fun v _ => 25 - (intOf v).toNat)
            case atStart => exact ⟨0, by omega, rfl, by rw [show 5 * 0 = 0 from rfl, eS_zero]; exact hAx, hBx, hGx⟩
            case round =>
              clear hAx hBx hGx
              obtain ⟨k, hk, rfl, hAx, hBx, hGx⟩ := hrel
              obtain ⟨yy, hyy⟩ : ∃ yy, 5 * k = yy := ⟨_, rfl⟩
              rw [hyy] at hAx ⊢
              have hy0 : (0 : Int) ≤ (yy : Int) := Int.natCast_nonneg _
              by_cases hk5 : k < 5
              · have hy1 : (yy : Int) < 25 := by omega
                have hyw : IntKind.i64.wrap ((yy : Int) + 5) = (yy : Int) + 5 := IntWalk.i64_in _ (by omega)
                go_wp2_with fail
                go_loopw [106] (fun v wx => ∃ x : Nat, x ≤ 5 ∧ v = .int .i64 x ∧ Hid (Wd .u64 wx p 0 25 (eS B As (yy + x))) ∧ Hid (Wd .u64 wx bb 0 25 B) ∧ Hid (Kg p w wx)) (fun v _ => 5 - (intOf v).toNat)
                case atStart => exact ⟨0, by omega, rfl, hAx, hBx, hGx⟩
                case round =>
                  clear hAx hBx hGx
                  obtain ⟨x, hx, rfl, hAx, hBx, hGx⟩ := hrel
                  by_cases hx5 : x < 5
                  · have hx0 : (0 : Int) ≤ (x : Int) := Int.natCast_nonneg _
                    have hx1 : (x : Int) < 5 := by omega
                    obtain ⟨x1, h15, e1, hm1⟩ := md x 1
                    obtain ⟨x2, h25, e2, hm2⟩ := md x 2
                    replace hm1 : ((x : Int) + 1).tmod 5 = (x1 : Int) := hm1
                    replace hm2 : ((x : Int) + 2).tmod 5 = (x2 : Int) := hm2
                    have l0 := add5 hk5 hx5 hyy
                    have l1 := add5 hk5 h15 hyy
                    have l2 := add5 hk5 h25 hyy
                    have hw1 : IntKind.i64.wrap ((x : Int) + 1) = (x : Int) + 1 := (sm x 1 (by omega)).1
                    have hw2 : IntKind.i64.wrap ((x : Int) + 2) = (x : Int) + 2 := (sm x 2 (by omega)).1
                    have hw3 := wn x1 (by omega)
                    have hw4 := wn x2 (by omega)
                    obtain ⟨hw5, hi1, hj1, ht1'⟩ := sm x yy l0
                    obtain ⟨hw6, hi2, hj2, ht2'⟩ := sm x1 yy l1
                    obtain ⟨hw7, hi3, hj3, ht3'⟩ := sm x2 yy l2
                    have b0 := (hBx.out (x + yy) l0).1
                    have b1 := (hBx.out (x1 + yy) l1).1
                    have b2 := (hBx.out (x2 + yy) l2).1
                    obtain ⟨a1, a2⟩ := hAx.out (x + yy) l0
                    have HEF : Hid (eF B x yy = bits .xor .u64 (B (x + yy)) (bits .and .u64 (bits .xor .u64 (if IntKind.u64.signed = true then -1 else IntKind.u64.max) (B (x1 + yy))) (B (x2 + yy)))) := by
                      show _ = _; unfold eF; rw [e1.out, e2.out]
                    have HES := Lib.hid (es_step B As k yy x hyy hx5)
                    have HAN := Lib.hid (hAx.out.set (j := x + yy) l0 (eF B x yy))
                    have HBN := Lib.hid (hBx.out.other ⟨p, 0 + (x + yy), none⟩ (.int .u64 (eF B x yy)) hz1.symm)
                    have HGN := Lib.hid (kg_own hGx.out (0 + (x + yy)) (.int .u64 (eF B x yy)))
                    rw [Nat.zero_add] at a1 a2 b0 b1 b2 HAN HBN HGN
                    clear e1 e2
                    go_wp2_with fail
                    go_region
                    rw [← HEF.out]
                    clear a1 a2 b0 b1 b2 hm1 hm2 hw1 hw2 hw3 hw4 hw5 hw6 hw7 hi1 hi2 hi3 hj1 hj2 hj3 ht1' ht2' ht3' l0 l1 l2
                    go_wp2_with fail
                    go_roundw
                    case rel => exact ⟨x + 1, by omega, by go_num, by rw [← HES.out]; exact HAN.out.drew, HBN.out.drew, kg_drew HGN.out⟩
                    case measure => simp [intOf]; omega
                  · obtain rfl : x = 5 := by omega
                    go_wp2_with fail
                    go_roundw
                    case rel => exact ⟨k + 1, by omega, by rw [show 5 * (k + 1) = yy + 5 by omega]; go_num, by rw [show 5 * (k + 1) = yy + 5 by omega]; exact hAx, hBx, hGx⟩
                    case measure => simp [intOf]; omega
              · obtain rfl : k = 5 := by omega
                obtain rfl : yy = 25 := by omega
                go_wp2_with fail
                go_meet
                exact ⟨hAx, hGx⟩
          case rest =>
            clear hAx hBx hGx
            obtain ⟨hAx, hGx⟩ := hcut
            obtain ⟨a0, f0⟩ := hAx.out 0 (by omega)
            have HRT : Hid (rcT[t]?.getD 0 = rcT.getD t 0) := (List.getD_eq_getElem?_getD).symm
            generalize rcT[t]?.getD 0 = rv at HRT ⊢
            go_wp2_with fail
            have HAN := Lib.hid (hAx.out.set (j := 0) (by omega) (bits .xor .u64 (eS B As 25 0) rv))
            have HGN := Lib.hid (kg_own hGx.out (0 + 0) (.int .u64 (bits .xor .u64 (eS B As 25 0) rv)))
            go_region
            clear a0 f0
            go_wp2_with fail
            go_roundw
            case rel => exact ⟨t + 1, by omega, by go_num, by rw [it_succ, hAsH.out]; unfold roundF; rw [← HRT.out, HB.out]; exact HAN.out.drew, kg_drew HGN.out⟩
            case measure => simp [intOf]; omega
    · obtain rfl : t = 24 := by omega
      go_wp2_with fail
      go_end0
      exact ⟨⟨_, rfl⟩, by unfold permF; rw [hAs]; exact hA.out, hG.out⟩
end Go.Proofs.YtfdododighjjpaaGreatDoor.Kc
