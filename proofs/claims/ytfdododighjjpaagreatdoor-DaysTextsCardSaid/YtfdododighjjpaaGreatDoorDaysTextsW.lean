/- The walk of DaysTexts. -/
import Derived.Test.YtfdododighjjpaaGreatDoorDzF
namespace Go.Proofs.YtfdododighjjpaaGreatDoor.Dy
open Go.RowKit Go.PlainAid
set_option linter.unusedVariables false
set_option linter.unusedSimpArgs false
set_option maxHeartbeats 8000000
set_option maxRecDepth 100000 in
theorem daysTexts_walk (a : Option Addr) (n cap : Nat) (l : List (Nat × Nat)) (w : World) (hW : Wz w) (h : Us w a n cap l) :
    Calls Tryz.prog 4 #[.slice a n cap] w fun e w' => e = .returned (.bool true) ∧ RowKit.Below w.heap.size w w' := by
  have HW := Lib.hid (fun W (hb : RowKit.Below w.heap.size w W) => hW.below hb)
  have HU := Lib.hid (fun W (hb : RowKit.Below w.heap.size w W) => make_any a n cap l W (h.below hb (Nat.le_refl _)))
  have HAW := Lib.hid (awake_any w hW.pow)
  clear hW h
  go_enter Tryz.func4, Tryz.ntmps4
  go_upto_region 4 with (first
    | (go_at_call 6; (with_reducible refine HAW.out.mono ?_); rintro e w1 ⟨rfl, hB1⟩)
    | (go_at_call 12; (with_reducible refine (HU.out _ hB1).mono ?_); rintro e w2 ⟨aA, nA, cA, LA1, gA, rfl, hd2, hc2, hf2, hb2⟩; have HSA2 := Lib.hid hd2; have HFA2 := Lib.hid hf2; have HCA := Lib.hid hc2; have hB2 := hB1.trans (hb2.mono hB1.size); clear hd2 hc2 hf2 hb2))
  obtain ⟨tx, htx⟩ : ∃ tx : ByteArray, ⟨(textL LA1).toArray⟩ = tx := ⟨_, rfl⟩
  have ht : (tx.toList == tx.toList) = true := beq_self_eq_true _
  have HTX := Lib.hid htx
  clear htx HU HAW
  have hG := (RowKit.Below.refl w2.heap.size w2).alloc (Nat.le_refl _) (.cells #[.slice aA nA cA] 25)
  have hBW := hB2.trans (hG.mono hB2.size)
  have q3 : (w2.alloc (.cells #[.slice aA nA cA] 25)).cell? ⟨w2.heap.size, 0, none⟩ = some (.slice aA nA cA) := (new1 w2 _ _).1
  have hz3 : w2.heap.size < (w2.alloc (.cells #[.slice aA nA cA] 25)).heap.size := by simp
  have HS := Lib.hid (fun W (hb : RowKit.Below w2.heap.size w2 W) => HSA2.out.below hb (Nat.le_refl _))
  have HF := Lib.hid (fun W (hb : RowKit.Below w2.heap.size w2 W) => HFA2.out.below hb HFA2.out.1)
  clear HSA2 HFA2
  have tk0 : Nat := 0
  go_wp2_with (first
    | (go_at_call 11; clear tk0; (with_reducible refine (text_self _ _ _ _ HCA.out _ HTX.out _ (HS.out _ hG) (HW.out _ hBW).pow).mono ?_); rintro e w4 ⟨rfl, hb4⟩; have hG4 := hG.trans (hb4.mono hG.size); have tk1 : Nat := 0; have q4 := (hb4.cell (p := ⟨w2.heap.size, 0, none⟩) hz3).trans q3; have hz4 : w2.heap.size < w4.heap.size := Nat.lt_of_lt_of_le hz3 hb4.size)
    | (go_at_call 13; clear tk1; (with_reducible refine (rtext_self _ HCA.out _ HTX.out _ _ (HF.out _ hG4)).mono ?_); rintro e w5 ⟨rfl, hb5⟩; have hG5 := hG4.trans (hb5.mono hG4.size); have tk2 : Nat := 0; have q5 := (hb5.cell (p := ⟨w2.heap.size, 0, none⟩) hz4).trans q4; have hz5 : w2.heap.size < w5.heap.size := Nat.lt_of_lt_of_le hz4 hb5.size; have hW5 := hB2.trans (hG5.mono hB2.size))
    | (go_at_call 11; clear tk2; (with_reducible refine (text_self _ _ _ _ HCA.out _ HTX.out _ (HS.out _ hG5) (HW.out _ hW5).pow).mono ?_); rintro e w6 ⟨rfl, hb6⟩; have hG6 := hG5.trans (hb6.mono hG5.size); have tk3 : Nat := 0; have q6 := (hb6.cell (p := ⟨w2.heap.size, 0, none⟩) hz5).trans q5; have hz6 : w2.heap.size < w6.heap.size := Nat.lt_of_lt_of_le hz5 hb6.size; have hW6 := hB2.trans (hG6.mono hB2.size))
    | (go_at_call 7; clear tk3; (with_reducible refine (parse_self _ HCA.out _ HTX.out _ (HW.out _ hW6)).mono ?_); rintro e w7 ⟨a7, n7, c7, rfl, hd7, hb7⟩; have HD7 := Lib.hid hd7; clear hd7; have hG7 := hG6.trans (hb7.mono hG6.size); have tk4 : Nat := 0; have q7 := (hb7.cell (p := ⟨w2.heap.size, 0, none⟩) hz6).trans q6; have hz7 : w2.heap.size < w7.heap.size := Nat.lt_of_lt_of_le hz6 hb7.size; have q8 : (w7.alloc (.cells #[.slice a7 n7 c7] 25)).cell? ⟨w2.heap.size, 0, none⟩ = some (.slice aA nA cA) := ((RowKit.Below.refl w7.heap.size w7).alloc (Nat.le_refl _) _).cell (p := ⟨w2.heap.size, 0, none⟩) hz7 |>.trans q7; have r8 : (w7.alloc (.cells #[.slice a7 n7 c7] 25)).cell? ⟨w7.heap.size, 0, none⟩ = some (.slice a7 n7 c7) := (new1 w7 _ _).1; have hG8 := hG7.alloc hG7.size (.cells #[.slice a7 n7 c7] 25); have HD8 := Lib.hid (HD7.out.below ((RowKit.Below.refl w7.heap.size w7).alloc (Nat.le_refl _) (.cells #[.slice a7 n7 c7] 25)) (Nat.le_refl _)))
    | (go_at_call 14; clear tk4; (with_reducible refine (equal_self _ _ _ _ _ _ _ _ HD8.out (HS.out _ hG8)).mono ?_); rintro e w9 ⟨rfl, hb9⟩; have hG9 := hG8.trans (hb9.mono hG8.size); have tk5 : Nat := 0; have r9 := (hb9.cell (p := ⟨w7.heap.size, 0, none⟩) (by simp)).trans r8; have HD9 := Lib.hid (HD8.out.below hb9 (Nat.le_refl _)))
    | (go_at_call 10; clear tk5; (with_reducible refine (is_self _ _ _ _ _ _ HD9.out HCA.out (HF.out _ hG9)).mono ?_); rintro e w10 ⟨rfl, hb10⟩))
  go_ret
  exact ⟨rfl, (hB2.trans (hG9.mono hB2.size)).trans (hb10.mono (hB2.trans (hG9.mono hB2.size)).size)⟩
end Go.Proofs.YtfdododighjjpaaGreatDoor.Dy
