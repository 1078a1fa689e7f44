/- The walk of DaysParses. -/
import Derived.Test.YtfdododighjjpaaGreatDoorDzI
namespace Go.Proofs.YtfdododighjjpaaGreatDoor.Dy
open Go.RowKit Go.PlainAid
set_option linter.unusedVariables false
set_option linter.unusedSimpArgs false
set_option maxHeartbeats 8000000
theorem parse_no (s : ByteArray) (hs : s.size ≤ 1000) (h : ∀ r, Can r → textL r ≠ s.data.toList) (w : World) (hW : Wz w) :
    Calls Tryz.prog 7 #[.string s] w fun e w' => e = .returned (.tuple #[.agg #[.slice none 0 0], .int .i64 6]) ∧ RowKit.Below w.heap.size w w' := by
  refine (parse_any s (by omega) (by have := lines_size 44 s.data.toList; have e : s.data.toList.length = s.size := Array.length_toList; omega) w hW).mono ?_
  rintro e w' ⟨⟨r, a, n, c, rfl, hds, hcr, ht⟩ | ⟨rfl, hno⟩, hb⟩
  · exact absurd ht (h r hcr)
  · exact ⟨rfl, hb⟩
theorem rparse_no (s : ByteArray) (hs : s.size ≤ 1000) (h : ∀ r, Can r → textL r ≠ s.data.toList) (w : World) :
    Calls Tryz.prog 8 #[.string s] w fun e w' => ∃ v, e = .returned (.tuple #[v, .bool false]) ∧ RowKit.Below w.heap.size w w' := by
  refine (rparse_any5 s hs w).mono ?_
  rintro e w' ⟨hb, ⟨g, r, rfl, hf, hcr, ht⟩ | ⟨v, rfl, hno⟩⟩
  · exact absurd ht (h r hcr)
  · exact ⟨v, rfl, hb⟩
theorem rparse_self (l : List (Int × Int)) (h : Can l) (s : ByteArray) (hz : s.size ≤ 1000) (hs : ⟨(textL l).toArray⟩ = s) (w : World) :
    Calls Tryz.prog 8 #[.string s] w fun e w' => ∃ g, e = .returned (.tuple #[.slice (some ⟨g, 0, none⟩) 30001 30001, .bool true]) ∧ Fo w' g (Dm l) ∧ RowKit.Below w.heap.size w w' := by
  have hd : s.data.toList = textL l := by rw [← hs]
  refine (rparse_any5 s hz w).mono ?_
  rintro e w' ⟨hb, ⟨g, r, rfl, hf, hcr, ht⟩ | ⟨v, rfl, hno⟩⟩
  · rw [hd] at ht
    rw [textL_inj hcr h ht] at hf
    exact ⟨g, rfl, hf, hb⟩
  · exact absurd hd.symm (hno l h)
set_option maxRecDepth 100000 in
theorem daysParses_walk (p : ByteArray) (w : World) (hW : Wz w) (hp : p.size ≤ 9223372036854775807) :
    Calls Tryz.prog 3 #[.string p] w fun e w' => e = .returned (.bool true) ∧ RowKit.Below w.heap.size w w' := by
  have HW := Lib.hid (fun W (hb : RowKit.Below w.heap.size w W) => hW.below hb)
  have HAW := Lib.hid (awake_any w hW.pow)
  clear hW
  obtain ⟨q, hq⟩ : ∃ q, p.extract 0 (min (p.size : Int) 60).toNat = q := ⟨_, rfl⟩
  have hqs : q.size ≤ 1000 := by rw [← hq, ByteArray.size_extract]; omega
  have HQ := Lib.hid hq
  clear hq
  go_enter Tryz.func3, Tryz.ntmps3
  go_upto_region 4 with (go_at_call 6; (with_reducible refine HAW.out.mono ?_); rintro e w1 ⟨rfl, hB1⟩)
  rw [HQ.out]
  clear HQ
  by_cases hr : ∃ r, Can r ∧ textL r = q.data.toList
  · obtain ⟨r, hcr, htr⟩ := hr
    have htx : (⟨(textL r).toArray⟩ : ByteArray) = q := by rw [htr]
    have HCR := Lib.hid hcr
    have HTX := Lib.hid htx
    have ht : (q.toList == q.toList) = true := beq_self_eq_true _
    clear hcr htr htx
    have HP := Lib.hid (parse_self r HCR.out q HTX.out w1 (HW.out _ hB1))
    have HR := Lib.hid (fun W => rparse_self r HCR.out q hqs HTX.out W)
    go_wp2_with (first
      | (go_at_call 7; (with_reducible refine HP.out.mono ?_); rintro e w2 ⟨a, n, c, rfl, hd2, hb2⟩; have HD2 := Lib.hid hd2; clear hd2; have hB2 := hB1.trans (hb2.mono hB1.size); have hG := (RowKit.Below.refl w2.heap.size w2).alloc (Nat.le_refl _) (.cells #[.slice a n c] 25); have hB3 := hB2.trans (hG.mono hB2.size); have q3 : (w2.alloc (.cells #[.slice a n c] 25)).cell? ⟨w2.heap.size, 0, none⟩ = some (.slice a n c) := (new1 w2 _ _).1; have hz3 : w2.heap.size < (w2.alloc (.cells #[.slice a n c] 25)).heap.size := (by simp))
      | (go_at_call 8; (with_reducible refine (HR.out _).mono ?_); rintro e w4 ⟨g, rfl, hf, hb4⟩; have HF := Lib.hid hf; clear hf; have hG4 := hG.trans (hb4.mono hG.size); have q4 := (hb4.cell (p := ⟨w2.heap.size, 0, none⟩) hz3).trans q3; have hz4 := Nat.lt_of_lt_of_le hz3 hb4.size)
      | (go_at_call 10; (with_reducible refine (is_self _ _ _ _ _ _ (HD2.out.below hG4 (Nat.le_refl _)) HCR.out HF.out).mono ?_); rintro e w5 ⟨rfl, hb5⟩; have hG5 := hG4.trans (hb5.mono hG4.size); have q5 := (hb5.cell (p := ⟨w2.heap.size, 0, none⟩) hz4).trans q4; have hB5 := hB2.trans (hG5.mono hB2.size))
      | (go_at_call 11; (with_reducible refine (text_self _ _ _ _ HCR.out _ HTX.out _ (HD2.out.below hG5 (Nat.le_refl _)) (HW.out _ hB5).pow).mono ?_); rintro e w6 ⟨rfl, hb6⟩))
    go_ret
    exact ⟨rfl, hB5.trans (hb6.mono hB5.size)⟩
  · have hno : ∀ r, Can r → textL r ≠ q.data.toList := fun r h1 h2 => hr ⟨r, h1, h2⟩
    have HP := Lib.hid (parse_no q hqs hno w1 (HW.out _ hB1))
    have HR := Lib.hid (fun W => rparse_no q hqs hno W)
    clear hr hno
    go_wp2_with (first
      | (go_at_call 7; (with_reducible refine HP.out.mono ?_); rintro e w2 ⟨rfl, hb2⟩; have hB2 := hB1.trans (hb2.mono hB1.size); have hG := (RowKit.Below.refl w2.heap.size w2).alloc (Nat.le_refl _) (.cells #[.slice none 0 0] 25); have hB3 := hB2.trans (hG.mono hB2.size); have q3 : (w2.alloc (.cells #[.slice none 0 0] 25)).cell? ⟨w2.heap.size, 0, none⟩ = some (.slice none 0 0) := (new1 w2 _ _).1; have hz3 : w2.heap.size < (w2.alloc (.cells #[.slice none 0 0] 25)).heap.size := (by simp))
      | (go_at_call 8; (with_reducible refine (HR.out _).mono ?_); rintro e w4 ⟨v4, rfl, hb4⟩; have hG4 := hG.trans (hb4.mono hG.size); have q4 := (hb4.cell (p := ⟨w2.heap.size, 0, none⟩) hz3).trans q3; have hB4 := hB2.trans (hG4.mono hB2.size))
      | (go_at_call 9; (with_reducible refine (empty_any _ _ _ _).mono ?_); rintro e w5 ⟨rfl, hb5⟩))
    go_ret
    exact ⟨rfl, hB4.trans (hb5.mono hB4.size)⟩
end Go.Proofs.YtfdododighjjpaaGreatDoor.Dy
