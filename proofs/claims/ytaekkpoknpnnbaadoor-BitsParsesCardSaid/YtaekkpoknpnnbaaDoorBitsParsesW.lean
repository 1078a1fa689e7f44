/- The walk of BitsParses. -/
import Derived.Test.YtaekkpoknpnnbaaDoorBuE
namespace Go.Proofs.YtaekkpoknpnnbaaDoor
open Go.RowKit Go.PlainAid
set_option linter.unusedVariables false
set_option linter.unusedSimpArgs false
set_option maxHeartbeats 4000000

set_option maxRecDepth 20000 in
theorem bitsParses_walk (s : ByteArray) (w : World) (hW : Wld w) (hs : s.size ≤ 9223372036854775807) :
    Calls Tryd.prog 6 #[.string s] w fun e w' => e = .returned (.bool true) ∧ Below w.heap.size w w' := by
  obtain ⟨m, hm⟩ : ∃ m : Nat, min (s.size : Int) 200 = m := ⟨min s.size 200, by omega⟩
  have hms : m ≤ s.size := by omega
  have HSZ : Hid ((s.extract 0 m).size ≤ 100000) := by show _ ≤ _; rw [ByteArray.size_extract]; omega
  have HW := Lib.hid hW
  clear hW
  have tk0 : Hid True := trivial
  by_cases hy : ∃ l, Asc l ∧ (s.extract 0 m).data.toList = textB l
  · obtain ⟨L, hL, ht⟩ := hy
    have HT : Hid (s.extract 0 m = ⟨(textB L).toArray⟩) := str_eq ht
    have AL := Lib.hid hL
    clear hL ht
    go_enter Tryd.func6, Tryd.ntmps6
    go_wp2_with (first
      | (go_at_call 13; (with_reducible refine (awake_any _ HW.out).mono ?_); rintro e w0 ⟨rfl, hB⟩)
      | (go_at_call 24; clear tk0; (with_reducible refine (p_text (s.extract 0 m) L _ HT.out AL.out (HW.out.below hB)).mono ?_); have tk1 : Hid True := trivial; rintro e w1 ⟨a1, n1, c1, rfl, hs1, hb⟩; have hB := step_call hB hb; clear hb; have hBW := hB; have hz : w1.heap.size + 1 ≤ ((w1).alloc (.cells #[.slice a1 n1 c1] 27)).heap.size := (by simp); have hE := Below.refl (w1.heap.size + 1) ((w1).alloc (.cells #[.slice a1 n1 c1] 27)); clear hB; obtain ⟨q1, hD⟩ := box1 hE; have hB := step_call hBW hD; have HXs1 := Lib.hid hs1; clear hs1)
      | (go_at_call 26; clear tk1; (with_reducible refine (b_text (s.extract 0 m) _ _ _ L _ HT.out (HXs1.out.below hD) (HW.out.below hB)).mono ?_); have tk2 : Hid True := trivial; rintro e w2 ⟨rfl, hb⟩; have hE := step_callB hE hz hb; clear q1 hD hB; obtain ⟨q1, hD⟩ := box1 hE; have hB := step_call hBW hD; clear hb))
    go_ret
    exact ⟨rfl, hB⟩
  · have HNO : Hid (∀ l, Asc l → (s.extract 0 m).data.toList ≠ textB l) := fun l hl e => hy ⟨l, hl, e⟩
    clear hy
    go_enter Tryd.func6, Tryd.ntmps6
    go_wp2_with (first
      | (go_at_call 13; (with_reducible refine (awake_any _ HW.out).mono ?_); rintro e w0 ⟨rfl, hB⟩)
      | (go_at_call 24; clear tk0; (with_reducible refine (parse_bad (s.extract 0 m) HSZ.out HNO.out _ (HW.out.below hB)).mono ?_); have tk1 : Hid True := trivial; rintro e w1 ⟨rfl, hb⟩; have hB := step_call hB hb; clear hb)
      | (go_at_call 27; (with_reducible refine (empty_any _ _ _ [] _ (Bs.nil _)).mono ?_); rintro e w2 ⟨rfl, hb⟩; have hB := step_call (hB.alloc hB.size _) hb))
    go_ret
    exact ⟨rfl, hB⟩
end Go.Proofs.YtaekkpoknpnnbaaDoor
