/- The walk of DaysNext. -/
import Derived.Test.YtgbonpmakahibaaDoorDaP
namespace Go.Proofs.YtgbonpmakahibaaDoor.Dy
open Go.RowKit Go.PlainAid
set_option linter.unusedVariables false
set_option linter.unusedSimpArgs false
set_option maxHeartbeats 4000000

set_option maxRecDepth 100000 in
theorem daysNext_walk (a : Option Addr) (n cap : Nat) (l : List (Nat × Nat)) (d : Int) (w : World) (hP : Pow10 w) (h : Us w a n cap l) :
    Calls Tryd.prog 3 #[.slice a n cap, .int .i64 d] w fun e w' => e = .returned (.bool true) ∧ RowKit.Below w.heap.size w w' := by
  have HP := Lib.hid hP
  have HM := Lib.hid (fun W (hb : RowKit.Below w.heap.size w W) => make_any a n cap l W (h.below hb (Nat.le_refl _)))
  clear hP h
  go_enter Tryd.func3, Tryd.ntmps3
  go_wp2_with (first
    | (go_at_call 9; (with_reducible refine (awake_any _ HP.out).mono ?_); rintro e w1 ⟨rfl, hB1⟩)
    | (go_at_call 10; (with_reducible refine (HM.out _ hB1).mono ?_); rintro e w2 ⟨a2, n2, c2, r, g, rfl, hd2, hc2, hf2, hb2⟩; have HD2 := Lib.hid hd2; have HC2 := Lib.hid hc2; have HF2 := Lib.hid hf2.fl; have hB2 := hB1.trans (hb2.mono hB1.size); obtain ⟨y, hy⟩ : ∃ y, nextP r d = y := ⟨_, rfl⟩; have HY := Lib.hid hy; clear hy hd2 hc2 hf2 hb2 hB1; obtain ⟨y1, y2⟩ := y)
    | (go_at_call 11; (with_reducible refine (next_any _ _ _ _ _ _ (HD2.out.below ((RowKit.Below.refl w2.heap.size w2).alloc (Nat.le_refl _) _) (Nat.le_refl _))).mono ?_); rw [HY.out]; rintro e w3 ⟨rfl, hb3⟩; have hD3 := bel1 hb3; have hB3 := hB2.trans (hD3.mono hB2.size); clear hb3)
    | (go_at_call 12; (with_reducible refine (rnext_any _ _ _ _ _ (HF2.out.below hD3 (Nat.le_refl _))).mono ?_); rintro e w4 ⟨x, rfl, hx, hb4⟩; have hl := next_law HC2.out (fun d _ _ => rfl) hx.out; rw [HY.out] at hl; have hl1 := hl.1; have hl2 := hl.2; dsimp only at hl1 hl2; have hB4 := hB3.trans (hb4.mono hB3.size); clear hl hx hb4; have hg := hl1.symm; have hm := hl2.symm; clear hl1 hl2))
  go_ret
  exact ⟨rfl, hB4⟩
end Go.Proofs.YtgbonpmakahibaaDoor.Dy
