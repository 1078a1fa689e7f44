/- The walk of BitsMakes. -/
import Derived.Test.YtaekkpoknpnnbaaDoorBuE
namespace Go.Proofs.YtaekkpoknpnnbaaDoor
open Go.RowKit Go.PlainAid
set_option linter.unusedVariables false
set_option linter.unusedSimpArgs false
set_option maxHeartbeats 2000000

theorem bitsMakes_walk (a : Option Addr) (n cap : Nat) (zs : List Int) (k : Int) (w : World) (hW : Wld w) (h : Iw w a n cap zs) :
    Calls Tryd.prog 3 #[.slice a n cap, .int .i64 k] w fun e w' => e = .returned (.bool true) ∧ Below w.heap.size w w' := by
  obtain ⟨m, ys, hm, hi, hf⟩ := few_do a n cap zs w h
  have HW := Lib.hid hW
  have HF := Lib.hid hf
  have HI := Lib.hid hi
  clear hW hf hi h
  go_enter Tryd.func3, Tryd.ntmps3
  go_wp2_with (first
    | (go_at_call 13; (with_reducible refine (awake_any _ HW.out).mono ?_); rintro e w1 ⟨rfl, hB1⟩)
    | (go_at_call 14; (with_reducible refine (HF.out _ hB1).mono ?_); rintro e w2 ⟨rfl, hw⟩; rw [hw]; clear hw)
    | (go_at_call 16; (with_reducible refine (of_any _ _ _ _ _ (HI.out.below (hB1.alloc hB1.size _)) (by omega)).mono ?_); rintro e w3 ⟨a3, n3, c3, rfl, hs3, hb3⟩; have hB3 := step_lit hB1 hb3)
    | (go_at_call 17; (with_reducible refine (r_of _ _ _ _ _ (HI.out.below hB3)).mono ?_); rintro e w4 ⟨a4, n4, c4, rfl, hi4, hb4⟩; have hB4 := step_call hB3 hb4; have hE4 := step_call hb3 hb4)
    | (go_at_call 15; (with_reducible refine (is_yes _ _ _ _ _ _ _ _ (hs3.below hb4) hi4 (HW.out.below hB4)).mono ?_); rintro e w5 ⟨rfl, hb5⟩; have hB5 := step_call hB4 hb5; have hE5 := step_call hE4 hb5; clear hs3 hi4 hb4 hb3)
    | (go_at_call 18; (with_reducible refine (below_any k _).mono ?_); rintro e w6 ⟨a6, n6, c6, rfl, hs6, hb6⟩; have hB6 := step_call hB5 hb6; have hE6 := step_call hE5 hb6; clear hb6)
    | (go_at_call 19; (with_reducible refine (r_below k _).mono ?_); rintro e w7 ⟨a7, n7, c7, rfl, hi7, hb7⟩; have hB7 := step_call hB6 hb7; have hE7 := step_call hE6 hb7)
    | (go_at_call 15; (with_reducible refine (is_yes _ _ _ _ _ _ _ _ (hs6.below hb7) hi7 (HW.out.below hB7)).mono ?_); rintro e w8 ⟨rfl, hb8⟩; have hB8 := step_call hB7 hb8; have hE8 := step_call hE7 hb8; have q8 := (hE8.cell (p := ⟨w1.heap.size, 0, none⟩) (by simp)).trans (new1 w1 _ _).1; clear hs6 hi7 hb7 hb8)
    | (go_at_call 15; (with_reducible refine (is_yes _ _ _ _ _ _ [] _ (Bs.nil _) (iw_nil _) (HW.out.below hB8)).mono ?_); rintro e w9 ⟨rfl, hb9⟩; have hB9 := step_call hB8 hb9))
  go_ret
  exact ⟨rfl, hB9⟩
end Go.Proofs.YtaekkpoknpnnbaaDoor
