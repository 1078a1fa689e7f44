/- Contract: awake (the walk). -/
import Derived.Test.YtaekkpoknpnnbaaDoorBuB
namespace Go.Proofs.YtaekkpoknpnnbaaDoor
open Go.RowKit Go.PlainAid
set_option linter.unusedVariables false
set_option linter.unusedSimpArgs false
set_option maxHeartbeats 4000000

set_option maxRecDepth 20000 in
theorem awake_any (w : World) (hW : Wld w) :
    Calls Tryd.prog 13 #[] w fun e w' => e = .returned (.bool true) ∧ Below w.heap.size w w' := by
  have HW := Lib.hid hW
  clear hW
  go_enter Tryd.func13, Tryd.ntmps13
  go_wp2_with (first
    | (go_at_call 16; (with_reducible refine (of_a _).mono ?_); rintro e w1 ⟨a1, n1, c1, rfl, hs1, hb1⟩; have hB1 := step_lit (Below.refl _ _) hb1; clear hb1)
    | (go_at_call 24; (with_reducible refine (parse_a _ (HW.out.below (hB1.alloc hB1.size _))).mono ?_); rintro e w2 ⟨rfl, hb2⟩; have hB2 := step_lit hB1 hb2; have hD2 := step_lit (Below.refl _ _) hb2; have q2 := (hb2.cell (p := ⟨w1.heap.size, 0, none⟩) (by simp)).trans (new1 w1 _ _).1; have z2 : w1.heap.size < w2.heap.size := (by have := hb2.size; rw [World.size_alloc] at this; omega); clear hb2)
    | (go_at_call 24; (with_reducible refine (parse_b _ (HW.out.below (hB2.alloc hB2.size _))).mono ?_); rintro e w3 ⟨rfl, hb3⟩; have hB3 := step_lit hB2 hb3; have hD3 := step_lit hD2 hb3; have q3 := keep_box q2 z2 hb3; have z3 : w1.heap.size < w3.heap.size := (by have := hb3.size; rw [World.size_alloc] at this; omega); clear hb3 q2)
    | (go_at_call 30; (with_reducible refine (read_a _ _ (World.size_alloc _ _).symm).mono ?_); rintro e w4 ⟨rfl, hb4⟩; have hB4 := step_lit (hB3.alloc hB3.size _) hb4; have hD4 := step_lit (hD3.alloc hD3.size _) hb4; have q4 := keep_box ((World.cell?_alloc_lt _ _ _ z3).trans q3) (by rw [World.size_alloc]; exact Nat.lt_succ_of_lt z3) hb4; have z4 : w1.heap.size < w4.heap.size := (by have := hb4.size; rw [World.size_alloc, World.size_alloc] at this; omega); have q5 := (World.cell?_alloc_lt w4 (.cells #[.slice none 0 0] 27) _ z4).trans q4; clear hb4 q3)
    | (go_at_call 26; (with_reducible refine (text_a _ _ _ _ (hs1.below (hD4.alloc hD4.size _)) (HW.out.below (hB4.alloc hB4.size _))).mono ?_); rintro e w5 ⟨rfl, hb5⟩; have hB5 := step_lit hB4 hb5; have hD5 := step_lit hD4 hb5; have q6 := keep_box q4 z4 hb5; clear hb5 q4 q5)
    | (go_at_call 23; (with_reducible refine (bytes_a _ _ _ _ (hs1.below hD5)).mono ?_); rintro e w6 ⟨a6, c6, rfl, hw6, hb6⟩; have hB6 := step_call hB5 hb6; clear hb6 hs1)
    | (go_at_call 28; (with_reducible refine (equalB_a _ _ _ hw6).mono ?_); rintro e w7 ⟨rfl, hb7⟩; have hB7 := step_lit hB6 hb7; clear hb7 hw6)
    | (go_at_call 18; (with_reducible refine (below_any 3 _).mono ?_); rintro e w8 ⟨a8, n8, c8, rfl, hs8, hb8⟩; have hB8 := step_call hB7 hb8; clear hb8)
    | (go_at_call 16; (with_reducible refine (of_b _).mono ?_); rintro e w9 ⟨a9, n9, c9, rfl, hs9, hb9⟩; have hB9 := step_lit hB8 hb9; have hE9 := step_lit (Below.refl _ _) hb9; clear hb9)
    | (go_at_call 38; (with_reducible refine (minus_a _ _ _ _ _ _ _ (hs8.below hE9) hs9).mono ?_); rintro e w10 ⟨a10, n10, c10, rfl, hs10, hb10⟩; have hB10 := step_call hB9 hb10; clear hb10 hs8 hs9 hE9)
    | (go_at_call 22; (with_reducible refine (list_a _ _ _ _ hs10 (HW.out.below hB10).tz).mono ?_); rintro e w11 ⟨a11, c11, rfl, hi11, hb11⟩; have hB11 := step_call hB10 hb11; clear hb11 hs10)
    | (go_at_call 21; (with_reducible refine (equalI_a _ _ _ hi11).mono ?_); rintro e w12 ⟨rfl, hb12⟩; have hB12 := step_lit hB11 hb12; clear hb12 hi11)
    | (go_at_call 16; (with_reducible refine (of_c _).mono ?_); rintro e w13 ⟨a13, n13, c13, rfl, hs13, hb13⟩; have hB13 := step_lit hB12 hb13; clear hb13)
    | (go_at_call 16; (with_reducible refine (of_d _).mono ?_); rintro e w14 ⟨a14, n14, c14, rfl, hs14, hb14⟩; have hB14 := step_lit hB13 hb14; have hE14 := step_lit (Below.refl _ _) hb14; clear hb14)
    | (go_at_call 32; (with_reducible refine (compare_any _ _ _ _ _ _ [1, 9] [2] _ (hs13.below hE14) hs14 (HW.out.below hB14).tz).mono ?_); rintro e w15 ⟨rfl, hb15⟩; have hB15 := step_call hB14 hb15; clear hb15 hs13 hs14; rw [show cmpL [1, 9] [2] = -1 from rfl])
    | (go_at_call 16; (with_reducible refine (of_c _).mono ?_); rintro e w16 ⟨a16, n16, c16, rfl, hs16, hb16⟩; have hB16 := step_lit hB15 hb16; clear hb16)
    | (go_at_call 16; (with_reducible refine (of_b _).mono ?_); rintro e w17 ⟨a17, n17, c17, rfl, hs17, hb17⟩; have hB17 := step_lit hB16 hb17; have hE17 := step_lit (Below.refl _ _) hb17; clear hb17)
    | (go_at_call 32; (with_reducible refine (compare_any _ _ _ _ _ _ [1, 9] [1] _ (hs16.below hE17) hs17 (HW.out.below hB17).tz).mono ?_); rintro e w18 ⟨rfl, hb18⟩; have hB18 := step_call hB17 hb18; clear hb18 hs16 hs17; rw [show cmpL [1, 9] [1] = 1 from rfl]))
  go_ret
  exact ⟨rfl, hB18⟩
end Go.Proofs.YtaekkpoknpnnbaaDoor
