/- Contract: the law's awake. -/
import Derived.Test.YtkmchnggcjmchaaDoorTkF
import Derived.Test.YtkmchnggcjmchaaDoorTkK
namespace Go.Proofs.YtkmchnggcjmchaaDoor
open Go.RowKit Go.PlainAid
set_option linter.unusedVariables false
set_option maxHeartbeats 1000000

def awToks : List Tok := [⟨1, [97, 115, 115, 105, 103, 110], 0, 0⟩, ⟨1, [114, 49], 0, 7⟩, ⟨1, [98, 121], 0, 10⟩, ⟨1, [97, 49], 0, 13⟩, ⟨1, [102, 111, 114], 0, 16⟩, ⟨2, [51, 48], 30, 20⟩, ⟨3, [59], 0, 22⟩, ⟨0, [], 0, 33⟩]
theorem aw1 : scanP [97, 115, 115, 105, 103, 110, 32, 114, 49, 32, 98, 121, 32, 97, 49, 32, 102, 111, 114, 32, 51, 48, 59, 32, 35, 32, 109, 111, 110, 116, 104, 108, 121] = (awToks, 0, 0) := by decide +kernel
theorem aw2 : scanP [49, 50, 120] = ([], 0, 8) := by decide +kernel
theorem aw3 : scanP [97, 32, 48, 48, 55] = ([], 2, 8) := by decide +kernel
theorem aw4 : scanP [114, 49, 32, 61, 32, 114, 50] = ([], 3, 8) := by decide +kernel
theorem awj : joinK (ktOf (awToks.take 3)) = [97, 115, 115, 105, 103, 110, 32, 114, 49, 32, 98, 121] := by decide +kernel

def Aw1Post (w : World) (e : Ending) (w' : World) : Prop :=
  ∃ b cap, e = .returned (.tuple #[.slice (some ⟨b, 0, none⟩) 8 cap, .int .i64 0, .int .i64 0]) ∧ Below w.heap.size w w' ∧ b < w'.heap.size ∧ 8 ≤ cap ∧ cap ≤ 9223372036854775807 ∧
    Hid (∀ j, j < 8 * 4 → w'.cell? ⟨b, 0 + j, none⟩ = some ((flatP awToks).getD j undef))
theorem scan_aw1 (w : World) : Calls Tryd.prog 7 #[.string ⟨#[97, 115, 115, 105, 103, 110, 32, 114, 49, 32, 98, 121, 32, 97, 49, 32, 102, 111, 114, 32, 51, 48, 59, 32, 35, 32, 109, 111, 110, 116, 104, 108, 121]⟩] w (Aw1Post w) :=
  (scan_any ⟨#[97, 115, 115, 105, 103, 110, 32, 114, 49, 32, 98, 121, 32, 97, 49, 32, 102, 111, 114, 32, 51, 48, 59, 32, 35, 32, 109, 111, 110, 116, 104, 108, 121]⟩ w (by decide)).mono fun e w' ⟨v, he, hb, ho⟩ => by
    rw [aw1] at he ho
    obtain ⟨h1, h2⟩ := Sl.owned ho
    obtain ⟨_, h3⟩ := ho
    rcases h3 with ⟨_, h⟩ | ⟨g, cap, cur, rfl, hg, hh, hc, hm, hs, ht⟩
    · cases h
    · obtain ⟨a, cp, hv, _, _, h4⟩ := h2
      cases hv
      rcases h4 with h4 | ⟨b, o, ha, hlt, hcell⟩
      · cases h4
      · cases ha
        exact ⟨g, _, he, hb, hlt, hc, by unfold maxLen at hm; omega, hcell⟩
theorem scan_aw (s : ByteArray) (off : Nat) (w : World) (hs : s.size ≤ 4611686018427387904) (h : scanP s.data.toList = ([], off, 8)) :
    Calls Tryd.prog 7 #[.string s] w fun e w' => ∃ v, e = .returned (.tuple #[v, .int .i64 off, .int .i64 8]) ∧ Below w.heap.size w w' :=
  (scan_any s w hs).mono fun e w' ⟨v, he, hb, ho⟩ => by
    rw [h] at he
    exact ⟨v, he, hb⟩

theorem awake_any (w : World) : Calls Tryd.prog 5 #[] w fun e w' => e = .returned (.bool true) ∧ Below w.heap.size w w' := by
  go_enter Tryd.func5, Tryd.ntmps5
  go_wp2_with fail
  refine (scan_aw1 _).mono ?_
  rintro e w1 ⟨b, cap, rfl, hb1, hbl, hc8, hcm, hcell⟩
  go_wp2_with fail
  refine (scan_aw ⟨#[49, 50, 120]⟩ 0 _ (by decide) aw2).mono ?_
  rintro e w2 ⟨v2, rfl, hb2⟩
  go_wp2_with fail
  refine (scan_aw ⟨#[97, 32, 48, 48, 55]⟩ 2 _ (by decide) aw3).mono ?_
  rintro e w3 ⟨v3, rfl, hb3⟩
  go_wp2_with fail
  refine (scan_aw ⟨#[114, 49, 32, 61, 32, 114, 50]⟩ 3 _ (by decide) aw4).mono ?_
  rintro e w4 ⟨v4, rfl, hb4⟩
  have hb14 : Below w1.heap.size w1 w4 := (hb2.trans (hb3.mono hb2.size)).trans (hb4.mono (Nat.le_trans hb2.size hb3.size))
  have hA : ∀ i, w4.cell? ⟨b, i, none⟩ = w1.cell? ⟨b, i, none⟩ := fun i => hb14.cell (p := ⟨b, i, none⟩) hbl
  obtain ⟨p0, p1, p2, p3⟩ := tokP_cells hcell.out 5 ⟨2, [51, 48], 30, 20⟩ (by decide) rfl
  obtain ⟨q0, q1, q2, q3⟩ := tokP_cells hcell.out 7 ⟨0, [], 0, 33⟩ (by decide) rfl
  rw [← hA] at p0 p1 p2 p3 q0 q1 q2 q3
  simp only [Nat.zero_add, Nat.reduceMul, Nat.reduceAdd] at p0 p1 p2 p3 q0 q1 q2 q3
  have HK : Kt w4 (.slice (some ⟨b, 0, none⟩) 3 cap) .u8 (ktOf (awToks.take 3)) := by
    refine ⟨_, cap, rfl, by show 3 ≤ cap; omega, by unfold maxLen; omega, .inr ⟨b, 0, rfl, Nat.lt_of_lt_of_le hbl hb14.size, fun j x hx => ?_⟩⟩
    have hj : j < 3 := (List.getElem?_eq_some_iff.1 hx).1
    simp only [ktOf, List.getElem?_map, Option.map_eq_some_iff] at hx
    obtain ⟨t, ht, rfl⟩ := hx
    rw [List.getElem?_take_of_lt hj] at ht
    obtain ⟨c0, c1, c2, c3⟩ := tokP_cells hcell.out j t (by omega) ht
    rw [← hA] at c0 c1 c2 c3
    exact ⟨c0, c1, ⟨_, c2⟩, ⟨_, c3⟩⟩
  have HJ := Lib.hid (join_any _ _ _ HK (by decide) (by decide))
  have hb4' := (hb1.trans (hb14.mono hb1.size))
  have hsz := hb4'.size
  clear hA hcell HK
  go_wp2_with (go_at_call 21; refine HJ.out.mono ?_; rintro e w5 ⟨rfl, hb5⟩; rw [awj])
  go_ret
  exact ⟨rfl, hb4'.trans (hb5.mono hsz)⟩

end Go.Proofs.YtkmchnggcjmchaaDoor
