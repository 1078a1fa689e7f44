/- Contracts of slices.Grow (of nil) and slices.Concat (of two) of spans. -/
import Derived.Test.YtgbonpmakahibaaDoorDaC
import Derived.Lib.AppendZeros
namespace Go.Proofs.YtgbonpmakahibaaDoor.Dy
open Go.RowKit Go.PlainAid
set_option linter.unusedVariables false
set_option linter.unusedSimpArgs false
set_option maxHeartbeats 1000000

set_option maxRecDepth 100000 in
theorem grow_any (n : Nat) (w : World) (hn : n ≤ 1000000) :
    Calls Tryd.prog 60 #[.slice none 0 0, .int .i64 n] w fun e w' => ∃ v', e = .returned v' ∧ Os 60 w' w.heap.size v' [] ∧ Below w.heap.size w w' := by
  by_cases h0 : n = 0
  · subst h0
    go_enter Tryd.func60, Tryd.ntmps60
    go_wp2_with fail
    go_ret
    exact ⟨_, rfl, Os.nil _ _ _, Below.refl _ _⟩
  · obtain ⟨i0, hi, hz0, hz1, hz2⟩ := info_parts infoSpan
    have happ := Lib.run_append_nil_zeros (P := Tryd.prog) w 24 3 24 60 i0 _ .i64 .i64 Tryd.underlying24 Tryd.underlying3 hi hz0 n (by omega) (by omega) (by omega) (by rw [hz2]; omega)
    generalize hcap : grownCap w n 0 60 = cap2 at happ
    have hcapge : n ≤ cap2 := by rw [← hcap]; exact grownCap_ge w _ 0 _
    have hcaple : cap2 ≤ maxLen := by rw [← hcap]; exact grownCap_le_maxLen w _ 0 _ (by unfold maxLen; omega)
    generalize hZ : (Builtin.zeroCells (Value.agg #[.int .i64 0, .int .i64 0]).cells n ++ Builtin.zeroCells (Value.agg #[.int .i64 0, .int .i64 0]).cells (cap2 - n)) = Z at happ
    have hZs : Z.size = cap2 * 2 := by rw [← hZ]; simp [size_zeroCells, Value.cells]; omega
    have HOWN : Hid (Os 60 (w.alloc (.cells Z 60)).drew w.heap.size (.slice (some ⟨w.heap.size, 0, none⟩) 0 cap2) []) :=
      ⟨rfl, .inr ⟨w.heap.size, cap2, Z, rfl, Nat.le_refl _, heap_alloc_new w _, Nat.zero_le _, hcaple, hZs, by rfl⟩⟩
    have HB : Hid (Below w.heap.size w (w.alloc (.cells Z 60)).drew) := ((Below.refl _ w).alloc (Nat.le_refl _) _).drew
    have hn0 : 0 < (n : Int) := by omega
    clear hcap hZ hZs hi hz0 hz1 hz2
    unfold maxLen at hcaple
    go_enter Tryd.func60, Tryd.ntmps60
    go_wp2_with (at_builtin; refine Lib.wpList_append_run _ rfl _ _ _ _ rfl _ _ rfl rfl _ _ happ ?_)
    go_ret
    exact ⟨_, rfl, HOWN.out, HB.out⟩

set_option maxRecDepth 100000 in
theorem concat_any (g : Nat) (a b : Option Addr) (n m ca cb : Nat) (l r : List (Int × Int)) (w : World) (hg : g < w.heap.size) (h0 : w.cell? ⟨g, 0, none⟩ = some (.slice a n ca)) (h1 : w.cell? ⟨g, 1, none⟩ = some (.slice b m cb))
    (ha : Ds w a n ca l) (hb : Ds w b m cb r) (hn : n ≤ 100000) (hm : m ≤ 100000) :
    Calls Tryd.prog 49 #[.slice (some ⟨g, 0, none⟩) 2 2] w fun e w' => ∃ v', e = .returned v' ∧ Below w.heap.size w w' ∧ Os 60 w' w.heap.size v' (l ++ r) := by
  obtain ⟨i0, hi, hz0, hz1, hz2⟩ := info_parts infoSpan
  have HA := Lib.hid ha
  have HB := Lib.hid hb
  have hla := ha.1
  have hlb := hb.1
  have HLA := Lib.hid hla
  have HLB := Lib.hid hlb
  clear ha hb hla hlb
  go_enter Tryd.func49, Tryd.ntmps49
  go_wp2_with fail
  refine wp_loop_rounds 3 ?_
  rw [rounds_succ]
  go_wp2_with fail
  rw [rounds_succ]
  go_wp2_with fail
  rw [rounds_succ]
  go_wp2_with (go_at_call 60; refine (grow_any (n + m) _ (by omega)).mono ?_; rintro e w1 ⟨v1, rfl, hown1, hb1⟩; have c0 := (hb1.cell (p := ⟨g, 0, none⟩) hg).trans h0; have c1 := (hb1.cell (p := ⟨g, 1, none⟩) hg).trans h1)
  refine wp_loop_rounds 3 ?_
  rw [rounds_succ]
  have ha1 := HA.out.below hb1 (Nat.le_refl _)
  have hz := hb1.size
  go_wp2_with (at_builtin; refine wpList_append_ds rfl (.tmp 31) (.tmp 32) 24 60 rfl Tryd.underlying24 w.heap.size i0 hi hz0 hz1 hz2 _ _ rfl hown1 a n ca l rfl ha1 (by simp; omega) hz ?_)
  intro v2 w2 hown2 hgr2
  have hb2 := hb1.grown hgr2 hz (fun b hb => (hown1.lt b hb).1)
  have d0 := (hb2.cell (p := ⟨g, 0, none⟩) hg).trans h0
  have d1 := (hb2.cell (p := ⟨g, 1, none⟩) hg).trans h1
  have ha2 := HB.out.below hb2 (Nat.le_refl _)
  have hz2' := hb2.size
  have hown2 : Os 60 w2 w.heap.size v2 l := hown2
  clear hgr2 c0 c1 ha1 hown1 hz hb1
  go_wp2_with fail
  rw [rounds_succ]
  go_wp2_with (at_builtin; refine wpList_append_ds rfl (.tmp 31) (.tmp 32) 24 60 rfl Tryd.underlying24 w.heap.size i0 hi hz0 hz1 hz2 _ _ rfl hown2 b m cb r rfl ha2 (by rw [HLA.out]; omega) hz2' ?_)
  intro v3 w3 hown3 hgr3
  have hb3 := hb2.grown hgr3 hz2' (fun b hb => (hown2.lt b hb).1)
  clear hgr3 d0 d1 ha2 hown2 hz2' hb2
  go_wp2_with fail
  rw [rounds_succ]
  go_wp2_with fail
  go_ret
  exact ⟨_, rfl, hb3, hown3⟩
end Go.Proofs.YtgbonpmakahibaaDoor.Dy
