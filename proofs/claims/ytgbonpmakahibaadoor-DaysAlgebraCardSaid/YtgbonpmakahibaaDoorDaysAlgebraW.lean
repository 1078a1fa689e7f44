/- The walk of DaysAlgebra. -/
import Derived.Test.YtgbonpmakahibaaDoorDaR
import Derived.Deep.DeepCutAuto
import Derived.Deep.OwnRows
namespace Go.Proofs.YtgbonpmakahibaaDoor.Dy
open Go.RowKit Go.PlainAid
set_option linter.unusedVariables false
set_option linter.unusedSimpArgs false
set_option maxHeartbeats 40000000

theorem Fo.setB {w : World} {g : Nat} {S : Int → Bool} (h : Fo w g S) {p : Addr} (hp : p.block ≠ g) (u : Value) : Fo (w.setCell p u) g S := by
  obtain ⟨h1, h2, h3⟩ := h
  refine ⟨by simpa using h1, fun k hk => ?_, fun j => by rw [World.frozen?_setCell]; exact h3 j⟩
  rw [World.cell?_setCell_other _ _ _ _ (fun e => hp (by rw [e]))]
  exact h2 k hk
theorem Fo.mk0 {w : World} {Z : Array Value} {T : TypeId} (hZ : madeCells #[Value.bool false] 30001 = Z) : Fo (w.alloc (.cells Z T)) w.heap.size (fun _ => false) := by
  refine ⟨by simp, fun k hk => ?_, fun j => by simp⟩
  rw [World.cell?_alloc_new, ← hZ, ← Array.getElem?_toList]
  exact made_bool 30001 k hk
theorem Fo.up {w : World} {g : Nat} {S : Int → Bool} (h : Fo w g S) (o : Obj) : Fo (w.alloc o) g S := h.alloc o
theorem four {w : World} {Z : Array Value} {T : TypeId} (hZ : madeCells #[Value.bool false] 30001 = Z) :
    Fo ((((w.alloc (.cells Z T)).alloc (.cells Z T)).alloc (.cells Z T)).alloc (.cells Z T)) w.heap.size (fun _ => false) ∧
    Fo ((((w.alloc (.cells Z T)).alloc (.cells Z T)).alloc (.cells Z T)).alloc (.cells Z T)) (w.heap.size + 1) (fun _ => false) ∧
    Fo ((((w.alloc (.cells Z T)).alloc (.cells Z T)).alloc (.cells Z T)).alloc (.cells Z T)) (w.heap.size + 1 + 1) (fun _ => false) ∧
    Fo ((((w.alloc (.cells Z T)).alloc (.cells Z T)).alloc (.cells Z T)).alloc (.cells Z T)) (w.heap.size + 1 + 1 + 1) (fun _ => false) := by
  have z1 : (w.alloc (.cells Z T)).heap.size = w.heap.size + 1 := World.size_alloc ..
  have z2 : ((w.alloc (.cells Z T)).alloc (.cells Z T)).heap.size = w.heap.size + 1 + 1 := by rw [World.size_alloc, z1]
  have z3 : (((w.alloc (.cells Z T)).alloc (.cells Z T)).alloc (.cells Z T)).heap.size = w.heap.size + 1 + 1 + 1 := by rw [World.size_alloc, z2]
  have f0 := Fo.mk0 (w := w) (T := T) hZ
  have f1 := Fo.mk0 (w := w.alloc (.cells Z T)) (T := T) hZ
  have f2 := Fo.mk0 (w := (w.alloc (.cells Z T)).alloc (.cells Z T)) (T := T) hZ
  have f3 := Fo.mk0 (w := ((w.alloc (.cells Z T)).alloc (.cells Z T)).alloc (.cells Z T)) (T := T) hZ
  rw [z1] at f1
  rw [z2] at f2
  rw [z3] at f3
  exact ⟨((f0.up _).up _).up _, (f1.up _).up _, f2.up _, f3⟩
/-- Four fresh rows of flags, behind the world w0 (N its size), in W. -/
def Four (N : Nat) (w0 W : World) (g1 g2 g3 g4 : Nat) : Prop :=
  (Fo W g1 (fun _ => false) ∧ Fo W g2 (fun _ => false) ∧ Fo W g3 (fun _ => false) ∧ Fo W g4 (fun _ => false)) ∧ (N ≤ g1 ∧ N ≤ g2 ∧ N ≤ g3 ∧ N ≤ g4) ∧ (g1 ≠ g2 ∧ g1 ≠ g3 ∧ g1 ≠ g4 ∧ g2 ≠ g3 ∧ g2 ≠ g4 ∧ g3 ≠ g4) ∧ RowKit.Below N w0 W
theorem four2 {w : World} {Z : Array Value} {T : TypeId} {N : Nat} (hZ : madeCells #[Value.bool false] 30001 = Z) (hN : w.heap.size = N) :
    Fo ((((w.alloc (.cells Z T)).alloc (.cells Z T)).alloc (.cells Z T)).alloc (.cells Z T)).drew N (fun _ => false) ∧
    Fo ((((w.alloc (.cells Z T)).alloc (.cells Z T)).alloc (.cells Z T)).alloc (.cells Z T)).drew (N + 1) (fun _ => false) ∧
    Fo ((((w.alloc (.cells Z T)).alloc (.cells Z T)).alloc (.cells Z T)).alloc (.cells Z T)).drew (N + 1 + 1) (fun _ => false) ∧
    Fo ((((w.alloc (.cells Z T)).alloc (.cells Z T)).alloc (.cells Z T)).alloc (.cells Z T)).drew (N + 1 + 1 + 1) (fun _ => false) ∧
    RowKit.Below N w ((((w.alloc (.cells Z T)).alloc (.cells Z T)).alloc (.cells Z T)).alloc (.cells Z T)).drew := by
  subst hN
  obtain ⟨f0, f1, f2, f3⟩ := four (w := w) (T := T) hZ
  exact ⟨f0, f1, f2, f3, ((((RowKit.Below.refl w.heap.size w).alloc (Nat.le_refl _) _).alloc (by rw [World.size_alloc]; omega) _).alloc (by rw [World.size_alloc, World.size_alloc]; omega) _).alloc (by rw [World.size_alloc, World.size_alloc, World.size_alloc]; omega) _ |>.drew⟩

set_option maxRecDepth 100000 in
theorem daysAlgebra_walk (a b : Option Addr) (n m ca cb : Nat) (zs xs : List (Nat × Nat)) (w : World) (hP : Pow10 w) (h : Us w a n ca zs) (h2 : Us w b m cb xs) :
    Calls Tryd.prog 6 #[.slice a n ca, .slice b m cb] w fun e w' => e = .returned (.bool true) ∧ RowKit.Below w.heap.size w w' := by
  have HP := Lib.hid hP
  have HMA := Lib.hid (fun W (hb : RowKit.Below w.heap.size w W) => make_any a n ca zs W (h.below hb (Nat.le_refl _)))
  have HMB := Lib.hid (fun W (hb : RowKit.Below w.heap.size w W) => make_any b m cb xs W (h2.below hb (Nat.le_refl _)))
  clear hP h h2
  have tk0 : Hid True := trivial
  go_enter Tryd.func6, Tryd.ntmps6
  go_upto_region 7 with (first
    | (go_at_call 9; (with_reducible refine (awake_any _ HP.out).mono ?_); rintro e w1 ⟨rfl, hB1⟩)
    | (go_at_call 10; clear tk0; (with_reducible refine (HMA.out _ hB1).mono ?_); rintro e w2 ⟨aA, nA, cA, LA1, gA, rfl, hd2, hc2, hf2, hb2⟩; have HSA2 := Lib.hid hd2; have HFA2 := Lib.hid hf2; have HCA := Lib.hid hc2; have hB2 := hB1.trans (hb2.mono hB1.size); have hG2 := (RowKit.Below.refl w2.heap.size w2).alloc (Nat.le_refl _) (.cells #[.slice aA nA cA] 26); have hBB2 := hB2.trans (hG2.mono hB2.size); have tk1 : Hid True := trivial; clear hd2 hc2 hb2 hf2)
    | (go_at_call 10; clear tk1; (with_reducible refine (HMB.out _ hBB2).mono ?_); rintro e w3 ⟨aB, nB, cB, LB1, gB, rfl, hd3, hc3, hf3, hb3⟩; have HSB2 := Lib.hid hd3; have HFB2 := Lib.hid hf3; have HCB := Lib.hid hc3; have hB3 := hBB2.trans (hb3.mono hBB2.size); obtain ⟨r3, hG3⟩ := box1s hb3; have zz3 : w2.heap.size < w3.heap.size := (by have := hb3.size; simp at this; omega); have tk2 : Hid True := trivial; clear hd3 hc3 hb3 hf3))
  have hJ := (RowKit.Below.refl w3.heap.size w3).alloc (Nat.le_refl _) (.cells #[.slice aB nB cB] 26)
  have z3 : w3.heap.size < (w3.alloc (.cells #[.slice aB nB cB] 26)).heap.size := by simp
  have z2 := Nat.lt_trans zz3 z3
  have q2 : (w3.alloc (.cells #[.slice aB nB cB] 26)).cell? ⟨w3.heap.size, 0, none⟩ = some (.slice aB nB cB) := (new1 w3 _ _).1
  have q1 := (hJ.cell (p := ⟨w2.heap.size, 0, none⟩) zz3).trans r3
  have HSA := Lib.hid (HSA2.out.below (hG3.trans (hJ.mono hG3.size)) (Nat.le_refl _))
  have HSB := Lib.hid (HSB2.out.below hJ (Nat.le_refl _))
  have HFA := Lib.hid (HFA2.out.below (hG3.trans (hJ.mono hG3.size)) HFA2.out.1)
  have HFB := Lib.hid (HFB2.out.below hJ HFB2.out.1)
  have hBW := hB3.trans (hJ.mono hB3.size)
  have hsz3 : (w3.alloc (.cells #[.slice aB nB cB] 26)).heap.size = w3.heap.size + 1 := World.size_alloc ..
  have HSZ3 := Lib.hid hsz3
  obtain ⟨Z, hZ⟩ : ∃ Z, madeCells #[Value.bool false] 30001 = Z := ⟨_, rfl⟩
  have hmk : ∀ W : World, (Instr.makeSlice 27 (.int .i64 30001) (.int .i64 30001)).run Tryd.prog W = .ok (.slice (some ⟨W.heap.size, 0, none⟩) 30001 30001) (W.alloc (.cells Z 4)) := fun W => by
    rw [← hZ]
    exact run_make_row' (P := Tryd.prog) 27 4 (.bool false) 1 Tryd.underlying27 infoBool rfl .i64 .i64 30001 (by omega) (by omega) W
  have HZ := Lib.hid hZ
  clear hZ hsz3 HSA2 HSB2 HFA2 HFB2 hJ hG2 hBB2 r3 hG3 hB1 hB2 hB3
  go_cut [11, 12, 13, 14] (fun s11 s12 s13 s14 wx => ∃ g1 g2 g3 g4 : Nat, s11 = .slice (some ⟨g1, 0, none⟩) 30001 30001 ∧ s12 = .slice (some ⟨g2, 0, none⟩) 30001 30001 ∧ s13 = .slice (some ⟨g3, 0, none⟩) 30001 30001 ∧ s14 = .slice (some ⟨g4, 0, none⟩) 30001 30001 ∧ Four (w3.heap.size + 1) (w3.alloc (.cells #[.slice aB nB cB] 26)) wx g1 g2 g3 g4)
  case first =>
    go_region_held3 (fun w' => True) (exact trivial) (fail)
    all_goals
      obtain ⟨f0, f1, f2, f3, fB⟩ := four2 (w := w3.alloc (.cells #[.slice aB nB cB] 26)) (T := 4) HZ.out HSZ3.out
      go_wp2_with fail
      go_meet
      exact ⟨_, _, _, _, rfl, rfl, rfl, rfl, ⟨by first | exact f0 | exact f1 | exact f2 | exact f3, by first | exact f0 | exact f1 | exact f2 | exact f3, by first | exact f0 | exact f1 | exact f2 | exact f3, by first | exact f0 | exact f1 | exact f2 | exact f3⟩, ⟨by omega, by omega, by omega, by omega⟩, ⟨by omega, by omega, by omega, by omega, by omega, by omega⟩, fB⟩
  case rest =>
    obtain ⟨g1, g2, g3, g4, rfl, rfl, rfl, rfl, ⟨f1, f2, f3, f4⟩, ⟨n1, n2, n3, n4⟩, ⟨d12, d13, d14, d23, d24, d34⟩, hbx⟩ := hcut
    clear hmk
    have q1 := (hbx.cell (p := ⟨w2.heap.size, 0, none⟩) (show w2.heap.size < w3.heap.size + 1 by omega)).trans q1
    have q2 := (hbx.cell (p := ⟨w3.heap.size, 0, none⟩) (show w3.heap.size < w3.heap.size + 1 by omega)).trans q2
    have HSA' := Lib.hid (HSA.out.below hbx (by rw [HSZ3.out]; exact Nat.le_refl _))
    have HSB' := Lib.hid (HSB.out.below hbx (by rw [HSZ3.out]; exact Nat.le_refl _))
    have gAl : gA < w3.heap.size + 1 := by have := HFA.out.1; rw [HSZ3.out] at this; exact this
    have gBl : gB < w3.heap.size + 1 := by have := HFB.out.1; rw [HSZ3.out] at this; exact this
    have hFA' := HFA.out.below hbx gAl
    have hFB' := HFB.out.below hbx gBl
    have HBX := Lib.hid hbx
    generalize hN : w3.heap.size + 1 = N at *
    have zA : w2.heap.size < N := by omega
    have zB : w3.heap.size < N := by omega
    have hBW2 := hBW.trans (hbx.mono (by have := hBW.size; rw [HSZ3.out] at this; exact this))
    have hwN : w.heap.size ≤ N := by have := hBW.size; rw [HSZ3.out] at this; exact this
    have hNc : N ≤ wc.heap.size := by have := hbx.size; rw [HSZ3.out] at this; exact this
    have HNN := Lib.hid hN
    clear hN hbx z2 z3 zz3
    go_wp2_with fail
    go_loopw [50] (fun v wr => ∃ (k : Nat) (S1 S2 S3 S4 : Int → Bool), k ≤ 30001 ∧ v = .int .i64 k ∧ (Fo wr g1 S1 ∧ Fo wr g2 S2 ∧ Fo wr g3 S3 ∧ Fo wr g4 S4) ∧ Hid (∀ d : Int, 0 ≤ d → d < k → S1 d = (Dm LA1 d || Dm LB1 d) ∧ S2 d = (Dm LA1 d && Dm LB1 d) ∧ S3 d = (Dm LA1 d && !Dm LB1 d) ∧ S4 d = !Dm LA1 d) ∧ RowKit.Below N wc wr) (fun v _ => 30001 - (intOf v).toNat)
    case atStart => exact ⟨0, _, _, _, _, by omega, rfl, ⟨f1, f2, f3, f4⟩, fun d h0 h1 => by omega, RowKit.Below.refl _ _⟩
    case round =>
      obtain ⟨k, S1, S2, S3, S4, hk, rfl, ⟨F1, F2, F3, F4⟩, hpre, hbel⟩ := hrel
      have hk0 : (0 : Int) ≤ (k : Int) := Int.natCast_nonneg _
      by_cases hlt : k < 30001
      · have hk1 : (k : Int) < 30001 := by omega
        have A1 := (hbel.cell (p := ⟨gA, k, none⟩) gAl).trans (hFA'.2.1 k hlt)
        have B1 := (hbel.cell (p := ⟨gB, k, none⟩) gBl).trans (hFB'.2.1 k hlt)
        have F1' := Lib.hid F1
        have F2' := Lib.hid F2
        have F3' := Lib.hid F3
        have F4' := Lib.hid F4
        have hst : ∀ x1 x2 x3 x4 : Bool, x1 = (Dm LA1 k || Dm LB1 k) → x2 = (Dm LA1 k && Dm LB1 k) → x3 = (Dm LA1 k && !Dm LB1 k) → x4 = (!Dm LA1 k) → Hid (∀ d : Int, 0 ≤ d → d < ((k + 1 : Nat) : Int) → setF S1 k x1 d = (Dm LA1 d || Dm LB1 d) ∧ setF S2 k x2 d = (Dm LA1 d && Dm LB1 d) ∧ setF S3 k x3 d = (Dm LA1 d && !Dm LB1 d) ∧ setF S4 k x4 d = !Dm LA1 d) := by
          intro x1 x2 x3 x4 h1 h2 h3 h4 d g0 g1
          by_cases hd : d = k
          · subst hd
            rw [setF_same, setF_same, setF_same, setF_same]
            exact ⟨h1, h2, h3, h4⟩
          · rw [setF_other _ _ _ _ hd, setF_other _ _ _ _ hd, setF_other _ _ _ _ hd, setF_other _ _ _ _ hd]
            exact hpre.out d g0 (by omega)
        have hfo : ∀ x1 x2 x3 x4 : Bool, Fo ((((wr.setCell ⟨g1, k, none⟩ (.bool x1)).setCell ⟨g2, k, none⟩ (.bool x2)).setCell ⟨g3, k, none⟩ (.bool x3)).setCell ⟨g4, k, none⟩ (.bool x4)).drew g1 (setF S1 k x1) ∧ Fo ((((wr.setCell ⟨g1, k, none⟩ (.bool x1)).setCell ⟨g2, k, none⟩ (.bool x2)).setCell ⟨g3, k, none⟩ (.bool x3)).setCell ⟨g4, k, none⟩ (.bool x4)).drew g2 (setF S2 k x2) ∧ Fo ((((wr.setCell ⟨g1, k, none⟩ (.bool x1)).setCell ⟨g2, k, none⟩ (.bool x2)).setCell ⟨g3, k, none⟩ (.bool x3)).setCell ⟨g4, k, none⟩ (.bool x4)).drew g3 (setF S3 k x3) ∧ Fo ((((wr.setCell ⟨g1, k, none⟩ (.bool x1)).setCell ⟨g2, k, none⟩ (.bool x2)).setCell ⟨g3, k, none⟩ (.bool x3)).setCell ⟨g4, k, none⟩ (.bool x4)).drew g4 (setF S4 k x4) ∧ RowKit.Below N wc ((((wr.setCell ⟨g1, k, none⟩ (.bool x1)).setCell ⟨g2, k, none⟩ (.bool x2)).setCell ⟨g3, k, none⟩ (.bool x3)).setCell ⟨g4, k, none⟩ (.bool x4)).drew := fun x1 x2 x3 x4 =>
          ⟨(((Fo.set (w := wr) F1 k hlt x1).setB (p := ⟨g2, k, none⟩) (Ne.symm d12) _).setB (p := ⟨g3, k, none⟩) (Ne.symm d13) _).setB (p := ⟨g4, k, none⟩) (Ne.symm d14) _,
           ((Fo.set (w := wr.setCell ⟨g1, k, none⟩ (.bool x1)) (F2.setB (p := ⟨g1, k, none⟩) d12 _) k hlt x2).setB (p := ⟨g3, k, none⟩) (Ne.symm d23) _).setB (p := ⟨g4, k, none⟩) (Ne.symm d24) _,
           (Fo.set (w := (wr.setCell ⟨g1, k, none⟩ (.bool x1)).setCell ⟨g2, k, none⟩ (.bool x2)) ((F3.setB (p := ⟨g1, k, none⟩) d13 _).setB (p := ⟨g2, k, none⟩) d23 _) k hlt x3).setB (p := ⟨g4, k, none⟩) (Ne.symm d34) _,
           Fo.set (w := ((wr.setCell ⟨g1, k, none⟩ (.bool x1)).setCell ⟨g2, k, none⟩ (.bool x2)).setCell ⟨g3, k, none⟩ (.bool x3)) (((F4.setB (p := ⟨g1, k, none⟩) d14 _).setB (p := ⟨g2, k, none⟩) d24 _).setB (p := ⟨g3, k, none⟩) d34 _) k hlt x4,
           (((hbel.setCell (p := ⟨g1, k, none⟩) n1 _).setCell (p := ⟨g2, k, none⟩) n2 _).setCell (p := ⟨g3, k, none⟩) n3 _).setCell (p := ⟨g4, k, none⟩) n4 _ |>.drew⟩
        have HFO := Lib.hid hfo
        have hKB := RowKit.Below.refl N wr
        have A2 : wr.cell? ⟨gA, k, none⟩ = some (.bool (Dm LA1 k)) := A1
        have B2 : wr.cell? ⟨gB, k, none⟩ = some (.bool (Dm LB1 k)) := B1
        cases hx : Dm LA1 k <;> cases hy : Dm LB1 k
        all_goals
          rw [hx] at A2 hst
          rw [hy] at B2 hst
          have HST := Lib.hid (hst _ _ _ _ rfl rfl rfl rfl)
          clear hst hpre hx hy hfo A1 B1 f1 f2 f3 f4 F1 F2 F3 F4
          try dsimp only [Bool.or_true, Bool.true_or, Bool.or_false, Bool.false_or, Bool.and_true, Bool.true_and, Bool.and_false, Bool.false_and, Bool.not_true, Bool.not_false] at HST
          go_wp2_with fail
          refine wp_region_noPanic ?_
          refine region_ord (S := fun w' => w'.cell? ⟨gA, k, none⟩ = some (.bool _) ∧ w'.cell? ⟨gB, k, none⟩ = some (.bool _)) [0, 1, 2, 3, 4, 5, 6, 7, 8, 9, 10, 11, 12, 13, 14, 15, 16, 17, 18, 19, 20, 21, 22, 23, 24, 25, 26, 27, 28, 29, 30, 31, 32, 33, 34, 35, 36, 37, 38, 39, 40, 41, 42, 43, 44, 45, 46, 47, 48, 49, 50, 51] (by kernel_rfl) (by decide +kernel) (fun _ _ _ _ _ h => h) (⟨A2, B2⟩) (fun _ => ?_)
          repeat (first
            | (refine ord_skip rfl rfl rfl ?_; (try simp only [Act.put, List.setIfInBounds_toArray, List.set_cons_zero, List.set_cons_succ]))
            | (refine' ord_light (v := _) rfl rfl rfl (fun w' hSw => ?_) ?_; rotate_left; (focus ((try dsimp only at hSw); go_simp <;> (with_reducible rfl))); (try simp only [Act.put, List.setIfInBounds_toArray, List.set_cons_zero, List.set_cons_succ])))
          have SA1 := Lib.hid (fun u => (hKB.setCell (p := ⟨g1, k, none⟩) n1 _).cell (p := ⟨gA, k, none⟩) gAl |>.trans A2 : ∀ u, (wr.setCell ⟨g1, k, none⟩ u).cell? ⟨gA, k, none⟩ = some (.bool _))
          have SB1 := Lib.hid (fun u => (hKB.setCell (p := ⟨g1, k, none⟩) n1 _).cell (p := ⟨gB, k, none⟩) gBl |>.trans B2 : ∀ u, (wr.setCell ⟨g1, k, none⟩ u).cell? ⟨gB, k, none⟩ = some (.bool _))
          have SA2 := Lib.hid (fun u v => ((hKB.setCell (p := ⟨g1, k, none⟩) n1 _).setCell (p := ⟨g2, k, none⟩) n2 _).cell (p := ⟨gA, k, none⟩) gAl |>.trans A2 : ∀ u v, ((wr.setCell ⟨g1, k, none⟩ u).setCell ⟨g2, k, none⟩ v).cell? ⟨gA, k, none⟩ = some (.bool _))
          have SB2 := Lib.hid (fun u v => ((hKB.setCell (p := ⟨g1, k, none⟩) n1 _).setCell (p := ⟨g2, k, none⟩) n2 _).cell (p := ⟨gB, k, none⟩) gBl |>.trans B2 : ∀ u v, ((wr.setCell ⟨g1, k, none⟩ u).setCell ⟨g2, k, none⟩ v).cell? ⟨gB, k, none⟩ = some (.bool _))
          have SA3 := Lib.hid (fun u v x => (((hKB.setCell (p := ⟨g1, k, none⟩) n1 _).setCell (p := ⟨g2, k, none⟩) n2 _).setCell (p := ⟨g3, k, none⟩) n3 _).cell (p := ⟨gA, k, none⟩) gAl |>.trans A2 : ∀ u v x, (((wr.setCell ⟨g1, k, none⟩ u).setCell ⟨g2, k, none⟩ v).setCell ⟨g3, k, none⟩ x).cell? ⟨gA, k, none⟩ = some (.bool _))
          have SB3 := Lib.hid (fun u v x => (((hKB.setCell (p := ⟨g1, k, none⟩) n1 _).setCell (p := ⟨g2, k, none⟩) n2 _).setCell (p := ⟨g3, k, none⟩) n3 _).cell (p := ⟨gB, k, none⟩) gBl |>.trans B2 : ∀ u v x, (((wr.setCell ⟨g1, k, none⟩ u).setCell ⟨g2, k, none⟩ v).setCell ⟨g3, k, none⟩ x).cell? ⟨gB, k, none⟩ = some (.bool _))
          have SA4 := Lib.hid (fun u v x y => ((((hKB.setCell (p := ⟨g1, k, none⟩) n1 _).setCell (p := ⟨g2, k, none⟩) n2 _).setCell (p := ⟨g3, k, none⟩) n3 _).setCell (p := ⟨g4, k, none⟩) n4 _).cell (p := ⟨gA, k, none⟩) gAl |>.trans A2 : ∀ u v x y, ((((wr.setCell ⟨g1, k, none⟩ u).setCell ⟨g2, k, none⟩ v).setCell ⟨g3, k, none⟩ x).setCell ⟨g4, k, none⟩ y).cell? ⟨gA, k, none⟩ = some (.bool _))
          have SB4 := Lib.hid (fun u v x y => ((((hKB.setCell (p := ⟨g1, k, none⟩) n1 _).setCell (p := ⟨g2, k, none⟩) n2 _).setCell (p := ⟨g3, k, none⟩) n3 _).setCell (p := ⟨g4, k, none⟩) n4 _).cell (p := ⟨gB, k, none⟩) gBl |>.trans B2 : ∀ u v x y, ((((wr.setCell ⟨g1, k, none⟩ u).setCell ⟨g2, k, none⟩ v).setCell ⟨g3, k, none⟩ x).setCell ⟨g4, k, none⟩ y).cell? ⟨gB, k, none⟩ = some (.bool _))
          have c1 : wr.cell? ⟨g1, k, none⟩ = some (.bool (S1 k)) := F1'.out.2.1 k hlt
          have e1 : wr.frozen? ⟨g1, k, none⟩ = false := F1'.out.2.2 k
          refine ord_heavy rfl rfl (fun K hK => ?_)
          go_simp
          refine hK.out _ _ ⟨SA1.out _, SB1.out _⟩ ?_
          clear hK K c1 e1
          (try simp only [Act.put, List.setIfInBounds_toArray, List.set_cons_zero, List.set_cons_succ])
          refine' ord_light (v := _) rfl rfl rfl (fun w' hSw => ?_) ?_
          rotate_left
          (focus ((try dsimp only at hSw); go_simp <;> (with_reducible rfl)))
          (try simp only [Act.put, List.setIfInBounds_toArray, List.set_cons_zero, List.set_cons_succ])
          have c2 : ∀ u, (wr.setCell ⟨g1, k, none⟩ u).cell? ⟨g2, k, none⟩ = some (.bool (S2 k)) := fun u => ((F2'.out.setB (p := ⟨g1, k, none⟩) d12 u)).2.1 k hlt
          have e2 : ∀ u, (wr.setCell ⟨g1, k, none⟩ u).frozen? ⟨g2, k, none⟩ = false := fun u => ((F2'.out.setB (p := ⟨g1, k, none⟩) d12 u)).2.2 k
          refine ord_heavy rfl rfl (fun K hK => ?_)
          go_simp
          refine hK.out _ _ ⟨SA2.out _ _, SB2.out _ _⟩ ?_
          clear hK K c2 e2
          (try simp only [Act.put, List.setIfInBounds_toArray, List.set_cons_zero, List.set_cons_succ])
          refine' ord_light (v := _) rfl rfl rfl (fun w' hSw => ?_) ?_
          rotate_left
          (focus ((try dsimp only at hSw); go_simp <;> (with_reducible rfl)))
          (try simp only [Act.put, List.setIfInBounds_toArray, List.set_cons_zero, List.set_cons_succ])
          have c3 : ∀ u v, ((wr.setCell ⟨g1, k, none⟩ u).setCell ⟨g2, k, none⟩ v).cell? ⟨g3, k, none⟩ = some (.bool (S3 k)) := fun u v => ((F3'.out.setB (p := ⟨g1, k, none⟩) d13 u).setB (p := ⟨g2, k, none⟩) d23 v).2.1 k hlt
          have e3 : ∀ u v, ((wr.setCell ⟨g1, k, none⟩ u).setCell ⟨g2, k, none⟩ v).frozen? ⟨g3, k, none⟩ = false := fun u v => ((F3'.out.setB (p := ⟨g1, k, none⟩) d13 u).setB (p := ⟨g2, k, none⟩) d23 v).2.2 k
          refine ord_heavy rfl rfl (fun K hK => ?_)
          go_simp
          refine hK.out _ _ ⟨SA3.out _ _ _, SB3.out _ _ _⟩ ?_
          clear hK K c3 e3
          (try simp only [Act.put, List.setIfInBounds_toArray, List.set_cons_zero, List.set_cons_succ])
          refine' ord_light (v := _) rfl rfl rfl (fun w' hSw => ?_) ?_
          rotate_left
          (focus ((try dsimp only at hSw); go_simp <;> (with_reducible rfl)))
          (try simp only [Act.put, List.setIfInBounds_toArray, List.set_cons_zero, List.set_cons_succ])
          have c4 : ∀ u v x, (((wr.setCell ⟨g1, k, none⟩ u).setCell ⟨g2, k, none⟩ v).setCell ⟨g3, k, none⟩ x).cell? ⟨g4, k, none⟩ = some (.bool (S4 k)) := fun u v x => (((F4'.out.setB (p := ⟨g1, k, none⟩) d14 u).setB (p := ⟨g2, k, none⟩) d24 v).setB (p := ⟨g3, k, none⟩) d34 x).2.1 k hlt
          have e4 : ∀ u v x, (((wr.setCell ⟨g1, k, none⟩ u).setCell ⟨g2, k, none⟩ v).setCell ⟨g3, k, none⟩ x).frozen? ⟨g4, k, none⟩ = false := fun u v x => (((F4'.out.setB (p := ⟨g1, k, none⟩) d14 u).setB (p := ⟨g2, k, none⟩) d24 v).setB (p := ⟨g3, k, none⟩) d34 x).2.2 k
          refine ord_heavy rfl rfl (fun K hK => ?_)
          go_simp
          refine hK.out _ _ ⟨SA4.out _ _ _ _, SB4.out _ _ _ _⟩ ?_
          clear hK K c4 e4
          (try simp only [Act.put, List.setIfInBounds_toArray, List.set_cons_zero, List.set_cons_succ])
          refine ord_nil (NoPanic.normal ?_)
          go_wp2_with fail
          go_roundw
          case rel => exact ⟨k + 1, _, _, _, _, by omega, by go_num, ⟨(HFO.out _ _ _ _).1, (HFO.out _ _ _ _).2.1, (HFO.out _ _ _ _).2.2.1, (HFO.out _ _ _ _).2.2.2.1⟩, HST.out, (HFO.out _ _ _ _).2.2.2.2⟩
          case measure => simp [intOf]; omega
      · obtain rfl : k = 30001 := by omega
        have hF := RowKit.Below.refl wr.heap.size wr
        have hBr := hBW2.trans (hbel.mono hwN)
        have HSr1 := Lib.hid (HSA.out.below (HBX.out.trans hbel) (by rw [HSZ3.out]; exact Nat.le_refl _))
        have HSr2 := Lib.hid (HSB.out.below (HBX.out.trans hbel) (by rw [HSZ3.out]; exact Nat.le_refl _))
        have HFr1 := Lib.hid (hFA'.below hbel gAl).fl
        have HFr2 := Lib.hid (hFB'.below hbel gBl).fl
        have HF1 := Lib.hid F1.fl
        have HF2 := Lib.hid F2.fl
        have HF3 := Lib.hid F3.fl
        have HF4 := Lib.hid F4.fl
        have E1 := Lib.hid (fun d (z0 : 0 ≤ d) (z1 : d ≤ 30000) => (hpre.out d z0 (by omega)).1)
        have E2 := Lib.hid (fun d (z0 : 0 ≤ d) (z1 : d ≤ 30000) => (hpre.out d z0 (by omega)).2.1)
        have E3 := Lib.hid (fun d (z0 : 0 ≤ d) (z1 : d ≤ 30000) => (hpre.out d z0 (by omega)).2.2.1)
        have E4 : Hid (∀ d : Int, 0 ≤ d → d ≤ 30000 → S4 d = (inD d && !Dm LA1 d)) := fun d z0 z1 => by rw [(hpre.out d z0 (by omega)).2.2.2, inD_iff.2 ⟨z0, z1⟩]; rfl
        have ltA : w2.heap.size < wr.heap.size := by have := hbel.size; omega
        have ltB : w3.heap.size < wr.heap.size := by have := hbel.size; omega
        have QA := Lib.hid (fun W (hb : RowKit.Below wr.heap.size wr W) => (hb.cell (p := ⟨w2.heap.size, 0, none⟩) ltA).trans ((hbel.cell (p := ⟨w2.heap.size, 0, none⟩) zA).trans q1))
        have QB := Lib.hid (fun W (hb : RowKit.Below wr.heap.size wr W) => (hb.cell (p := ⟨w3.heap.size, 0, none⟩) ltB).trans ((hbel.cell (p := ⟨w3.heap.size, 0, none⟩) zB).trans q2))
        have qa := QA.out _ hF
        have qb := QB.out _ hF
        clear hpre F1 F2 F3 F4 f1 f2 f3 f4 hFA' hFB' q1 q2 hbel
        go_wp2_with (first
        | (go_at_call 24; clear tk2; (with_reducible refine (or_any _ _ _ _ _ _ _ _ _  (HSr1.out.below hF (Nat.le_refl _)) (HSr2.out.below hF (Nat.le_refl _)) HCA.out HCB.out).mono ?_); rintro e w5 ⟨a5, n5, c5, l5, rfl, hs5, hc5, hm5, hb⟩; have hF := hF.trans (hb.mono hF.size); have qa := QA.out _ hF; have qb := QB.out _ hF; have HS5 := Lib.hid hs5; have HC5 := Lib.hid hc5; have HM5 := Lib.hid hm5; clear hs5 hc5 hm5; clear hb; have tk3 : Hid True := trivial)
        | (go_at_call 20; clear tk3; (with_reducible refine (is_any _ _ _ _ _ l5 S1 _ HS5.out HC5.out ((HF1.out.below hF (Nat.le_refl _))) (fun d z0 z1 => (E1.out d z0 z1).trans (HM5.out d).symm)).mono ?_); rintro e w6 ⟨rfl, hb⟩; have hF := hF.trans (hb.mono hF.size); have qa := QA.out _ hF; have qb := QB.out _ hF; clear HS5 HC5 HM5; clear hb; have tk4 : Hid True := trivial)
        | (go_at_call 25; clear tk4; (with_reducible refine (and_any _ _ _ _ _ _ _ _ _  (HSr1.out.below hF (Nat.le_refl _)) (HSr2.out.below hF (Nat.le_refl _)) HCA.out HCB.out).mono ?_); rintro e w7 ⟨a5, n5, c5, l5, rfl, hs5, hc5, hm5, hb⟩; have hF := hF.trans (hb.mono hF.size); have qa := QA.out _ hF; have qb := QB.out _ hF; have HS5 := Lib.hid hs5; have HC5 := Lib.hid hc5; have HM5 := Lib.hid hm5; clear hs5 hc5 hm5; clear hb; have tk5 : Hid True := trivial)
        | (go_at_call 20; clear tk5; (with_reducible refine (is_any _ _ _ _ _ l5 S2 _ HS5.out HC5.out ((HF2.out.below hF (Nat.le_refl _))) (fun d z0 z1 => (E2.out d z0 z1).trans (HM5.out d).symm)).mono ?_); rintro e w8 ⟨rfl, hb⟩; have hF := hF.trans (hb.mono hF.size); have qa := QA.out _ hF; have qb := QB.out _ hF; clear HS5 HC5 HM5; clear hb; have tk6 : Hid True := trivial)
        | (go_at_call 26; clear tk6; (with_reducible refine (minus_any _ _ _ _ _ _ _ _ _  (HSr1.out.below hF (Nat.le_refl _)) (HSr2.out.below hF (Nat.le_refl _)) HCA.out HCB.out).mono ?_); rintro e w9 ⟨a5, n5, c5, l5, rfl, hs5, hc5, hm5, hb⟩; have hF := hF.trans (hb.mono hF.size); have qa := QA.out _ hF; have qb := QB.out _ hF; have HS5 := Lib.hid hs5; have HC5 := Lib.hid hc5; have HM5 := Lib.hid hm5; clear hs5 hc5 hm5; clear hb; have tk7 : Hid True := trivial)
        | (go_at_call 20; clear tk7; (with_reducible refine (is_any _ _ _ _ _ l5 S3 _ HS5.out HC5.out ((HF3.out.below hF (Nat.le_refl _))) (fun d z0 z1 => (E3.out d z0 z1).trans (HM5.out d).symm)).mono ?_); rintro e w10 ⟨rfl, hb⟩; have hF := hF.trans (hb.mono hF.size); have qa := QA.out _ hF; have qb := QB.out _ hF; clear HS5 HC5 HM5; clear hb; have tk8 : Hid True := trivial)
        | (go_at_call 27; clear tk8; (with_reducible refine (not_any _ _ _ _ _  (HSr1.out.below hF (Nat.le_refl _)) HCA.out).mono ?_); rintro e w11 ⟨a5, n5, c5, l5, rfl, hs5, hc5, hm5, hb⟩; have hF := hF.trans (hb.mono hF.size); have qa := QA.out _ hF; have qb := QB.out _ hF; have HS5 := Lib.hid hs5; have HC5 := Lib.hid hc5; have HM5 := Lib.hid hm5; clear hs5 hc5 hm5; clear hb; have tk9 : Hid True := trivial)
        | (go_at_call 20; clear tk9; (with_reducible refine (is_any _ _ _ _ _ l5 S4 _ HS5.out HC5.out ((HF4.out.below hF (Nat.le_refl _))) (fun d z0 z1 => (E4.out d z0 z1).trans (HM5.out d).symm)).mono ?_); rintro e w12 ⟨rfl, hb⟩; have hF := hF.trans (hb.mono hF.size); have qa := QA.out _ hF; have qb := QB.out _ hF; clear HS5 HC5 HM5; clear hb; have tk10 : Hid True := trivial)
        | (go_at_call 20; clear tk10; (with_reducible refine (is_any _ _ _ _ _ LA1 (Dm LA1) _ (HSr1.out.below hF (Nat.le_refl _)) HCA.out (HFr1.out.below hF (Nat.le_refl _)) (fun d _ _ => rfl)).mono ?_); rintro e w13 ⟨rfl, hb⟩; have hF := hF.trans (hb.mono hF.size); have qa := QA.out _ hF; have qb := QB.out _ hF; clear hb; have tk11 : Hid True := trivial)
        | (go_at_call 20; clear tk11; (with_reducible refine (is_any _ _ _ _ _ LB1 (Dm LB1) _ (HSr2.out.below hF (Nat.le_refl _)) HCB.out (HFr2.out.below hF (Nat.le_refl _)) (fun d _ _ => rfl)).mono ?_); rintro e w14 ⟨rfl, hb⟩; have hF := hF.trans (hb.mono hF.size); have qa := QA.out _ hF; have qb := QB.out _ hF; clear hb; have tk12 : Hid True := trivial))
        go_ret
        exact ⟨rfl, hBr.trans (hF.mono hBr.size)⟩
end Go.Proofs.YtgbonpmakahibaaDoor.Dy
