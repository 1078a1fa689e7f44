/- The walk of DaysBits. -/
import Derived.Test.YtgbonpmakahibaaDoorDaY
import Derived.Test.YtgbonpmakahibaaDoorDaZ
namespace Go.Proofs.YtgbonpmakahibaaDoor.Dy
open Go.RowKit Go.PlainAid
set_option linter.unusedVariables false
set_option linter.unusedSimpArgs false
set_option maxHeartbeats 40000000

theorem Sm.bel {w0 W : World} {a b : Option Addr} {n ca m cb : Nat} (h : Sm w0 a n ca b m cb W) : RowKit.Below w0.heap.size w0 W := h.2.2.1
theorem ds_len {w : World} {a : Option Addr} {n c : Nat} {l : List (Int × Int)} (h : Ds w a n c l) : l.length = n := h.1
theorem bwithin_b (a b : Option Addr) (n m ca cb : Nat) (l r : List Nat) (x : Bool) (w : World) (h : Bs w a n ca l) (k : Bs w b m cb r) (hx : decide (∀ x ∈ l, x ∈ r) = x) :
    Calls Tryd.prog 41 #[.agg #[.slice a n ca], .agg #[.slice b m cb]] w fun e w' => e = .returned (.bool x) ∧ RowKit.Below w.heap.size w w' := by
  rw [← hx]; exact Go.Proofs.YtgbonpmakahibaaDoor.within_any a b n m ca cb l r w h k
theorem bequal_b (a b : Option Addr) (n m ca cb : Nat) (l r : List Nat) (x : Bool) (w : World) (h : Bs w a n ca l) (k : Bs w b m cb r) (hx : decide (l = r) = x) :
    Calls Tryd.prog 42 #[.agg #[.slice a n ca], .agg #[.slice b m cb]] w fun e w' => e = .returned (.bool x) ∧ RowKit.Below w.heap.size w w' := by
  rw [← hx]; exact Go.Proofs.YtgbonpmakahibaaDoor.equal_any a b n m ca cb l r w h k
theorem bmeets_b (a b : Option Addr) (n m ca cb : Nat) (l r : List Nat) (x : Bool) (w : World) (h : Bs w a n ca l) (k : Bs w b m cb r) (hx : decide (∃ x ∈ l, x ∈ r) = x) :
    Calls Tryd.prog 43 #[.agg #[.slice a n ca], .agg #[.slice b m cb]] w fun e w' => e = .returned (.bool x) ∧ RowKit.Below w.heap.size w w' := by
  rw [← hx]; exact Go.Proofs.YtgbonpmakahibaaDoor.meets_any a b n m ca cb l r w h k
theorem dequal_b (a b : Option Addr) (n m ca cb : Nat) (l r : List (Int × Int)) (x : Bool) (w : World) (h : Ds w a n ca l) (k : Ds w b m cb r) (hx : decide (l = r) = x) :
    Calls Tryd.prog 18 #[.agg #[.slice a n ca], .agg #[.slice b m cb]] w fun e w' => e = .returned (.bool x) ∧ RowKit.Below w.heap.size w w' := by
  rw [← hx]; exact setEqual_any a b n m ca cb l r w h k
theorem dempty_b (a : Option Addr) (n ca : Nat) (x : Bool) (w : World) (hx : decide (n = 0) = !x) :
    Calls Tryd.prog 17 #[.agg #[.slice a n ca]] w fun e w' => e = .returned (.bool (!x)) ∧ RowKit.Below w.heap.size w w' := by
  rw [← hx]; exact empty_any a n ca w
set_option maxRecDepth 100000 in
theorem daysBits_walk (a b : Option Addr) (n m ca cb : Nat) (zs xs : List (Nat × Nat)) (w : World) (hP : Pow10 w) (hT : Tz w) (h : Us w a n ca zs) (h2 : Us w b m cb xs) :
    Calls Tryd.prog 8 #[.slice a n ca, .slice b m cb] w fun e w' => e = .returned (.bool true) ∧ RowKit.Below w.heap.size w w' := by
  have HP := Lib.hid hP
  have HT := Lib.hid (fun W (hb : RowKit.Below w.heap.size w W) => hT.below hb)
  have HMA := Lib.hid (fun W (hb : RowKit.Below w.heap.size w W) => make2_any a n ca zs W (h.below hb (Nat.le_refl _)))
  have HMB := Lib.hid (fun W (hb : RowKit.Below w.heap.size w W) => make2_any b m cb xs W (h2.below hb (Nat.le_refl _)))
  clear hP h h2 hT
  have tk0 : Hid True := trivial
  go_enter Tryd.func8, Tryd.ntmps8
  go_wp2_with (first
    | (go_at_call 9; (with_reducible refine (awake_any _ HP.out).mono ?_); rintro e w1 ⟨rfl, hB1⟩)
    | (go_at_call 30; clear tk0; (with_reducible refine (HMA.out _ hB1).mono ?_); rintro e w2 ⟨aA, nA, cA, rA, bA, mA, dA, sA, rfl, hdA, hbA, hrA, hb2⟩; have HDA := Lib.hid hdA; have HBA := Lib.hid hbA; have HRA := Lib.hid hrA; have hB2 := hB1.trans (hb2.mono hB1.size); have hsA2 := Sm.new w2 aA nA cA bA mA dA 26 55; have HW3 := hB2.trans (hsA2.2.2.1.mono hB2.size); have tk1 : Hid True := trivial; clear hdA hbA hrA hb2)
    | (go_at_call 30; clear tk1; (with_reducible refine (HMB.out _ HW3).mono ?_); rintro e w3 ⟨aB, nB, cB, rB, bB, mB, dB, sB, rfl, hdB, hbB, hrB, hb3⟩; have HDB := Lib.hid hdB; have HBB := Lib.hid hbB; have HRB := Lib.hid hrB; have hsA3 := hsA2.go hb3; have hsB3 := Sm.new w3 aB nB cB bB mB dB 26 55; have hsA4 := hsA3.go hsB3.2.2.1; have tk2 : Hid True := trivial; clear hdB hbB hrB hb3))
  have hsA := hsA4.go ((RowKit.Below.refl _ _).drew)
  have hsB := hsB3.go ((RowKit.Below.refl _ _).drew)
  clear hsA4 hsB3 hsA3 hsA2 HW3 HMA HMB HP
  have HCA := Lib.hid HRA.out.can
  have HCB := Lib.hid HRB.out.can
  obtain ⟨xw, hxw⟩ : ∃ x, decide (∀ x ∈ sA, x ∈ sB) = x := ⟨_, rfl⟩
  obtain ⟨xe, hxe⟩ : ∃ x, decide (rA = rB) = x := ⟨_, rfl⟩
  obtain ⟨xm, hxm⟩ : ∃ x, decide (∃ x ∈ sA, x ∈ sB) = x := ⟨_, rfl⟩
  have HXW := Lib.hid hxw
  have HXE := Lib.hid hxe
  have HXF := Lib.hid ((HRA.out.eq HRB.out).trans hxe)
  have HXN := Lib.hid hxm
  have HW := Lib.hid (show xw = true ↔ ∀ d, Dm rA d = true → Dm rB d = true by rw [← hxw, decide_eq_true_iff]; exact HRA.out.sub HRB.out)
  have HXM := Lib.hid (fun (l : List (Int × Int)) (hc : Can l) (hm : ∀ d, Dm l d = (Dm rA d && Dm rB d)) (n : Nat) (hn : l.length = n) => (HRA.out.meets HRB.out hc hm hn).trans (by rw [hxm]))
  clear hxw hxe hxm
  refine wp_region_noPanic ?_
  refine region_ord (S := fun w' => w'.cell? ⟨w2.heap.size, 0, none⟩ = some (.slice aA nA cA) ∧ w'.cell? ⟨w2.heap.size + 1, 0, none⟩ = some (.slice bA mA dA) ∧ w'.cell? ⟨w3.heap.size, 0, none⟩ = some (.slice aB nB cB) ∧ w'.cell? ⟨w3.heap.size + 1, 0, none⟩ = some (.slice bB mB dB)) [0, 1, 2, 4, 5, 3, 6, 7, 8, 9, 10, 11, 13, 14, 12, 15, 16, 17, 18, 19, 20, 21, 23, 24, 22, 25, 26, 27, 28, 29, 30, 32, 33, 31, 34, 35, 36, 37, 38, 39, 41, 42, 40, 43, 44, 45, 46, 47, 48, 51, 52, 49, 50, 53, 54, 55, 56, 57] (by kernel_rfl) (by decide +kernel) (fun _ _ _ _ _ h => h) ⟨hsA.1, hsA.2.1, hsB.1, hsB.2.1⟩ (fun _ => ?_)
  refine' ord_light (v := _) rfl rfl rfl (fun w' hSw => ?_) ?_
  rotate_left
  · ((try dsimp only at hSw); go_simp <;> (with_reducible rfl))
  (try simp only [Act.put, List.setIfInBounds_toArray, List.set_cons_zero, List.set_cons_succ])
  refine' ord_light (v := _) rfl rfl rfl (fun w' hSw => ?_) ?_
  rotate_left
  · ((try dsimp only at hSw); go_simp <;> (with_reducible rfl))
  (try simp only [Act.put, List.setIfInBounds_toArray, List.set_cons_zero, List.set_cons_succ])
  refine' ord_light (v := _) rfl rfl rfl (fun w' hSw => ?_) ?_
  rotate_left
  · ((try dsimp only at hSw); go_simp <;> (with_reducible rfl))
  (try simp only [Act.put, List.setIfInBounds_toArray, List.set_cons_zero, List.set_cons_succ])
  refine' ord_light (v := _) rfl rfl rfl (fun w' hSw => ?_) ?_
  rotate_left
  · ((try dsimp only at hSw); go_simp <;> (with_reducible rfl))
  (try simp only [Act.put, List.setIfInBounds_toArray, List.set_cons_zero, List.set_cons_succ])
  refine' ord_light (v := _) rfl rfl rfl (fun w' hSw => ?_) ?_
  rotate_left
  · ((try dsimp only at hSw); go_simp <;> (with_reducible rfl))
  (try simp only [Act.put, List.setIfInBounds_toArray, List.set_cons_zero, List.set_cons_succ])
  refine ord_heavy rfl rfl (fun K hK => ?_)
  go_simp
  (go_at_call 24; (with_reducible refine (or_any _ _ _ _ _ _ _ _ _ (HDA.out.below hsA.bel (Nat.le_refl _)) (HDB.out.below hsB.bel (Nat.le_refl _)) HCA.out HCB.out).mono ?_); rintro e u ⟨a1, n1, c1, l1, rfl, hs1, hc1, hm1, hb⟩; have hsA := hsA.go hb; have hsB := hsB.go hb; clear hb)
  (try go_wp2_with fail)
  refine hK.out _ _ ⟨hsA.1, hsA.2.1, hsB.1, hsB.2.1⟩ ?_
  clear hK K
  (try simp only [Act.put, List.setIfInBounds_toArray, List.set_cons_zero, List.set_cons_succ])
  refine ord_heavy rfl rfl (fun K hK => ?_)
  go_simp
  (go_at_call 32; (with_reducible refine (Go.Proofs.YtgbonpmakahibaaDoor.or_fresh _ _ _ _ _ _ _ _ _ (HBA.out.below hsA.bel) (HBB.out.below hsB.bel)).mono ?_); rintro e u ⟨g1, k1, rfl, -, ht1, hb⟩; have hs1 := hs1.below hb (Nat.le_refl _); have hsA := hsA.go hb; have hsB := hsB.go hb; clear hb)
  (try go_wp2_with fail)
  refine hK.out _ _ ⟨hsA.1, hsA.2.1, hsB.1, hsB.2.1⟩ ?_
  clear hK K
  (try simp only [Act.put, List.setIfInBounds_toArray, List.set_cons_zero, List.set_cons_succ])
  refine ord_heavy rfl rfl (fun K hK => ?_)
  go_simp
  (go_at_call 35; (with_reducible refine (same_any _ _ _ _ _ _ _ _ _ hs1 ht1 (HRA.out.or HRB.out hc1 hm1) (HT.out _ (hB2.trans (hsA.bel.mono hB2.size)))).mono ?_); rintro e u ⟨rfl, hb⟩; clear hs1 ht1 hc1 hm1; have hsA := hsA.go hb; have hsB := hsB.go hb; clear hb)
  (try go_wp2_with fail)
  refine hK.out _ _ ⟨hsA.1, hsA.2.1, hsB.1, hsB.2.1⟩ ?_
  clear hK K
  (try simp only [Act.put, List.setIfInBounds_toArray, List.set_cons_zero, List.set_cons_succ])
  refine' ord_light (v := _) rfl rfl rfl (fun w' hSw => ?_) ?_
  rotate_left
  · ((try dsimp only at hSw); go_simp <;> (with_reducible rfl))
  (try simp only [Act.put, List.setIfInBounds_toArray, List.set_cons_zero, List.set_cons_succ])
  refine' ord_light (v := _) rfl rfl rfl (fun w' hSw => ?_) ?_
  rotate_left
  · ((try dsimp only at hSw); go_simp <;> (with_reducible rfl))
  (try simp only [Act.put, List.setIfInBounds_toArray, List.set_cons_zero, List.set_cons_succ])
  refine' ord_light (v := _) rfl rfl rfl (fun w' hSw => ?_) ?_
  rotate_left
  · ((try dsimp only at hSw); go_simp <;> (with_reducible rfl))
  (try simp only [Act.put, List.setIfInBounds_toArray, List.set_cons_zero, List.set_cons_succ])
  refine' ord_light (v := _) rfl rfl rfl (fun w' hSw => ?_) ?_
  rotate_left
  · ((try dsimp only at hSw); go_simp <;> (with_reducible rfl))
  (try simp only [Act.put, List.setIfInBounds_toArray, List.set_cons_zero, List.set_cons_succ])
  refine' ord_light (v := _) rfl rfl rfl (fun w' hSw => ?_) ?_
  rotate_left
  · ((try dsimp only at hSw); go_simp <;> (with_reducible rfl))
  (try simp only [Act.put, List.setIfInBounds_toArray, List.set_cons_zero, List.set_cons_succ])
  refine' ord_light (v := _) rfl rfl rfl (fun w' hSw => ?_) ?_
  rotate_left
  · ((try dsimp only at hSw); go_simp <;> (with_reducible rfl))
  (try simp only [Act.put, List.setIfInBounds_toArray, List.set_cons_zero, List.set_cons_succ])
  refine ord_heavy rfl rfl (fun K hK => ?_)
  go_simp
  (go_at_call 25; (with_reducible refine (and_any _ _ _ _ _ _ _ _ _ (HDA.out.below hsA.bel (Nat.le_refl _)) (HDB.out.below hsB.bel (Nat.le_refl _)) HCA.out HCB.out).mono ?_); rintro e u ⟨a2, n2, c2, l2, rfl, hs2, hc2, hm2, hb⟩; have hsA := hsA.go hb; have hsB := hsB.go hb; clear hb)
  (try go_wp2_with fail)
  refine hK.out _ _ ⟨hsA.1, hsA.2.1, hsB.1, hsB.2.1⟩ ?_
  clear hK K
  (try simp only [Act.put, List.setIfInBounds_toArray, List.set_cons_zero, List.set_cons_succ])
  refine ord_heavy rfl rfl (fun K hK => ?_)
  go_simp
  (go_at_call 40; (with_reducible refine (Go.Proofs.YtgbonpmakahibaaDoor.and_any _ _ _ _ _ _ _ _ _ (HBA.out.below hsA.bel) (HBB.out.below hsB.bel)).mono ?_); rintro e u ⟨d2, p2, q2, rfl, ht2, hb⟩; have hs2 := hs2.below hb (Nat.le_refl _); have hsA := hsA.go hb; have hsB := hsB.go hb; clear hb)
  (try go_wp2_with fail)
  refine hK.out _ _ ⟨hsA.1, hsA.2.1, hsB.1, hsB.2.1⟩ ?_
  clear hK K
  (try simp only [Act.put, List.setIfInBounds_toArray, List.set_cons_zero, List.set_cons_succ])
  refine ord_heavy rfl rfl (fun K hK => ?_)
  go_simp
  (go_at_call 35; (with_reducible refine (same_any _ _ _ _ _ _ _ _ _ hs2 ht2 (HRA.out.and HRB.out hc2 hm2) (HT.out _ (hB2.trans (hsA.bel.mono hB2.size)))).mono ?_); rintro e u ⟨rfl, hb⟩; clear hs2 ht2 hc2 hm2; have hsA := hsA.go hb; have hsB := hsB.go hb; clear hb)
  (try go_wp2_with fail)
  refine hK.out _ _ ⟨hsA.1, hsA.2.1, hsB.1, hsB.2.1⟩ ?_
  clear hK K
  (try simp only [Act.put, List.setIfInBounds_toArray, List.set_cons_zero, List.set_cons_succ])
  refine' ord_light (v := _) rfl rfl rfl (fun w' hSw => ?_) ?_
  rotate_left
  · ((try dsimp only at hSw); go_simp <;> (with_reducible rfl))
  (try simp only [Act.put, List.setIfInBounds_toArray, List.set_cons_zero, List.set_cons_succ])
  refine' ord_light (v := _) rfl rfl rfl (fun w' hSw => ?_) ?_
  rotate_left
  · ((try dsimp only at hSw); go_simp <;> (with_reducible rfl))
  (try simp only [Act.put, List.setIfInBounds_toArray, List.set_cons_zero, List.set_cons_succ])
  refine' ord_light (v := _) rfl rfl rfl (fun w' hSw => ?_) ?_
  rotate_left
  · ((try dsimp only at hSw); go_simp <;> (with_reducible rfl))
  (try simp only [Act.put, List.setIfInBounds_toArray, List.set_cons_zero, List.set_cons_succ])
  refine' ord_light (v := _) rfl rfl rfl (fun w' hSw => ?_) ?_
  rotate_left
  · ((try dsimp only at hSw); go_simp <;> (with_reducible rfl))
  (try simp only [Act.put, List.setIfInBounds_toArray, List.set_cons_zero, List.set_cons_succ])
  refine' ord_light (v := _) rfl rfl rfl (fun w' hSw => ?_) ?_
  rotate_left
  · ((try dsimp only at hSw); go_simp <;> (with_reducible rfl))
  (try simp only [Act.put, List.setIfInBounds_toArray, List.set_cons_zero, List.set_cons_succ])
  refine' ord_light (v := _) rfl rfl rfl (fun w' hSw => ?_) ?_
  rotate_left
  · ((try dsimp only at hSw); go_simp <;> (with_reducible rfl))
  (try simp only [Act.put, List.setIfInBounds_toArray, List.set_cons_zero, List.set_cons_succ])
  refine' ord_light (v := _) rfl rfl rfl (fun w' hSw => ?_) ?_
  rotate_left
  · ((try dsimp only at hSw); go_simp <;> (with_reducible rfl))
  (try simp only [Act.put, List.setIfInBounds_toArray, List.set_cons_zero, List.set_cons_succ])
  refine ord_heavy rfl rfl (fun K hK => ?_)
  go_simp
  (go_at_call 26; (with_reducible refine (minus_any _ _ _ _ _ _ _ _ _ (HDA.out.below hsA.bel (Nat.le_refl _)) (HDB.out.below hsB.bel (Nat.le_refl _)) HCA.out HCB.out).mono ?_); rintro e u ⟨a3, n3, c3, l3, rfl, hs3, hc3, hm3, hb⟩; have hsA := hsA.go hb; have hsB := hsB.go hb; clear hb)
  (try go_wp2_with fail)
  refine hK.out _ _ ⟨hsA.1, hsA.2.1, hsB.1, hsB.2.1⟩ ?_
  clear hK K
  (try simp only [Act.put, List.setIfInBounds_toArray, List.set_cons_zero, List.set_cons_succ])
  refine ord_heavy rfl rfl (fun K hK => ?_)
  go_simp
  (go_at_call 34; (with_reducible refine (Go.Proofs.YtgbonpmakahibaaDoor.minus_any _ _ _ _ _ _ _ _ _ (HBA.out.below hsA.bel) (HBB.out.below hsB.bel)).mono ?_); rintro e u ⟨d3, p3, q3, rfl, ht3, hb⟩; have hs3 := hs3.below hb (Nat.le_refl _); have hsA := hsA.go hb; have hsB := hsB.go hb; clear hb)
  (try go_wp2_with fail)
  refine hK.out _ _ ⟨hsA.1, hsA.2.1, hsB.1, hsB.2.1⟩ ?_
  clear hK K
  (try simp only [Act.put, List.setIfInBounds_toArray, List.set_cons_zero, List.set_cons_succ])
  refine ord_heavy rfl rfl (fun K hK => ?_)
  go_simp
  (go_at_call 35; (with_reducible refine (same_any _ _ _ _ _ _ _ _ _ hs3 ht3 (HRA.out.minus HRB.out hc3 hm3) (HT.out _ (hB2.trans (hsA.bel.mono hB2.size)))).mono ?_); rintro e u ⟨rfl, hb⟩; clear hs3 ht3 hc3 hm3; have hsA := hsA.go hb; have hsB := hsB.go hb; clear hb)
  (try go_wp2_with fail)
  refine hK.out _ _ ⟨hsA.1, hsA.2.1, hsB.1, hsB.2.1⟩ ?_
  clear hK K
  (try simp only [Act.put, List.setIfInBounds_toArray, List.set_cons_zero, List.set_cons_succ])
  refine' ord_light (v := _) rfl rfl rfl (fun w' hSw => ?_) ?_
  rotate_left
  · ((try dsimp only at hSw); go_simp <;> (with_reducible rfl))
  (try simp only [Act.put, List.setIfInBounds_toArray, List.set_cons_zero, List.set_cons_succ])
  refine' ord_light (v := _) rfl rfl rfl (fun w' hSw => ?_) ?_
  rotate_left
  · ((try dsimp only at hSw); go_simp <;> (with_reducible rfl))
  (try simp only [Act.put, List.setIfInBounds_toArray, List.set_cons_zero, List.set_cons_succ])
  refine' ord_light (v := _) rfl rfl rfl (fun w' hSw => ?_) ?_
  rotate_left
  · ((try dsimp only at hSw); go_simp <;> (with_reducible rfl))
  (try simp only [Act.put, List.setIfInBounds_toArray, List.set_cons_zero, List.set_cons_succ])
  refine' ord_light (v := _) rfl rfl rfl (fun w' hSw => ?_) ?_
  rotate_left
  · ((try dsimp only at hSw); go_simp <;> (with_reducible rfl))
  (try simp only [Act.put, List.setIfInBounds_toArray, List.set_cons_zero, List.set_cons_succ])
  refine' ord_light (v := _) rfl rfl rfl (fun w' hSw => ?_) ?_
  rotate_left
  · ((try dsimp only at hSw); go_simp <;> (with_reducible rfl))
  (try simp only [Act.put, List.setIfInBounds_toArray, List.set_cons_zero, List.set_cons_succ])
  refine' ord_light (v := _) rfl rfl rfl (fun w' hSw => ?_) ?_
  rotate_left
  · ((try dsimp only at hSw); go_simp <;> (with_reducible rfl))
  (try simp only [Act.put, List.setIfInBounds_toArray, List.set_cons_zero, List.set_cons_succ])
  refine ord_heavy rfl rfl (fun K hK => ?_)
  go_simp
  (go_at_call 22; (with_reducible refine (within_any _ _ _ _ _ _ _ _ _ (HDA.out.below hsA.bel (Nat.le_refl _)) (HDB.out.below hsB.bel (Nat.le_refl _)) HCA.out HCB.out xw HW.out).mono ?_); rintro e u ⟨rfl, hb⟩; have hsA := hsA.go hb; have hsB := hsB.go hb; clear hb)
  (try go_wp2_with fail)
  refine hK.out _ _ ⟨hsA.1, hsA.2.1, hsB.1, hsB.2.1⟩ ?_
  clear hK K
  (try simp only [Act.put, List.setIfInBounds_toArray, List.set_cons_zero, List.set_cons_succ])
  refine ord_heavy rfl rfl (fun K hK => ?_)
  go_simp
  (go_at_call 41; (with_reducible refine (bwithin_b _ _ _ _ _ _ _ _ xw _ (HBA.out.below hsA.bel) (HBB.out.below hsB.bel) HXW.out).mono ?_); rintro e u ⟨rfl, hb⟩; have hsA := hsA.go hb; have hsB := hsB.go hb; clear hb)
  (try go_wp2_with fail)
  refine hK.out _ _ ⟨hsA.1, hsA.2.1, hsB.1, hsB.2.1⟩ ?_
  clear hK K
  (try simp only [Act.put, List.setIfInBounds_toArray, List.set_cons_zero, List.set_cons_succ])
  refine' ord_light (v := _) rfl rfl rfl (fun w' hSw => ?_) ?_
  rotate_left
  · ((try dsimp only at hSw); go_simp <;> (with_reducible rfl))
  (try simp only [Act.put, List.setIfInBounds_toArray, List.set_cons_zero, List.set_cons_succ])
  refine' ord_light (v := _) rfl rfl rfl (fun w' hSw => ?_) ?_
  rotate_left
  · ((try dsimp only at hSw); go_simp <;> (with_reducible rfl))
  (try simp only [Act.put, List.setIfInBounds_toArray, List.set_cons_zero, List.set_cons_succ])
  refine' ord_light (v := _) rfl rfl rfl (fun w' hSw => ?_) ?_
  rotate_left
  · ((try dsimp only at hSw); go_simp <;> (with_reducible rfl))
  (try simp only [Act.put, List.setIfInBounds_toArray, List.set_cons_zero, List.set_cons_succ])
  refine' ord_light (v := _) rfl rfl rfl (fun w' hSw => ?_) ?_
  rotate_left
  · ((try dsimp only at hSw); go_simp <;> (with_reducible rfl))
  (try simp only [Act.put, List.setIfInBounds_toArray, List.set_cons_zero, List.set_cons_succ])
  refine' ord_light (v := _) rfl rfl rfl (fun w' hSw => ?_) ?_
  rotate_left
  · ((try dsimp only at hSw); go_simp <;> (with_reducible rfl))
  (try simp only [Act.put, List.setIfInBounds_toArray, List.set_cons_zero, List.set_cons_succ])
  refine' ord_light (v := _) rfl rfl rfl (fun w' hSw => ?_) ?_
  rotate_left
  · ((try dsimp only at hSw); go_simp <;> (with_reducible rfl))
  (try simp only [Act.put, List.setIfInBounds_toArray, List.set_cons_zero, List.set_cons_succ])
  refine' ord_light (v := _) rfl rfl rfl (fun w' hSw => ?_) ?_
  rotate_left
  · ((try dsimp only at hSw); go_simp <;> (with_reducible rfl))
  (try simp only [Act.put, List.setIfInBounds_toArray, List.set_cons_zero, List.set_cons_succ])
  refine ord_heavy rfl rfl (fun K hK => ?_)
  go_simp
  (go_at_call 18; (with_reducible refine (dequal_b _ _ _ _ _ _ _ _ xe _ (HDA.out.below hsA.bel (Nat.le_refl _)) (HDB.out.below hsB.bel (Nat.le_refl _)) HXE.out).mono ?_); rintro e u ⟨rfl, hb⟩; have hsA := hsA.go hb; have hsB := hsB.go hb; clear hb)
  (try go_wp2_with fail)
  refine hK.out _ _ ⟨hsA.1, hsA.2.1, hsB.1, hsB.2.1⟩ ?_
  clear hK K
  (try simp only [Act.put, List.setIfInBounds_toArray, List.set_cons_zero, List.set_cons_succ])
  refine ord_heavy rfl rfl (fun K hK => ?_)
  go_simp
  (go_at_call 42; (with_reducible refine (bequal_b _ _ _ _ _ _ _ _ xe _ (HBA.out.below hsA.bel) (HBB.out.below hsB.bel) HXF.out).mono ?_); rintro e u ⟨rfl, hb⟩; have hsA := hsA.go hb; have hsB := hsB.go hb; clear hb)
  (try go_wp2_with fail)
  refine hK.out _ _ ⟨hsA.1, hsA.2.1, hsB.1, hsB.2.1⟩ ?_
  clear hK K
  (try simp only [Act.put, List.setIfInBounds_toArray, List.set_cons_zero, List.set_cons_succ])
  refine' ord_light (v := _) rfl rfl rfl (fun w' hSw => ?_) ?_
  rotate_left
  · ((try dsimp only at hSw); go_simp <;> (with_reducible rfl))
  (try simp only [Act.put, List.setIfInBounds_toArray, List.set_cons_zero, List.set_cons_succ])
  refine' ord_light (v := _) rfl rfl rfl (fun w' hSw => ?_) ?_
  rotate_left
  · ((try dsimp only at hSw); go_simp <;> (with_reducible rfl))
  (try simp only [Act.put, List.setIfInBounds_toArray, List.set_cons_zero, List.set_cons_succ])
  refine' ord_light (v := _) rfl rfl rfl (fun w' hSw => ?_) ?_
  rotate_left
  · ((try dsimp only at hSw); go_simp <;> (with_reducible rfl))
  (try simp only [Act.put, List.setIfInBounds_toArray, List.set_cons_zero, List.set_cons_succ])
  refine' ord_light (v := _) rfl rfl rfl (fun w' hSw => ?_) ?_
  rotate_left
  · ((try dsimp only at hSw); go_simp <;> (with_reducible rfl))
  (try simp only [Act.put, List.setIfInBounds_toArray, List.set_cons_zero, List.set_cons_succ])
  refine' ord_light (v := _) rfl rfl rfl (fun w' hSw => ?_) ?_
  rotate_left
  · ((try dsimp only at hSw); go_simp <;> (with_reducible rfl))
  (try simp only [Act.put, List.setIfInBounds_toArray, List.set_cons_zero, List.set_cons_succ])
  refine' ord_light (v := _) rfl rfl rfl (fun w' hSw => ?_) ?_
  rotate_left
  · ((try dsimp only at hSw); go_simp <;> (with_reducible rfl))
  (try simp only [Act.put, List.setIfInBounds_toArray, List.set_cons_zero, List.set_cons_succ])
  refine' ord_light (v := _) rfl rfl rfl (fun w' hSw => ?_) ?_
  rotate_left
  · ((try dsimp only at hSw); go_simp <;> (with_reducible rfl))
  (try simp only [Act.put, List.setIfInBounds_toArray, List.set_cons_zero, List.set_cons_succ])
  refine ord_heavy rfl rfl (fun K hK => ?_)
  go_simp
  (go_at_call 25; (with_reducible refine (and_any _ _ _ _ _ _ _ _ _ (HDA.out.below hsA.bel (Nat.le_refl _)) (HDB.out.below hsB.bel (Nat.le_refl _)) HCA.out HCB.out).mono ?_); rintro e u ⟨a4, n4, c4, l4, rfl, hs4, hc4, hm4, hb⟩; have hsA := hsA.go hb; have hsB := hsB.go hb; clear hb)
  (try go_wp2_with fail)
  refine hK.out _ _ ⟨hsA.1, hsA.2.1, hsB.1, hsB.2.1⟩ ?_
  clear hK K
  (try simp only [Act.put, List.setIfInBounds_toArray, List.set_cons_zero, List.set_cons_succ])
  refine ord_heavy rfl rfl (fun K hK => ?_)
  go_simp
  (go_at_call 17; (with_reducible refine (dempty_b _ _ _ xm _ (HXM.out l4 hc4 hm4 n4 (ds_len hs4))).mono ?_); rintro e u ⟨rfl, hb⟩; clear hs4 hc4 hm4; have hsA := hsA.go hb; have hsB := hsB.go hb; clear hb)
  (try go_wp2_with fail)
  refine hK.out _ _ ⟨hsA.1, hsA.2.1, hsB.1, hsB.2.1⟩ ?_
  clear hK K
  (try simp only [Act.put, List.setIfInBounds_toArray, List.set_cons_zero, List.set_cons_succ])
  refine ord_heavy rfl rfl (fun K hK => ?_)
  go_simp
  (go_at_call 43; (with_reducible refine (bmeets_b _ _ _ _ _ _ _ _ xm _ (HBA.out.below hsA.bel) (HBB.out.below hsB.bel) HXN.out).mono ?_); rintro e u ⟨rfl, hb⟩; have hsA := hsA.go hb; have hsB := hsB.go hb; clear hb)
  (try go_wp2_with fail)
  refine hK.out _ _ ⟨hsA.1, hsA.2.1, hsB.1, hsB.2.1⟩ ?_
  clear hK K
  (try simp only [Act.put, List.setIfInBounds_toArray, List.set_cons_zero, List.set_cons_succ])
  refine' ord_light (v := _) rfl rfl rfl (fun w' hSw => ?_) ?_
  rotate_left
  · ((try dsimp only at hSw); go_simp <;> (with_reducible rfl))
  (try simp only [Act.put, List.setIfInBounds_toArray, List.set_cons_zero, List.set_cons_succ])
  refine' ord_light (v := _) rfl rfl rfl (fun w' hSw => ?_) ?_
  rotate_left
  · ((try dsimp only at hSw); go_simp <;> (with_reducible rfl))
  (try simp only [Act.put, List.setIfInBounds_toArray, List.set_cons_zero, List.set_cons_succ])
  refine' ord_light (v := _) rfl rfl rfl (fun w' hSw => ?_) ?_
  rotate_left
  · ((try dsimp only at hSw); go_simp <;> (with_reducible rfl))
  (try simp only [Act.put, List.setIfInBounds_toArray, List.set_cons_zero, List.set_cons_succ])
  refine' ord_light (v := _) rfl rfl rfl (fun w' hSw => ?_) ?_
  rotate_left
  · ((try dsimp only at hSw); go_simp <;> (with_reducible rfl))
  (try simp only [Act.put, List.setIfInBounds_toArray, List.set_cons_zero, List.set_cons_succ])
  refine ord_nil (NoPanic.normal ?_)
  go_wp2_with fail
  go_ret
  exact ⟨rfl, hB2.trans (hsA.2.2.1.mono hB2.size)⟩
end Go.Proofs.YtgbonpmakahibaaDoor.Dy
