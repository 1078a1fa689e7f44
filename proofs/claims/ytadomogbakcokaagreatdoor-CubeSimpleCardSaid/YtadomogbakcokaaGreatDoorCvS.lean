/- The reference's order of cubes, and contracts for the law about orders. -/
import Derived.Test.YtadomogbakcokaaGreatDoorCvR
namespace Go.Proofs.YtadomogbakcokaaGreatDoor
open Go.RowKit Go.PlainAid
set_option linter.unusedVariables false
set_option linter.unusedSimpArgs false
set_option maxHeartbeats 4000000
set_option maxRecDepth 20000

theorem two_if2 {α : Sort _} {p q : Prop} [Decidable p] [Decidable q] {a b : α} (h : p ∧ q) : (if p then (if q then a else b) else b) = a := by
  rw [if_pos h.1, if_pos h.2]
theorem two_if {α : Sort _} {p q : Prop} [Decidable p] [Decidable q] {a b : α} (h : ¬ (p ∧ q)) : (if p then (if q then a else b) else b) = b := by
  by_cases hp : p
  · rw [if_pos hp, if_neg (fun hq => h ⟨hp, hq⟩)]
  · rw [if_neg hp]
theorem three_raw {w wr : World} {x y z x' y' z' x'' y'' z'' : Value} {T : TypeId} (h : Below (((w.alloc (.cells #[x, y, z] T)).alloc (.cells #[x', y', z'] T)).alloc (.cells #[x'', y'', z''] T)).heap.size (((w.alloc (.cells #[x, y, z] T)).alloc (.cells #[x', y', z'] T)).alloc (.cells #[x'', y'', z''] T)) wr) :
    (wr.cell? ⟨w.heap.size, 0, none⟩ = some x ∧ wr.cell? ⟨w.heap.size, 1, none⟩ = some y ∧ wr.cell? ⟨w.heap.size, 2, none⟩ = some z) ∧ (wr.cell? ⟨w.heap.size + 1, 0, none⟩ = some x' ∧ wr.cell? ⟨w.heap.size + 1, 1, none⟩ = some y' ∧ wr.cell? ⟨w.heap.size + 1, 2, none⟩ = some z') ∧ (wr.cell? ⟨w.heap.size + 1 + 1, 0, none⟩ = some x'' ∧ wr.cell? ⟨w.heap.size + 1 + 1, 1, none⟩ = some y'' ∧ wr.cell? ⟨w.heap.size + 1 + 1, 2, none⟩ = some z'') := by
  have hs := World.size_alloc w (.cells #[x, y, z] T)
  obtain ⟨hB, hC⟩ := two_raw (w := w.alloc (.cells #[x, y, z] T)) h
  simp only [hs] at hB hC
  have key : ∀ j, ((((w.alloc (.cells #[x, y, z] T)).alloc (.cells #[x', y', z'] T)).alloc (.cells #[x'', y'', z''] T))).cell? ⟨w.heap.size, j, none⟩ = (w.alloc (.cells #[x, y, z] T)).cell? ⟨w.heap.size, j, none⟩ := fun j =>
    (((Below.refl _ (w.alloc (.cells #[x, y, z] T))).alloc (Nat.le_refl _) _).alloc (by simp) _).cell (p := ⟨w.heap.size, j, none⟩) (by simp)
  have hA : ∀ j, wr.cell? ⟨w.heap.size, j, none⟩ = (w.alloc (.cells #[x, y, z] T)).cell? ⟨w.heap.size, j, none⟩ := fun j => (h.cell (p := ⟨w.heap.size, j, none⟩) (by simp; omega)).trans (key j)
  exact ⟨⟨(hA 0).trans (by simp), (hA 1).trans (by simp), (hA 2).trans (by simp)⟩, hB, hC⟩
theorem rmembers_l (m : Nat) (l : List Nat) (w : World) (hm : m < 18446744073709551616) (hl : Hid (bitsL m = l)) : Calls Tryz.prog 48 #[.int .u64 (m : Nat)] w (IntsP w l) := by
  rw [← hl.out]; exact rmembers_c m hm w
theorem rcompare_z (a b : Option Addr) (n m c d : Nat) (l r : List Nat) (x : Int) (w : World) (h : Iw w a n c (cs l)) (k : Iw w b m d (cs r)) (hx : Hid (cmpL l r = x)) :
    Calls Tryz.prog 64 #[.slice a n c, .slice b m d] w fun e w' => e = .returned (.int .i64 x) ∧ Below w.heap.size w w' := by
  rw [← hx.out]; exact rcompare_any a b n m c d l r w h k
theorem compare_z (a b a' b' : Option Addr) (n c m d n' c' m' d' : Nat) (x y : Cu) (z : Int) (w : World) (h : Cb w ⟨a, n, c, b, m, d⟩ x) (k : Cb w ⟨a', n', c', b', m', d'⟩ y) (hT : Tz w) (hz : Hid (cmpC x y = z)) :
    Calls Tryz.prog 27 #[.agg #[.slice a n c, .slice b m d], .agg #[.slice a' n' c', .slice b' m' d']] w (IntPost w z) := by
  rw [← hz.out]; exact compareC_any a b a' b' n c m d n' c' m' d' x y w h k hT
theorem equal_z (a b a' b' : Option Addr) (n c m d n' c' m' d' : Nat) (x y : Cu) (t : Bool) (w : World) (h : Cb w ⟨a, n, c, b, m, d⟩ x) (k : Cb w ⟨a', n', c', b', m', d'⟩ y) (hz : Hid (decide (x = y) = t)) :
    Calls Tryz.prog 29 #[.agg #[.slice a n c, .slice b m d], .agg #[.slice a' n' c', .slice b' m' d']] w (BoolPost w t) := by
  rw [← hz.out]; exact equalC_any a b a' b' n c m d n' c' m' d' x y w h k
theorem two_mask {w wr : World} {x y z u : Value} {T : TypeId} (h : Below ((w.alloc (.cells #[x, y] T)).alloc (.cells #[z, u] T)).heap.size ((w.alloc (.cells #[x, y] T)).alloc (.cells #[z, u] T)) wr) :
    (wr.cell? ⟨w.heap.size, 0, none⟩ = some x ∧ wr.cell? ⟨w.heap.size, 1, none⟩ = some y) ∧ wr.cell? ⟨w.heap.size + 1, 0, none⟩ = some z ∧ wr.cell? ⟨w.heap.size + 1, 1, none⟩ = some u := by
  have hs := World.size_alloc w (.cells #[x, y] T)
  obtain ⟨c0, c1, c2, c3, _, _⟩ := boxCC (w := w) (h.mono (by simp))
  exact ⟨⟨c0, c1⟩, c2, c3⟩
theorem rcompareM_any (m1 m2 k1 k2 : Nat) (z : Int) (w : World) (hm : McOk (m1, m2)) (hk : McOk (k1, k2)) (hz : Hid (cmpC (cuM (m1, m2)) (cuM (k1, k2)) = z)) :
    Calls Tryz.prog 28 #[.agg #[.int .u64 (m1 : Nat), .int .u64 (m2 : Nat)], .agg #[.int .u64 (k1 : Nat), .int .u64 (k2 : Nat)]] w fun e w' => e = .returned (.int .i64 z) ∧ Below w.heap.size w w' := by
  have HM1 : Hid (m1 < 18446744073709551616) := hm.1
  have HM2 : Hid (m2 < 18446744073709551616) := hm.2
  have HK1 : Hid (k1 < 18446744073709551616) := hk.1
  have HK2 : Hid (k2 < 18446744073709551616) := hk.2
  obtain ⟨l1, e1⟩ : ∃ l, bitsL m1 = l := ⟨_, rfl⟩
  obtain ⟨l2, e2⟩ : ∃ l, bitsL m2 = l := ⟨_, rfl⟩
  obtain ⟨r1, f1⟩ : ∃ l, bitsL k1 = l := ⟨_, rfl⟩
  obtain ⟨r2, f2⟩ : ∃ l, bitsL k2 = l := ⟨_, rfl⟩
  obtain ⟨x, ex⟩ : ∃ x, cmpL l1 r1 = x := ⟨_, rfl⟩
  have ez : (if x = 0 then cmpL l2 r2 else x) = z := by rw [← ex, ← e1, ← f1, ← e2, ← f2]; exact hz.out
  have EL1 := Lib.hid e1
  have EL2 := Lib.hid e2
  have ER1 := Lib.hid f1
  have ER2 := Lib.hid f2
  obtain ⟨W0, hW0⟩ : ∃ W0, W0 = (w.alloc (.cells #[.int .u64 (m1 : Nat), .int .u64 (m2 : Nat)] 28)).alloc (.cells #[.int .u64 (k1 : Nat), .int .u64 (k2 : Nat)] 28) := ⟨_, rfl⟩
  have HQ : Hid (∀ wr, Below W0.heap.size W0 wr → (wr.cell? ⟨w.heap.size, 0, none⟩ = some (.int .u64 (m1 : Nat)) ∧ wr.cell? ⟨w.heap.size, 1, none⟩ = some (.int .u64 (m2 : Nat))) ∧ wr.cell? ⟨w.heap.size + 1, 0, none⟩ = some (.int .u64 (k1 : Nat)) ∧ wr.cell? ⟨w.heap.size + 1, 1, none⟩ = some (.int .u64 (k2 : Nat))) := by
    rw [hW0]; exact fun wr hb => two_mask hb
  have hbW : Below w.heap.size w W0 := by rw [hW0]; exact ((Below.refl _ w).alloc (Nat.le_refl _) _).alloc (by simp) _
  have HBW := Lib.hid hbW
  clear hbW hm hk hz e1 e2 f1 f2
  by_cases hx : x = 0
  · have EX1 : Hid (cmpL l1 r1 = 0) := ex.trans hx
    rw [if_pos hx] at ez
    have EX2 := Lib.hid ez
    clear hx ex ez x
    go_enter Tryz.func28, Tryz.ntmps28
    go_wp2_with fail
    rw [← hW0]
    clear hW0
    have hV : Below W0.heap.size W0 W0.drew := (Below.refl _ _).drew
    have qq := HQ.out _ hV
    have q0 := qq.1.1
    have q1 := qq.1.2
    have q2 := qq.2.1
    have q3 := qq.2.2
    clear qq
    refine wp_region_noPanic ?_
    refine region_ord (S := fun w' => w'.cell? ⟨w.heap.size, 0, none⟩ = some (.int .u64 (m1 : Nat)) ∧ w'.cell? ⟨w.heap.size, 1, none⟩ = some (.int .u64 (m2 : Nat)) ∧ w'.cell? ⟨w.heap.size + 1, 0, none⟩ = some (.int .u64 (k1 : Nat)) ∧ w'.cell? ⟨w.heap.size + 1, 1, none⟩ = some (.int .u64 (k2 : Nat))) [0, 1, 3, 4, 2, 5, 6, 7] (by kernel_rfl) (by decide +kernel) (fun _ _ _ _ _ h => h) (⟨q0, q1, q2, q3⟩) (fun _ => ?_)
    repeat (first
      | (refine ord_skip rfl rfl rfl ?_; (try simp only [Act.put, List.setIfInBounds_toArray, List.set_cons_zero, List.set_cons_succ]))
      | (refine' ord_light (v := _) rfl rfl rfl (fun w' hSw => ?_) ?_; rotate_left; (focus ((try dsimp only at hSw); go_simp <;> (with_reducible rfl))); (try simp only [Act.put, List.setIfInBounds_toArray, List.set_cons_zero, List.set_cons_succ]))
      | (refine ord_heavy rfl rfl (fun K hK => ?_); go_simp; (go_at_call 48; (with_reducible refine (rmembers_l _ _ _ HM1.out EL1).mono ?_); rintro e w2 ⟨a2, n2, c2, rfl, hi2, hb⟩; clear q0 q1 q2 q3; have hV := step_call hV hb; have qq := HQ.out _ hV; have q0 := qq.1.1; have q1 := qq.1.2; have q2 := qq.2.1; have q3 := qq.2.2; clear qq; clear hb); (try go_wp2_with fail); refine hK.out _ _ (⟨q0, q1, q2, q3⟩) ?_; clear hK K; (try simp only [Act.put, List.setIfInBounds_toArray, List.set_cons_zero, List.set_cons_succ]))
      | (refine ord_heavy rfl rfl (fun K hK => ?_); go_simp; (go_at_call 48; (with_reducible refine (rmembers_l _ _ _ HK1.out ER1).mono ?_); rintro e w3 ⟨a3, n3, c3, rfl, hi3, hb⟩; clear q0 q1 q2 q3; have hV := step_call hV hb; have qq := HQ.out _ hV; have q0 := qq.1.1; have q1 := qq.1.2; have q2 := qq.2.1; have q3 := qq.2.2; clear qq; have hi2 := hi2.below hb; clear hb); (try go_wp2_with fail); refine hK.out _ _ (⟨q0, q1, q2, q3⟩) ?_; clear hK K; (try simp only [Act.put, List.setIfInBounds_toArray, List.set_cons_zero, List.set_cons_succ]))
      | (refine ord_heavy rfl rfl (fun K hK => ?_); go_simp; (go_at_call 64; (with_reducible refine (rcompare_z _ _ _ _ _ _ _ _ _ _ hi2 hi3 EX1).mono ?_); rintro e w4 ⟨rfl, hb⟩; clear q0 q1 q2 q3; have hV := step_call hV hb; have qq := HQ.out _ hV; have q0 := qq.1.1; have q1 := qq.1.2; have q2 := qq.2.1; have q3 := qq.2.2; clear qq; clear hb); (try go_wp2_with fail); refine hK.out _ _ (⟨q0, q1, q2, q3⟩) ?_; clear hK K; (try simp only [Act.put, List.setIfInBounds_toArray, List.set_cons_zero, List.set_cons_succ]))
      | (refine ord_heavy rfl rfl (fun K hK => ?_); go_simp; (try go_wp2_with fail); refine hK.out _ _ (⟨q0, q1, q2, q3⟩) ?_; clear hK K; (try simp only [Act.put, List.setIfInBounds_toArray, List.set_cons_zero, List.set_cons_succ])))
    refine ord_nil (NoPanic.normal ?_)
    clear q0 q1 q2 q3 hi2 hi3
    go_wp2_with fail
    replace hV := step_call hV ((Below.refl w4.heap.size w4).drew)
    have qq := HQ.out _ hV
    have q0 := qq.1.1
    have q1 := qq.1.2
    have q2 := qq.2.1
    have q3 := qq.2.2
    clear qq
    refine wp_region_noPanic ?_
    refine region_ord (S := fun w' => w'.cell? ⟨w.heap.size, 0, none⟩ = some (.int .u64 (m1 : Nat)) ∧ w'.cell? ⟨w.heap.size, 1, none⟩ = some (.int .u64 (m2 : Nat)) ∧ w'.cell? ⟨w.heap.size + 1, 0, none⟩ = some (.int .u64 (k1 : Nat)) ∧ w'.cell? ⟨w.heap.size + 1, 1, none⟩ = some (.int .u64 (k2 : Nat))) [0, 1, 3, 4, 2, 5, 6, 7] (by kernel_rfl) (by decide +kernel) (fun _ _ _ _ _ h => h) (⟨q0, q1, q2, q3⟩) (fun _ => ?_)
    repeat (first
      | (refine ord_skip rfl rfl rfl ?_; (try simp only [Act.put, List.setIfInBounds_toArray, List.set_cons_zero, List.set_cons_succ]))
      | (refine' ord_light (v := _) rfl rfl rfl (fun w' hSw => ?_) ?_; rotate_left; (focus ((try dsimp only at hSw); go_simp <;> (with_reducible rfl))); (try simp only [Act.put, List.setIfInBounds_toArray, List.set_cons_zero, List.set_cons_succ]))
      | (refine ord_heavy rfl rfl (fun K hK => ?_); go_simp; (go_at_call 48; (with_reducible refine (rmembers_l _ _ _ HM2.out EL2).mono ?_); rintro e w2 ⟨a2, n2, c2, rfl, hi2, hb⟩; clear q0 q1 q2 q3; have hV := step_call hV hb; have qq := HQ.out _ hV; have q0 := qq.1.1; have q1 := qq.1.2; have q2 := qq.2.1; have q3 := qq.2.2; clear qq; clear hb); (try go_wp2_with fail); refine hK.out _ _ (⟨q0, q1, q2, q3⟩) ?_; clear hK K; (try simp only [Act.put, List.setIfInBounds_toArray, List.set_cons_zero, List.set_cons_succ]))
      | (refine ord_heavy rfl rfl (fun K hK => ?_); go_simp; (go_at_call 48; (with_reducible refine (rmembers_l _ _ _ HK2.out ER2).mono ?_); rintro e w3 ⟨a3, n3, c3, rfl, hi3, hb⟩; clear q0 q1 q2 q3; have hV := step_call hV hb; have qq := HQ.out _ hV; have q0 := qq.1.1; have q1 := qq.1.2; have q2 := qq.2.1; have q3 := qq.2.2; clear qq; have hi2 := hi2.below hb; clear hb); (try go_wp2_with fail); refine hK.out _ _ (⟨q0, q1, q2, q3⟩) ?_; clear hK K; (try simp only [Act.put, List.setIfInBounds_toArray, List.set_cons_zero, List.set_cons_succ]))
      | (refine ord_heavy rfl rfl (fun K hK => ?_); go_simp; (go_at_call 64; (with_reducible refine (rcompare_z _ _ _ _ _ _ _ _ _ _ hi2 hi3 EX2).mono ?_); rintro e w4 ⟨rfl, hb⟩; clear q0 q1 q2 q3; have hV := step_call hV hb; have qq := HQ.out _ hV; have q0 := qq.1.1; have q1 := qq.1.2; have q2 := qq.2.1; have q3 := qq.2.2; clear qq; clear hb); (try go_wp2_with fail); refine hK.out _ _ (⟨q0, q1, q2, q3⟩) ?_; clear hK K; (try simp only [Act.put, List.setIfInBounds_toArray, List.set_cons_zero, List.set_cons_succ]))
      | (refine ord_heavy rfl rfl (fun K hK => ?_); go_simp; (try go_wp2_with fail); refine hK.out _ _ (⟨q0, q1, q2, q3⟩) ?_; clear hK K; (try simp only [Act.put, List.setIfInBounds_toArray, List.set_cons_zero, List.set_cons_succ])))
    refine ord_nil (NoPanic.normal ?_)
    go_wp2_with fail
    go_ret
    exact ⟨rfl, step_call HBW.out hV⟩
  · have EX1 := Lib.hid ex
    rw [if_neg hx] at ez
    subst ez
    clear ex
    go_enter Tryz.func28, Tryz.ntmps28
    go_wp2_with fail
    rw [← hW0]
    clear hW0
    have hV : Below W0.heap.size W0 W0.drew := (Below.refl _ _).drew
    have qq := HQ.out _ hV
    have q0 := qq.1.1
    have q1 := qq.1.2
    have q2 := qq.2.1
    have q3 := qq.2.2
    clear qq
    refine wp_region_noPanic ?_
    refine region_ord (S := fun w' => w'.cell? ⟨w.heap.size, 0, none⟩ = some (.int .u64 (m1 : Nat)) ∧ w'.cell? ⟨w.heap.size, 1, none⟩ = some (.int .u64 (m2 : Nat)) ∧ w'.cell? ⟨w.heap.size + 1, 0, none⟩ = some (.int .u64 (k1 : Nat)) ∧ w'.cell? ⟨w.heap.size + 1, 1, none⟩ = some (.int .u64 (k2 : Nat))) [0, 1, 3, 4, 2, 5, 6, 7] (by kernel_rfl) (by decide +kernel) (fun _ _ _ _ _ h => h) (⟨q0, q1, q2, q3⟩) (fun _ => ?_)
    repeat (first
      | (refine ord_skip rfl rfl rfl ?_; (try simp only [Act.put, List.setIfInBounds_toArray, List.set_cons_zero, List.set_cons_succ]))
      | (refine' ord_light (v := _) rfl rfl rfl (fun w' hSw => ?_) ?_; rotate_left; (focus ((try dsimp only at hSw); go_simp <;> (with_reducible rfl))); (try simp only [Act.put, List.setIfInBounds_toArray, List.set_cons_zero, List.set_cons_succ]))
      | (refine ord_heavy rfl rfl (fun K hK => ?_); go_simp; (go_at_call 48; (with_reducible refine (rmembers_l _ _ _ HM1.out EL1).mono ?_); rintro e w2 ⟨a2, n2, c2, rfl, hi2, hb⟩; clear q0 q1 q2 q3; have hV := step_call hV hb; have qq := HQ.out _ hV; have q0 := qq.1.1; have q1 := qq.1.2; have q2 := qq.2.1; have q3 := qq.2.2; clear qq; clear hb); (try go_wp2_with fail); refine hK.out _ _ (⟨q0, q1, q2, q3⟩) ?_; clear hK K; (try simp only [Act.put, List.setIfInBounds_toArray, List.set_cons_zero, List.set_cons_succ]))
      | (refine ord_heavy rfl rfl (fun K hK => ?_); go_simp; (go_at_call 48; (with_reducible refine (rmembers_l _ _ _ HK1.out ER1).mono ?_); rintro e w3 ⟨a3, n3, c3, rfl, hi3, hb⟩; clear q0 q1 q2 q3; have hV := step_call hV hb; have qq := HQ.out _ hV; have q0 := qq.1.1; have q1 := qq.1.2; have q2 := qq.2.1; have q3 := qq.2.2; clear qq; have hi2 := hi2.below hb; clear hb); (try go_wp2_with fail); refine hK.out _ _ (⟨q0, q1, q2, q3⟩) ?_; clear hK K; (try simp only [Act.put, List.setIfInBounds_toArray, List.set_cons_zero, List.set_cons_succ]))
      | (refine ord_heavy rfl rfl (fun K hK => ?_); go_simp; (go_at_call 64; (with_reducible refine (rcompare_z _ _ _ _ _ _ _ _ _ _ hi2 hi3 EX1).mono ?_); rintro e w4 ⟨rfl, hb⟩; clear q0 q1 q2 q3; have hV := step_call hV hb; have qq := HQ.out _ hV; have q0 := qq.1.1; have q1 := qq.1.2; have q2 := qq.2.1; have q3 := qq.2.2; clear qq; clear hb); (try go_wp2_with fail); refine hK.out _ _ (⟨q0, q1, q2, q3⟩) ?_; clear hK K; (try simp only [Act.put, List.setIfInBounds_toArray, List.set_cons_zero, List.set_cons_succ]))
      | (refine ord_heavy rfl rfl (fun K hK => ?_); go_simp; (try go_wp2_with fail); refine hK.out _ _ (⟨q0, q1, q2, q3⟩) ?_; clear hK K; (try simp only [Act.put, List.setIfInBounds_toArray, List.set_cons_zero, List.set_cons_succ])))
    refine ord_nil (NoPanic.normal ?_)
    clear q0 q1 q2 q3 hi2 hi3
    go_wp2_with fail
    go_ret
    exact ⟨rfl, step_call HBW.out hV⟩
end Go.Proofs.YtadomogbakcokaaGreatDoor
