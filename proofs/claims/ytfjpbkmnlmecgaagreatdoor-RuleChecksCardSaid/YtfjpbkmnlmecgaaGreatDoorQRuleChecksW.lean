/- The walk of RuleChecks. -/
import Derived.Test.YtfjpbkmnlmecgaaGreatDoorQgz
import Derived.Deep.DeepCutAuto
namespace Go.Proofs.YtfjpbkmnlmecgaaGreatDoor.Ru
open Go.RowKit Go.PlainAid Go.Maps Go.Shelf Go.Proofs.YtfjpbkmnlmecgaaGreatDoor Go.Proofs.YtfjpbkmnlmecgaaGreatDoor.Bz
set_option linter.unusedVariables false
set_option linter.unusedSimpArgs false
set_option maxHeartbeats 8000000
set_option maxRecDepth 20000

theorem ruleChecks_walk (x0 y0 : Rin) (s : Int × Int) (w : World) (hW : Wz w) (hx : RinOk w x0) (hy : RinOk w y0) :
    Calls Tryz.prog 7 #[rinV x0, rinV y0, twoV s] w fun e w' => e = .returned (.bool true) ∧ Below w.heap.size w w' := by
  have HX := Lib.hid (fun w' (hb : Below w.heap.size w w') => plain_v (hx.below hb))
  have HY := Lib.hid (fun w' (hb : Below w.heap.size w w') => plain_v (hy.below hb))
  have HA := Lib.hid (fun w' (hb : Below w.heap.size w w') => awake_any w' (hW.below hb))
  clear hx hy hW
  obtain ⟨rv, ad, tg, lg, y, z, a, n, c⟩ := x0
  obtain ⟨rv', ad', tg', lg', y', z', a', n', c'⟩ := y0
  obtain ⟨s0, s1⟩ := s
  unfold rinV at HX HY
  unfold rinV twoV
  dsimp only at HX HY ⊢
  obtain ⟨m0, hm0, hml⟩ := wrap_u64_nat s1
  have HADM : Hid (ldf m0 1 < 18446744073709551616) := ldf_lt hml
  have EADM : Hid (bits .andNot .u64 ((m0 : Nat) : Int) 1 = ((ldf m0 1 : Nat) : Int)) := u64_andNot_nat m0 1 hml (by decide)
  generalize ldf m0 1 = adm at *
  have EM0 := Lib.hid hm0
  clear hm0 hml
  obtain ⟨W3, hW3⟩ : ∃ W3, W3 = ((w.alloc (.cells #[.bool rv, .int .i64 ad, .int .i64 tg, .int .i64 lg, .int .u64 (y : Nat), .int .u64 (z : Nat), .slice a n c] 32)).alloc (.cells #[.bool rv', .int .i64 ad', .int .i64 tg', .int .i64 lg', .int .u64 (y' : Nat), .int .u64 (z' : Nat), .slice a' n' c'] 32)).alloc (.cells #[.int .i64 s0, .int .i64 s1] 80) := ⟨_, rfl⟩
  have HQ : Hid (∀ w', Below W3.heap.size W3 w' → (w'.cell? ⟨w.heap.size, 0, none⟩ = some (.bool rv) ∧ w'.cell? ⟨w.heap.size, 1, none⟩ = some (.int .i64 ad) ∧ w'.cell? ⟨w.heap.size, 2, none⟩ = some (.int .i64 tg) ∧ w'.cell? ⟨w.heap.size, 3, none⟩ = some (.int .i64 lg) ∧ w'.cell? ⟨w.heap.size, 4, none⟩ = some (.int .u64 (y : Nat)) ∧ w'.cell? ⟨w.heap.size, 5, none⟩ = some (.int .u64 (z : Nat)) ∧ w'.cell? ⟨w.heap.size, 6, none⟩ = some (.slice a n c)) ∧ (w'.cell? ⟨w.heap.size + 1, 0, none⟩ = some (.bool rv') ∧ w'.cell? ⟨w.heap.size + 1, 1, none⟩ = some (.int .i64 ad') ∧ w'.cell? ⟨w.heap.size + 1, 2, none⟩ = some (.int .i64 tg') ∧ w'.cell? ⟨w.heap.size + 1, 3, none⟩ = some (.int .i64 lg') ∧ w'.cell? ⟨w.heap.size + 1, 4, none⟩ = some (.int .u64 (y' : Nat)) ∧ w'.cell? ⟨w.heap.size + 1, 5, none⟩ = some (.int .u64 (z' : Nat)) ∧ w'.cell? ⟨w.heap.size + 1, 6, none⟩ = some (.slice a' n' c')) ∧ (w'.cell? ⟨w.heap.size + 2, 0, none⟩ = some (.int .i64 s0) ∧ w'.cell? ⟨w.heap.size + 2, 1, none⟩ = some (.int .i64 s1)) ∧ Below w.heap.size w w') := fun w' hb => by
    rw [hW3] at hb
    exact box772 (hb.mono (by simp))
  have HB3 : Hid (Below w.heap.size w W3) := (HQ.out _ (Below.refl _ _)).2.2.2
  go_enter Tryz.func7, Tryz.ntmps7
  go_upto_region 3 with (go_at_call 12; rw [← hW3]; clear hW3; (with_reducible refine (HA.out _ HB3.out).mono ?_); rintro e w0 ⟨rfl, hb⟩; have HB0 := Lib.hid hb; clear hb)
  refine Bk.region_boxes 35 [.bool false, .int .i64 0, .int .i64 0, .int .u64 0, .int .u64 0, .slice none 0 0, .int .i64 0] _ [⟨4, 6, (fun cs w => ∃ f, FrC w cs f)⟩, ⟨5, 7, (fun cs w => ∃ f, FrC w cs f)⟩] [some 14, some 15, some 16, some 17, some 7, some 8, none, none]
    [fun v w => v = .agg #[.bool rv, .int .i64 ad, .int .i64 tg, .int .i64 lg, .int .u64 (y : Nat), .int .u64 (z : Nat), .slice a n c],
     fun v w => ∃ f, FrV w v f,
     fun v w => v = .agg #[.bool rv', .int .i64 ad', .int .i64 tg', .int .i64 lg', .int .u64 (y' : Nat), .int .u64 (z' : Nat), .slice a' n' c'],
     fun v w => ∃ f, FrV w v f,
     fun _ _ => True,
     fun _ _ => True,
     fun _ _ => True,
     fun _ _ => True] (by kernel_rfl) (by kernel_rfl) rfl [undef, undef, undef, undef, undef, undef, undef, undef] (by simp only [Bk.putsO, List.set_cons_zero, List.set_cons_succ, Act.put, List.setIfInBounds_toArray]) rfl rfl (by simp) ?_ ?_ ?_ ⟨?_, ?_, ?_, ?_, ?_, ?_, ?_, ?_, trivial⟩ ?_
  · intro j D hj v w w' hb hD
    match j, hj with
    | 0, hj => cases hj; exact hD
    | 1, hj => cases hj; obtain ⟨f, h⟩ := hD; exact ⟨f, h.below hb⟩
    | 2, hj => cases hj; exact hD
    | 3, hj => cases hj; obtain ⟨f, h⟩ := hD; exact ⟨f, h.below hb⟩
    | 4, hj => cases hj; exact hD
    | 5, hj => cases hj; exact hD
    | 6, hj => cases hj; exact hD
    | 7, hj => cases hj; exact hD
    | j + 8, hj => cases hj
  · intro j D hj v w g us hc hD
    match j, hj with
    | 0, hj => cases hj; exact hD
    | 1, hj => cases hj; obtain ⟨f, h⟩ := hD; exact ⟨f, h.fill hc⟩
    | 2, hj => cases hj; exact hD
    | 3, hj => cases hj; obtain ⟨f, h⟩ := hD; exact ⟨f, h.fill hc⟩
    | 4, hj => cases hj; exact hD
    | 5, hj => cases hj; exact hD
    | 6, hj => cases hj; exact hD
    | 7, hj => cases hj; exact hD
    | j + 8, hj => cases hj
  · intro b hbm; simp only [List.mem_cons, List.not_mem_nil, or_false] at hbm
    rcases hbm with rfl | rfl
    · exact ⟨fun cs w w' hb h => by obtain ⟨f, h⟩ := h; exact ⟨f, h.below hb⟩, fun cs w g us hc h => by obtain ⟨f, h⟩ := h; exact ⟨f, h.fill hc⟩⟩
    · exact ⟨fun cs w w' hb h => by obtain ⟨f, h⟩ := h; exact ⟨f, h.below hb⟩, fun cs w g us hc h => by obtain ⟨f, h⟩ := h; exact ⟨f, h.fill hc⟩⟩
  · refine ⟨.plain, [], by decide, by simp, fun vs w hl hR hd K hK => ?_⟩
    obtain ⟨v0, vs, rfl, hl1⟩ := len_succ hl
    obtain ⟨v1, vs, rfl, hl2⟩ := len_succ hl1
    obtain ⟨v2, vs, rfl, hl3⟩ := len_succ hl2
    obtain ⟨v3, vs, rfl, hl4⟩ := len_succ hl3
    obtain ⟨v4, vs, rfl, hl5⟩ := len_succ hl4
    obtain ⟨v5, vs, rfl, hl6⟩ := len_succ hl5
    obtain ⟨v6, vs, rfl, hl7⟩ := len_succ hl6
    obtain ⟨v7, vs, rfl, hl8⟩ := len_succ hl7
    obtain rfl := len_zero hl8
    clear hd hl hl1 hl2 hl3 hl4 hl5 hl6 hl7 hl8
    replace hK := hK.out
    simp only [Bk.putsO, List.set_cons_zero, List.set_cons_succ, Act.put, List.setIfInBounds_toArray] at hK ⊢
    have hK' : Shut _ := hK
    clear hK
    obtain ⟨q0, q1, q2, q3, q4, q5, q6⟩ := (HQ.out _ (stepc HB0.out hR)).1
    go_simp
    (try go_wp2_with fail)
    exact hK'.out _ _ (Below.refl _ _) (fun D hD => by cases hD; rfl)
  · refine ⟨.plain, [0], by decide, by simp, fun vs w hl hR hd K hK => ?_⟩
    obtain ⟨v0, vs, rfl, hl1⟩ := len_succ hl
    obtain ⟨v1, vs, rfl, hl2⟩ := len_succ hl1
    obtain ⟨v2, vs, rfl, hl3⟩ := len_succ hl2
    obtain ⟨v3, vs, rfl, hl4⟩ := len_succ hl3
    obtain ⟨v4, vs, rfl, hl5⟩ := len_succ hl4
    obtain ⟨v5, vs, rfl, hl6⟩ := len_succ hl5
    obtain ⟨v6, vs, rfl, hl7⟩ := len_succ hl6
    obtain ⟨v7, vs, rfl, hl8⟩ := len_succ hl7
    obtain rfl := len_zero hl8
    have dd := hd 0 (by simp) _ rfl; simp only [List.getD_cons_zero, List.getD_cons_succ] at dd; obtain rfl := dd
    clear hd hl hl1 hl2 hl3 hl4 hl5 hl6 hl7 hl8
    replace hK := hK.out
    simp only [Bk.putsO, List.set_cons_zero, List.set_cons_succ, Act.put, List.setIfInBounds_toArray] at hK ⊢
    have hK' : Shut _ := hK
    clear hK
    go_simp
    go_at_call 14; (with_reducible refine (HX.out _ (HQ.out _ (stepc HB0.out hR)).2.2.2).mono ?_); rintro e w2 ⟨v, f, rfl, hf, hb⟩
    (try go_wp2_with fail)
    exact hK'.out _ _ (hb) (fun D hD => by cases hD; exact ⟨f, hf⟩)
  · refine ⟨.plain, [], by decide, by simp, fun vs w hl hR hd K hK => ?_⟩
    obtain ⟨v0, vs, rfl, hl1⟩ := len_succ hl
    obtain ⟨v1, vs, rfl, hl2⟩ := len_succ hl1
    obtain ⟨v2, vs, rfl, hl3⟩ := len_succ hl2
    obtain ⟨v3, vs, rfl, hl4⟩ := len_succ hl3
    obtain ⟨v4, vs, rfl, hl5⟩ := len_succ hl4
    obtain ⟨v5, vs, rfl, hl6⟩ := len_succ hl5
    obtain ⟨v6, vs, rfl, hl7⟩ := len_succ hl6
    obtain ⟨v7, vs, rfl, hl8⟩ := len_succ hl7
    obtain rfl := len_zero hl8
    clear hd hl hl1 hl2 hl3 hl4 hl5 hl6 hl7 hl8
    replace hK := hK.out
    simp only [Bk.putsO, List.set_cons_zero, List.set_cons_succ, Act.put, List.setIfInBounds_toArray] at hK ⊢
    have hK' : Shut _ := hK
    clear hK
    obtain ⟨q0, q1, q2, q3, q4, q5, q6⟩ := (HQ.out _ (stepc HB0.out hR)).2.1
    go_simp
    (try go_wp2_with fail)
    exact hK'.out _ _ (Below.refl _ _) (fun D hD => by cases hD; rfl)
  · refine ⟨.plain, [2], by decide, by simp, fun vs w hl hR hd K hK => ?_⟩
    obtain ⟨v0, vs, rfl, hl1⟩ := len_succ hl
    obtain ⟨v1, vs, rfl, hl2⟩ := len_succ hl1
    obtain ⟨v2, vs, rfl, hl3⟩ := len_succ hl2
    obtain ⟨v3, vs, rfl, hl4⟩ := len_succ hl3
    obtain ⟨v4, vs, rfl, hl5⟩ := len_succ hl4
    obtain ⟨v5, vs, rfl, hl6⟩ := len_succ hl5
    obtain ⟨v6, vs, rfl, hl7⟩ := len_succ hl6
    obtain ⟨v7, vs, rfl, hl8⟩ := len_succ hl7
    obtain rfl := len_zero hl8
    have dd := hd 2 (by simp) _ rfl; simp only [List.getD_cons_zero, List.getD_cons_succ] at dd; obtain rfl := dd
    clear hd hl hl1 hl2 hl3 hl4 hl5 hl6 hl7 hl8
    replace hK := hK.out
    simp only [Bk.putsO, List.set_cons_zero, List.set_cons_succ, Act.put, List.setIfInBounds_toArray] at hK ⊢
    have hK' : Shut _ := hK
    clear hK
    go_simp
    go_at_call 14; (with_reducible refine (HY.out _ (HQ.out _ (stepc HB0.out hR)).2.2.2).mono ?_); rintro e w2 ⟨v, f, rfl, hf, hb⟩
    (try go_wp2_with fail)
    exact hK'.out _ _ (hb) (fun D hD => by cases hD; exact ⟨f, hf⟩)
  · refine ⟨.box ⟨4, 6, (fun cs w => ∃ f, FrC w cs f)⟩, [], by decide, by simp, rfl, by simp, (fun D hD => by cases hD; exact fun _ _ => trivial), fun vs w hl K hK => ?_⟩
    obtain ⟨v0, vs, rfl, hl1⟩ := len_succ hl
    obtain ⟨v1, vs, rfl, hl2⟩ := len_succ hl1
    obtain ⟨v2, vs, rfl, hl3⟩ := len_succ hl2
    obtain ⟨v3, vs, rfl, hl4⟩ := len_succ hl3
    obtain ⟨v4, vs, rfl, hl5⟩ := len_succ hl4
    obtain ⟨v5, vs, rfl, hl6⟩ := len_succ hl5
    obtain ⟨v6, vs, rfl, hl7⟩ := len_succ hl6
    obtain ⟨v7, vs, rfl, hl8⟩ := len_succ hl7
    obtain rfl := len_zero hl8
    clear hl hl1 hl2 hl3 hl4 hl5 hl6 hl7 hl8
    replace hK := hK.out
    simp only [Bk.putsO, List.set_cons_zero, List.set_cons_succ, Act.put, List.setIfInBounds_toArray] at hK ⊢
    have hK' : Shut _ := hK
    clear hK
    go_simp
    (try go_wp2_with fail)
    exact hK'.out
  · refine ⟨.box ⟨5, 7, (fun cs w => ∃ f, FrC w cs f)⟩, [], by decide, by simp, rfl, by simp, (fun D hD => by cases hD; exact fun _ _ => trivial), fun vs w hl K hK => ?_⟩
    obtain ⟨v0, vs, rfl, hl1⟩ := len_succ hl
    obtain ⟨v1, vs, rfl, hl2⟩ := len_succ hl1
    obtain ⟨v2, vs, rfl, hl3⟩ := len_succ hl2
    obtain ⟨v3, vs, rfl, hl4⟩ := len_succ hl3
    obtain ⟨v4, vs, rfl, hl5⟩ := len_succ hl4
    obtain ⟨v5, vs, rfl, hl6⟩ := len_succ hl5
    obtain ⟨v6, vs, rfl, hl7⟩ := len_succ hl6
    obtain ⟨v7, vs, rfl, hl8⟩ := len_succ hl7
    obtain rfl := len_zero hl8
    clear hl hl1 hl2 hl3 hl4 hl5 hl6 hl7 hl8
    replace hK := hK.out
    simp only [Bk.putsO, List.set_cons_zero, List.set_cons_succ, Act.put, List.setIfInBounds_toArray] at hK ⊢
    have hK' : Shut _ := hK
    clear hK
    go_simp
    (try go_wp2_with fail)
    exact hK'.out
  · refine ⟨.fill ⟨4, 6, (fun cs w => ∃ f, FrC w cs f)⟩, [4, 1], by decide, by simp, rfl, by simp, by simp, by simp, by simp, (fun D hD => by cases hD; exact fun _ _ => trivial), fun vs w g hl hd hg e3 K hK => ?_⟩
    obtain ⟨v0, vs, rfl, hl1⟩ := len_succ hl
    obtain ⟨v1, vs, rfl, hl2⟩ := len_succ hl1
    obtain ⟨v2, vs, rfl, hl3⟩ := len_succ hl2
    obtain ⟨v3, vs, rfl, hl4⟩ := len_succ hl3
    obtain ⟨v4, vs, rfl, hl5⟩ := len_succ hl4
    obtain ⟨v5, vs, rfl, hl6⟩ := len_succ hl5
    obtain ⟨v6, vs, rfl, hl7⟩ := len_succ hl6
    obtain ⟨v7, vs, rfl, hl8⟩ := len_succ hl7
    obtain rfl := len_zero hl8
    have dd := hd 1 (by simp) _ rfl; simp only [List.getD_cons_zero, List.getD_cons_succ] at dd; refine dd.elim ?_; clear dd; intro f hf; refine hf.pick.elim ?_; intro a1 ha1; refine ha1.elim ?_; intro n1 hn1; refine hn1.elim ?_; intro c1 hc1; have e1 := hc1.1; have hfc := hc1.2; clear hf ha1 hn1 hc1; subst e1
    simp only [List.getD_cons_zero, List.getD_cons_succ] at hg
    obtain rfl := hg
    clear hd hl hl1 hl2 hl3 hl4 hl5 hl6 hl7 hl8
    have e4 : w.heap[g]? = some (.cells #[.bool false, .int .i64 0, .int .i64 0, .int .u64 0, .int .u64 0, .slice none 0 0, .int .i64 0] 35 (0, 0)) := e3; clear e3; have mm := cell7 e4; have m0 := mm.1.1; have m1 := mm.1.2.1; have m2 := mm.1.2.2.1; have m3 := mm.1.2.2.2.1; have m4 := mm.1.2.2.2.2.1; have m5 := mm.1.2.2.2.2.2.1; have m6 := mm.1.2.2.2.2.2.2; have f0 := mm.2.1; have f1 := mm.2.2.1; have f2 := mm.2.2.2.1; have f3 := mm.2.2.2.2.1; have f4 := mm.2.2.2.2.2.1; have f5 := mm.2.2.2.2.2.2.1; have f6 := mm.2.2.2.2.2.2.2; clear mm e4
    replace hK := hK.out undef [.bool f.revoke, .int .i64 f.admin, .int .i64 f.target, .int .u64 (f.yes : Nat), .int .u64 (f.no : Nat), .slice a1 n1 c1, .int .i64 f.longest] rfl (⟨f, hfc⟩)
    simp only [Bk.fillC, Nat.zero_add, Nat.reduceAdd, Bk.putsO, List.set_cons_zero, List.set_cons_succ, Act.put, List.setIfInBounds_toArray] at hK ⊢
    have hK' : Shut _ := hK
    clear hK
    go_simp
    (try go_wp2_with fail)
    exact hK'.out
  · refine ⟨.fill ⟨5, 7, (fun cs w => ∃ f, FrC w cs f)⟩, [5, 3], by decide, by simp, rfl, by simp, by simp, by simp, by simp, (fun D hD => by cases hD; exact fun _ _ => trivial), fun vs w g hl hd hg e3 K hK => ?_⟩
    obtain ⟨v0, vs, rfl, hl1⟩ := len_succ hl
    obtain ⟨v1, vs, rfl, hl2⟩ := len_succ hl1
    obtain ⟨v2, vs, rfl, hl3⟩ := len_succ hl2
    obtain ⟨v3, vs, rfl, hl4⟩ := len_succ hl3
    obtain ⟨v4, vs, rfl, hl5⟩ := len_succ hl4
    obtain ⟨v5, vs, rfl, hl6⟩ := len_succ hl5
    obtain ⟨v6, vs, rfl, hl7⟩ := len_succ hl6
    obtain ⟨v7, vs, rfl, hl8⟩ := len_succ hl7
    obtain rfl := len_zero hl8
    have dd := hd 3 (by simp) _ rfl; simp only [List.getD_cons_zero, List.getD_cons_succ] at dd; refine dd.elim ?_; clear dd; intro f hf; refine hf.pick.elim ?_; intro a1 ha1; refine ha1.elim ?_; intro n1 hn1; refine hn1.elim ?_; intro c1 hc1; have e1 := hc1.1; have hfc := hc1.2; clear hf ha1 hn1 hc1; subst e1
    simp only [List.getD_cons_zero, List.getD_cons_succ] at hg
    obtain rfl := hg
    clear hd hl hl1 hl2 hl3 hl4 hl5 hl6 hl7 hl8
    have e4 : w.heap[g]? = some (.cells #[.bool false, .int .i64 0, .int .i64 0, .int .u64 0, .int .u64 0, .slice none 0 0, .int .i64 0] 35 (0, 0)) := e3; clear e3; have mm := cell7 e4; have m0 := mm.1.1; have m1 := mm.1.2.1; have m2 := mm.1.2.2.1; have m3 := mm.1.2.2.2.1; have m4 := mm.1.2.2.2.2.1; have m5 := mm.1.2.2.2.2.2.1; have m6 := mm.1.2.2.2.2.2.2; have f0 := mm.2.1; have f1 := mm.2.2.1; have f2 := mm.2.2.2.1; have f3 := mm.2.2.2.2.1; have f4 := mm.2.2.2.2.2.1; have f5 := mm.2.2.2.2.2.2.1; have f6 := mm.2.2.2.2.2.2.2; clear mm e4
    replace hK := hK.out undef [.bool f.revoke, .int .i64 f.admin, .int .i64 f.target, .int .u64 (f.yes : Nat), .int .u64 (f.no : Nat), .slice a1 n1 c1, .int .i64 f.longest] rfl (⟨f, hfc⟩)
    simp only [Bk.fillC, Nat.zero_add, Nat.reduceAdd, Bk.putsO, List.set_cons_zero, List.set_cons_succ, Act.put, List.setIfInBounds_toArray] at hK ⊢
    have hK' : Shut _ := hK
    clear hK
    go_simp
    (try go_wp2_with fail)
    exact hK'.out
  · intro vs w1 hl hR hd hbx hne
    obtain ⟨v0, vs, rfl, hl1⟩ := len_succ hl
    obtain ⟨v1, vs, rfl, hl2⟩ := len_succ hl1
    obtain ⟨v2, vs, rfl, hl3⟩ := len_succ hl2
    obtain ⟨v3, vs, rfl, hl4⟩ := len_succ hl3
    obtain ⟨v4, vs, rfl, hl5⟩ := len_succ hl4
    obtain ⟨v5, vs, rfl, hl6⟩ := len_succ hl5
    obtain ⟨v6, vs, rfl, hl7⟩ := len_succ hl6
    obtain ⟨v7, vs, rfl, hl8⟩ := len_succ hl7
    obtain rfl := len_zero hl8
    obtain ⟨g0, cs0, e0, hg0, hh0, hP0⟩ := hbx ⟨4, 6, (fun cs w => ∃ f, FrC w cs f)⟩ (by simp) (by simp) (by simp)
    simp only [List.getD_cons_zero, List.getD_cons_succ] at e0
    obtain ⟨g1, cs1, e1, hg1, hh1, hP1⟩ := hbx ⟨5, 7, (fun cs w => ∃ f, FrC w cs f)⟩ (by simp) (by simp) (by simp)
    simp only [List.getD_cons_zero, List.getD_cons_succ] at e1
    obtain rfl := e0
    obtain rfl := e1
    clear hd hbx hl hl1 hl2 hl3 hl4 hl5 hl6 hl7 hl8
    simp only [Bk.putsO, List.set_cons_zero, List.set_cons_succ, Act.put, List.setIfInBounds_toArray]
    clear hne
    obtain ⟨f, a1, n1, c1, e1, hd1⟩ := hP0
    obtain ⟨g, a2, n2, c2, e2, hd2⟩ := hP1
    subst e1 e2
    have HB1 := Lib.hid (stepc HB0.out hR)
    have HF1 : Hid (FrC w1 (frL f a1 n1 c1) f) := ⟨a1, n1, c1, rfl, hd1⟩
    have HG1 : Hid (FrC w1 (frL g a2 n2 c2) g) := ⟨a2, n2, c2, rfl, hd2⟩
    have hl0 := (Array.getElem?_eq_some_iff.1 hh0).1
    have hl1 := (Array.getElem?_eq_some_iff.1 hh1).1
    have HQ0' : Hid (∀ w', Below w1.heap.size w1 w' → w'.cell? ⟨g0, 0, none⟩ = some (.bool f.revoke) ∧ w'.cell? ⟨g0, 1, none⟩ = some (.int .i64 f.admin) ∧ w'.cell? ⟨g0, 2, none⟩ = some (.int .i64 f.target) ∧ w'.cell? ⟨g0, 3, none⟩ = some (.int .u64 (f.yes : Nat)) ∧ w'.cell? ⟨g0, 4, none⟩ = some (.int .u64 (f.no : Nat)) ∧ w'.cell? ⟨g0, 5, none⟩ = some (.slice a1 n1 c1) ∧ w'.cell? ⟨g0, 6, none⟩ = some (.int .i64 f.longest)) := fun w' hb => (cell7 ((hb.block _ hl0).trans hh0)).1
    have HQ1' : Hid (∀ w', Below w1.heap.size w1 w' → w'.cell? ⟨g1, 0, none⟩ = some (.bool g.revoke) ∧ w'.cell? ⟨g1, 1, none⟩ = some (.int .i64 g.admin) ∧ w'.cell? ⟨g1, 2, none⟩ = some (.int .i64 g.target) ∧ w'.cell? ⟨g1, 3, none⟩ = some (.int .u64 (g.yes : Nat)) ∧ w'.cell? ⟨g1, 4, none⟩ = some (.int .u64 (g.no : Nat)) ∧ w'.cell? ⟨g1, 5, none⟩ = some (.slice a2 n2 c2) ∧ w'.cell? ⟨g1, 6, none⟩ = some (.int .i64 g.longest)) := fun w' hb => (cell7 ((hb.block _ hl1).trans hh1)).1
    clear hh0 hh1 hd1 hd2 hR hg0 hg1 hl0 hl1 HX HY HA
    obtain ⟨d0, d1, d2, d3, d4, d5, d6⟩ := HQ0'.out _ (Below.refl _ _)
    obtain ⟨e0, e1, e2, e3, e4, e5, e6⟩ := HQ1'.out _ (Below.refl _ _)
    obtain ⟨t0, t1⟩ := (HQ.out _ HB1.out).2.2.1
    have em := EM0.out
    have ea := EADM.out
    obtain ⟨Wl, hWl⟩ : ∃ Wl, Wl = w1.alloc (.cells #[.bool f.revoke, .int .i64 f.admin, .int .i64 f.target, .int .u64 (f.yes : Nat), .int .u64 (f.no : Nat), .slice a1 n1 c1, .int .i64 f.longest, .bool g.revoke, .int .i64 g.admin, .int .i64 g.target, .int .u64 (g.yes : Nat), .int .u64 (g.no : Nat), .slice a2 n2 c2, .int .i64 g.longest] 35) := ⟨_, rfl⟩
    have hbl : Below w1.heap.size w1 Wl := by rw [hWl]; exact (Below.refl _ _).alloc (Nat.le_refl _) _
    have hzl : Wl.heap.size = w1.heap.size + 1 := by rw [hWl]; simp
    have hrow : Wl.heap[w1.heap.size]? = some (.cells #[.bool f.revoke, .int .i64 f.admin, .int .i64 f.target, .int .u64 (f.yes : Nat), .int .u64 (f.no : Nat), .slice a1 n1 c1, .int .i64 f.longest, .bool g.revoke, .int .i64 g.admin, .int .i64 g.target, .int .u64 (g.yes : Nat), .int .u64 (g.no : Nat), .slice a2 n2 c2, .int .i64 g.longest] 35 (0, 0)) := by rw [hWl]; exact heap_alloc_new _ _
    have HROW : Hid (∀ w', Below Wl.heap.size Wl w' → w'.cell? ⟨w1.heap.size, 0, none⟩ = some (.bool f.revoke) ∧ w'.cell? ⟨w1.heap.size, 1, none⟩ = some (.int .i64 f.admin) ∧ w'.cell? ⟨w1.heap.size, 2, none⟩ = some (.int .i64 f.target) ∧ w'.cell? ⟨w1.heap.size, 3, none⟩ = some (.int .u64 (f.yes : Nat)) ∧ w'.cell? ⟨w1.heap.size, 4, none⟩ = some (.int .u64 (f.no : Nat)) ∧ w'.cell? ⟨w1.heap.size, 5, none⟩ = some (.slice a1 n1 c1) ∧ w'.cell? ⟨w1.heap.size, 6, none⟩ = some (.int .i64 f.longest) ∧ w'.cell? ⟨w1.heap.size, 7, none⟩ = some (.bool g.revoke) ∧ w'.cell? ⟨w1.heap.size, 8, none⟩ = some (.int .i64 g.admin) ∧ w'.cell? ⟨w1.heap.size, 9, none⟩ = some (.int .i64 g.target) ∧ w'.cell? ⟨w1.heap.size, 10, none⟩ = some (.int .u64 (g.yes : Nat)) ∧ w'.cell? ⟨w1.heap.size, 11, none⟩ = some (.int .u64 (g.no : Nat)) ∧ w'.cell? ⟨w1.heap.size, 12, none⟩ = some (.slice a2 n2 c2) ∧ w'.cell? ⟨w1.heap.size, 13, none⟩ = some (.int .i64 g.longest)) := fun w' hb => by
      have hq := (hb.block w1.heap.size (by omega)).trans hrow
      refine ⟨?_, ?_, ?_, ?_, ?_, ?_, ?_, ?_, ?_, ?_, ?_, ?_, ?_, ?_⟩ <;> simp [World.cell?, hq]
    have HQ0 : Hid (∀ w', Below Wl.heap.size Wl w' → w'.cell? ⟨g0, 0, none⟩ = some (.bool f.revoke) ∧ w'.cell? ⟨g0, 1, none⟩ = some (.int .i64 f.admin) ∧ w'.cell? ⟨g0, 2, none⟩ = some (.int .i64 f.target) ∧ w'.cell? ⟨g0, 3, none⟩ = some (.int .u64 (f.yes : Nat)) ∧ w'.cell? ⟨g0, 4, none⟩ = some (.int .u64 (f.no : Nat)) ∧ w'.cell? ⟨g0, 5, none⟩ = some (.slice a1 n1 c1) ∧ w'.cell? ⟨g0, 6, none⟩ = some (.int .i64 f.longest)) := fun w' hb => HQ0'.out _ (stepc hbl hb)
    have HQ1 : Hid (∀ w', Below Wl.heap.size Wl w' → w'.cell? ⟨g1, 0, none⟩ = some (.bool g.revoke) ∧ w'.cell? ⟨g1, 1, none⟩ = some (.int .i64 g.admin) ∧ w'.cell? ⟨g1, 2, none⟩ = some (.int .i64 g.target) ∧ w'.cell? ⟨g1, 3, none⟩ = some (.int .u64 (g.yes : Nat)) ∧ w'.cell? ⟨g1, 4, none⟩ = some (.int .u64 (g.no : Nat)) ∧ w'.cell? ⟨g1, 5, none⟩ = some (.slice a2 n2 c2) ∧ w'.cell? ⟨g1, 6, none⟩ = some (.int .i64 g.longest)) := fun w' hb => HQ1'.out _ (stepc hbl hb)
    have HQT : Hid (∀ w', Below Wl.heap.size Wl w' → w'.cell? ⟨w.heap.size + 2, 0, none⟩ = some (.int .i64 s0) ∧ w'.cell? ⟨w.heap.size + 2, 1, none⟩ = some (.int .i64 s1)) := fun w' hb => (HQ.out _ (stepc HB1.out (stepc hbl hb))).2.2.1
    have HFV : Hid (∀ w', Below Wl.heap.size Wl w' → FrV w' (.agg #[.bool f.revoke, .int .i64 f.admin, .int .i64 f.target, .int .u64 (f.yes : Nat), .int .u64 (f.no : Nat), .slice a1 n1 c1, .int .i64 f.longest]) f) := fun w' hb => (HF1.out.below (stepc hbl hb)).val
    have HGV : Hid (∀ w', Below Wl.heap.size Wl w' → FrV w' (.agg #[.bool g.revoke, .int .i64 g.admin, .int .i64 g.target, .int .u64 (g.yes : Nat), .int .u64 (g.no : Nat), .slice a2 n2 c2, .int .i64 g.longest]) g) := fun w' hb => (HG1.out.below (stepc hbl hb)).val
    have HBW : Hid (∀ w', Below Wl.heap.size Wl w' → Below w.heap.size w w') := fun w' hb => (HQ.out _ (stepc HB1.out (stepc hbl hb))).2.2.2
    have HOKF : Hid (FrOk f) := HF1.out.ok
    have HOKG : Hid (FrOk g) := HG1.out.ok
    clear HQ0' HQ1' HQ HF1 HG1 hrow hbl hzl
    obtain ⟨Xf, eXf⟩ : ∃ X, chkF f s0 adm = X := ⟨_, rfl⟩
    obtain ⟨Yf, eYf⟩ : ∃ X, chkF f 6 96 = X := ⟨_, rfl⟩
    obtain ⟨Xg, eXg⟩ : ∃ X, chkF g s0 adm = X := ⟨_, rfl⟩
    obtain ⟨Yg, eYg⟩ : ∃ X, chkF g 6 96 = X := ⟨_, rfl⟩
    obtain ⟨q, eq⟩ : ∃ q, sameF f g = q := ⟨_, rfl⟩
    have EXf : Hid (chkL (toRl f) s0 (maskL adm) = Xf) := (chk_law f s0 adm HOKF.out.1 HOKF.out.2.1 HADM.out HOKF.out.2.2.1 HOKF.out.2.2.2.1).trans eXf
    have EYf : Hid (chkL (toRl f) 6 (maskL 96) = Yf) := (chk_law f 6 96 HOKF.out.1 HOKF.out.2.1 (by omega) HOKF.out.2.2.1 HOKF.out.2.2.2.1).trans eYf
    have EXg : Hid (chkL (toRl g) s0 (maskL adm) = Xg) := (chk_law g s0 adm HOKG.out.1 HOKG.out.2.1 HADM.out HOKG.out.2.2.1 HOKG.out.2.2.2.1).trans eXg
    have EYg : Hid (chkL (toRl g) 6 (maskL 96) = Yg) := (chk_law g 6 96 HOKG.out.1 HOKG.out.2.1 (by omega) HOKG.out.2.2.1 HOKG.out.2.2.2.1).trans eYg
    have EQ1 : Hid (eqRl (toRl f) (toRl g) = q) := (eq_law HOKF.out HOKG.out).trans eq
    have EFXf := Lib.hid eXf
    have EFYf := Lib.hid eYf
    have EFXg := Lib.hid eXg
    have EFYg := Lib.hid eYg
    have EQ2 := Lib.hid eq
    clear eXf eYf eXg eYg eq HOKF HOKG
    go_wp2_with fail
    rw [← hWl]
    clear hWl d0 d1 d2 d3 d4 d5 d6 e0 e1 e2 e3 e4 e5 e6 t0 t1 em ea
    go_loopw [26] (fun v wr => ∃ j : Nat, j ≤ 2 ∧ v = .int .i64 j ∧ Below Wl.heap.size Wl wr) (fun v _ => 2 - (intOf v).toNat)
    case atStart => exact ⟨0, by omega, rfl, Below.refl _ _⟩
    case round =>
      obtain ⟨j, hj, rfl, hbw⟩ := hrel
      rcases j with _ | _ | j
      · obtain ⟨r0, r1, r2, r3, r4, r5, r6, r7, r8, r9, r10, r11, r12, r13⟩ := HROW.out _ hbw
        obtain ⟨W5, hW5⟩ : ∃ W5, W5 = wr.alloc (.cells #[.bool f.revoke, .int .i64 f.admin, .int .i64 f.target, .int .u64 (f.yes : Nat), .int .u64 (f.no : Nat), .slice a1 n1 c1, .int .i64 f.longest] 35) := ⟨_, rfl⟩
        have hb5 : Below wr.heap.size wr W5 := by rw [hW5]; exact (Below.refl _ _).alloc (Nat.le_refl _) _
        have hB5 := stepc hbw hb5
        have hn5 : W5.heap[wr.heap.size]? = some (.cells #[.bool f.revoke, .int .i64 f.admin, .int .i64 f.target, .int .u64 (f.yes : Nat), .int .u64 (f.no : Nat), .slice a1 n1 c1, .int .i64 f.longest] 35 (0, 0)) := by rw [hW5]; exact heap_alloc_new _ _
        have hl5 := (Array.getElem?_eq_some_iff.1 hn5).1
        have HBX : Hid (∀ w', Below W5.heap.size W5 w' → w'.cell? ⟨wr.heap.size, 0, none⟩ = some (.bool f.revoke) ∧ w'.cell? ⟨wr.heap.size, 1, none⟩ = some (.int .i64 f.admin) ∧ w'.cell? ⟨wr.heap.size, 2, none⟩ = some (.int .i64 f.target) ∧ w'.cell? ⟨wr.heap.size, 3, none⟩ = some (.int .u64 (f.yes : Nat)) ∧ w'.cell? ⟨wr.heap.size, 4, none⟩ = some (.int .u64 (f.no : Nat)) ∧ w'.cell? ⟨wr.heap.size, 5, none⟩ = some (.slice a1 n1 c1) ∧ w'.cell? ⟨wr.heap.size, 6, none⟩ = some (.int .i64 f.longest)) := fun w' hb => (cell7 ((hb.block _ hl5).trans hn5)).1
        have HQT := Lib.hid (fun w' (hb : Below W5.heap.size W5 w') => HQT.out w' (stepc hB5 hb))
        have HFV := Lib.hid (fun w' (hb : Below W5.heap.size W5 w') => HFV.out w' (stepc hB5 hb))
        have HB5 := Lib.hid hB5
        clear hb5 hB5 hn5 hl5
        go_wp2_with fail
        rw [← hW5]
        clear hW5 r0 r1 r2 r3 r4 r5 r6 r7 r8 r9 r10 r11 r12 r13
        refine region_slots [30, 31, 32, 33, 34, 35, 36, 37, 38, 39, 40, 41, 42, 43, 44, 45, 46, 47, 48, 49, 50, 51, 52]
          [fun v w => v = .agg #[.bool f.revoke, .int .i64 f.admin, .int .i64 f.target, .int .u64 (f.yes : Nat), .int .u64 (f.no : Nat), .slice a1 n1 c1, .int .i64 f.longest],
           fun v w => RlV w v (toRl f),
           fun v _ => v = .pointer (some ⟨w.heap.size + 2, 0, none⟩),
           fun v _ => v = .int .i64 s0,
           fun v _ => v = .int .u64 (adm : Nat),
           fun v w => StV w v (maskL adm),
           fun v _ => v = .int .i64 Xf,
           fun v w => v = .agg #[.bool f.revoke, .int .i64 f.admin, .int .i64 f.target, .int .u64 (f.yes : Nat), .int .u64 (f.no : Nat), .slice a1 n1 c1, .int .i64 f.longest],
           fun v _ => v = .pointer (some ⟨w.heap.size + 2, 0, none⟩),
           fun v _ => v = .int .i64 s0,
           fun v _ => v = .int .u64 (adm : Nat),
           fun v _ => v = .int .i64 Xf,
           fun v _ => v = .bool false,
           fun v _ => v = .bool false,
           fun v w => v = .agg #[.bool f.revoke, .int .i64 f.admin, .int .i64 f.target, .int .u64 (f.yes : Nat), .int .u64 (f.no : Nat), .slice a1 n1 c1, .int .i64 f.longest],
           fun v w => RlV w v (toRl f),
           fun v w => ∃ g, v = .slice (some ⟨g, 0, none⟩) 2 2 ∧ Iw w (some ⟨g, 0, none⟩) 2 2 [5, 6],
           fun v w => StV w v (maskL 96),
           fun v _ => v = .int .i64 Yf,
           fun v w => v = .agg #[.bool f.revoke, .int .i64 f.admin, .int .i64 f.target, .int .u64 (f.yes : Nat), .int .u64 (f.no : Nat), .slice a1 n1 c1, .int .i64 f.longest],
           fun v _ => v = .int .i64 Yf,
           fun v _ => v = .bool false,
           fun v _ => v = .bool false]
          (fun w' => Below W5.heap.size W5 w') (fun w w' => Below w.heap.size w w') (by kernel_rfl) (by kernel_rfl) rfl [u30, u31, u32, u33, u34, u35, u36, u37, u38, u39, u40, u41, u42, u43, u44, u45, u46, u47, u48, u49, u50, u51, u52] (by simp only [puts, List.set_cons_zero, List.set_cons_succ, Act.put, List.setIfInBounds_toArray]) rfl ((Below.refl _ _).drew) ?_ ⟨?_, ?_, ?_, ?_, ?_, ?_, ?_, ?_, ?_, ?_, ?_, ?_, ?_, ?_, ?_, ?_, ?_, ?_, ?_, ?_, ?_, ?_, ?_, trivial⟩ ?_
        · intro j D hj v w w' hb hD
          match j, hj with
          | 0, hj => cases hj; exact hD
          | 1, hj => cases hj; exact hD.below hb
          | 2, hj => cases hj; exact hD
          | 3, hj => cases hj; exact hD
          | 4, hj => cases hj; exact hD
          | 5, hj => cases hj; exact hD.below hb
          | 6, hj => cases hj; exact hD
          | 7, hj => cases hj; exact hD
          | 8, hj => cases hj; exact hD
          | 9, hj => cases hj; exact hD
          | 10, hj => cases hj; exact hD
          | 11, hj => cases hj; exact hD
          | 12, hj => cases hj; exact hD
          | 13, hj => cases hj; exact hD
          | 14, hj => cases hj; exact hD
          | 15, hj => cases hj; exact hD.below hb
          | 16, hj => cases hj; obtain ⟨g, rfl, h⟩ := hD; exact ⟨g, rfl, h.below hb⟩
          | 17, hj => cases hj; exact hD.below hb
          | 18, hj => cases hj; exact hD
          | 19, hj => cases hj; exact hD
          | 20, hj => cases hj; exact hD
          | 21, hj => cases hj; exact hD
          | 22, hj => cases hj; exact hD
          | j + 23, hj => cases hj
        · refine ⟨[], by decide, fun vs w hl hR hd K hK => ?_⟩
          obtain ⟨v0, vs, rfl, hl1⟩ := len_succ hl
          obtain ⟨v1, vs, rfl, hl2⟩ := len_succ hl1
          obtain ⟨v2, vs, rfl, hl3⟩ := len_succ hl2
          obtain ⟨v3, vs, rfl, hl4⟩ := len_succ hl3
          obtain ⟨v4, vs, rfl, hl5⟩ := len_succ hl4
          obtain ⟨v5, vs, rfl, hl6⟩ := len_succ hl5
          obtain ⟨v6, vs, rfl, hl7⟩ := len_succ hl6
          obtain ⟨v7, vs, rfl, hl8⟩ := len_succ hl7
          obtain ⟨v8, vs, rfl, hl9⟩ := len_succ hl8
          obtain ⟨v9, vs, rfl, hl10⟩ := len_succ hl9
          obtain ⟨v10, vs, rfl, hl11⟩ := len_succ hl10
          obtain ⟨v11, vs, rfl, hl12⟩ := len_succ hl11
          obtain ⟨v12, vs, rfl, hl13⟩ := len_succ hl12
          obtain ⟨v13, vs, rfl, hl14⟩ := len_succ hl13
          obtain ⟨v14, vs, rfl, hl15⟩ := len_succ hl14
          obtain ⟨v15, vs, rfl, hl16⟩ := len_succ hl15
          obtain ⟨v16, vs, rfl, hl17⟩ := len_succ hl16
          obtain ⟨v17, vs, rfl, hl18⟩ := len_succ hl17
          obtain ⟨v18, vs, rfl, hl19⟩ := len_succ hl18
          obtain ⟨v19, vs, rfl, hl20⟩ := len_succ hl19
          obtain ⟨v20, vs, rfl, hl21⟩ := len_succ hl20
          obtain ⟨v21, vs, rfl, hl22⟩ := len_succ hl21
          obtain ⟨v22, vs, rfl, hl23⟩ := len_succ hl22
          obtain rfl := len_zero hl23
          clear hd hl hl1 hl2 hl3 hl4 hl5 hl6 hl7 hl8 hl9 hl10 hl11 hl12 hl13 hl14 hl15 hl16 hl17 hl18 hl19 hl20 hl21 hl22 hl23
          replace hK := hK.out
          simp only [puts, List.set_cons_zero, List.set_cons_succ, Act.put, List.setIfInBounds_toArray] at hK ⊢
          have hK' : Shut _ := hK
          clear hK
          obtain ⟨q0, q1, q2, q3, q4, q5, q6⟩ := HBX.out _ hR
          go_simp
          (try go_wp2_with fail)
          exact hK'.out _ _ (Below.refl _ _) (hR) (fun D hD => by cases hD; rfl)
        · refine ⟨[0], by decide, fun vs w hl hR hd K hK => ?_⟩
          obtain ⟨v0, vs, rfl, hl1⟩ := len_succ hl
          obtain ⟨v1, vs, rfl, hl2⟩ := len_succ hl1
          obtain ⟨v2, vs, rfl, hl3⟩ := len_succ hl2
          obtain ⟨v3, vs, rfl, hl4⟩ := len_succ hl3
          obtain ⟨v4, vs, rfl, hl5⟩ := len_succ hl4
          obtain ⟨v5, vs, rfl, hl6⟩ := len_succ hl5
          obtain ⟨v6, vs, rfl, hl7⟩ := len_succ hl6
          obtain ⟨v7, vs, rfl, hl8⟩ := len_succ hl7
          obtain ⟨v8, vs, rfl, hl9⟩ := len_succ hl8
          obtain ⟨v9, vs, rfl, hl10⟩ := len_succ hl9
          obtain ⟨v10, vs, rfl, hl11⟩ := len_succ hl10
          obtain ⟨v11, vs, rfl, hl12⟩ := len_succ hl11
          obtain ⟨v12, vs, rfl, hl13⟩ := len_succ hl12
          obtain ⟨v13, vs, rfl, hl14⟩ := len_succ hl13
          obtain ⟨v14, vs, rfl, hl15⟩ := len_succ hl14
          obtain ⟨v15, vs, rfl, hl16⟩ := len_succ hl15
          obtain ⟨v16, vs, rfl, hl17⟩ := len_succ hl16
          obtain ⟨v17, vs, rfl, hl18⟩ := len_succ hl17
          obtain ⟨v18, vs, rfl, hl19⟩ := len_succ hl18
          obtain ⟨v19, vs, rfl, hl20⟩ := len_succ hl19
          obtain ⟨v20, vs, rfl, hl21⟩ := len_succ hl20
          obtain ⟨v21, vs, rfl, hl22⟩ := len_succ hl21
          obtain ⟨v22, vs, rfl, hl23⟩ := len_succ hl22
          obtain rfl := len_zero hl23
          have dd := hd 0 (by simp) _ rfl; simp only [List.getD_cons_zero, List.getD_cons_succ] at dd; obtain rfl := dd
          clear hd hl hl1 hl2 hl3 hl4 hl5 hl6 hl7 hl8 hl9 hl10 hl11 hl12 hl13 hl14 hl15 hl16 hl17 hl18 hl19 hl20 hl21 hl22 hl23
          replace hK := hK.out
          simp only [puts, List.set_cons_zero, List.set_cons_succ, Act.put, List.setIfInBounds_toArray] at hK ⊢
          have hK' : Shut _ := hK
          clear hK
          go_simp
          go_at_call 15; (with_reducible refine (hrule_v (HFV.out _ hR)).mono ?_); rintro e w2 ⟨u, rfl, hr, hb⟩
          (try go_wp2_with fail)
          exact hK'.out _ _ (hb) (stepc hR (hb)) (fun D hD => by cases hD; exact hr)
        · refine ⟨[], by decide, fun vs w hl hR hd K hK => ?_⟩
          obtain ⟨v0, vs, rfl, hl1⟩ := len_succ hl
          obtain ⟨v1, vs, rfl, hl2⟩ := len_succ hl1
          obtain ⟨v2, vs, rfl, hl3⟩ := len_succ hl2
          obtain ⟨v3, vs, rfl, hl4⟩ := len_succ hl3
          obtain ⟨v4, vs, rfl, hl5⟩ := len_succ hl4
          obtain ⟨v5, vs, rfl, hl6⟩ := len_succ hl5
          obtain ⟨v6, vs, rfl, hl7⟩ := len_succ hl6
          obtain ⟨v7, vs, rfl, hl8⟩ := len_succ hl7
          obtain ⟨v8, vs, rfl, hl9⟩ := len_succ hl8
          obtain ⟨v9, vs, rfl, hl10⟩ := len_succ hl9
          obtain ⟨v10, vs, rfl, hl11⟩ := len_succ hl10
          obtain ⟨v11, vs, rfl, hl12⟩ := len_succ hl11
          obtain ⟨v12, vs, rfl, hl13⟩ := len_succ hl12
          obtain ⟨v13, vs, rfl, hl14⟩ := len_succ hl13
          obtain ⟨v14, vs, rfl, hl15⟩ := len_succ hl14
          obtain ⟨v15, vs, rfl, hl16⟩ := len_succ hl15
          obtain ⟨v16, vs, rfl, hl17⟩ := len_succ hl16
          obtain ⟨v17, vs, rfl, hl18⟩ := len_succ hl17
          obtain ⟨v18, vs, rfl, hl19⟩ := len_succ hl18
          obtain ⟨v19, vs, rfl, hl20⟩ := len_succ hl19
          obtain ⟨v20, vs, rfl, hl21⟩ := len_succ hl20
          obtain ⟨v21, vs, rfl, hl22⟩ := len_succ hl21
          obtain ⟨v22, vs, rfl, hl23⟩ := len_succ hl22
          obtain rfl := len_zero hl23
          clear hd hl hl1 hl2 hl3 hl4 hl5 hl6 hl7 hl8 hl9 hl10 hl11 hl12 hl13 hl14 hl15 hl16 hl17 hl18 hl19 hl20 hl21 hl22 hl23
          replace hK := hK.out
          simp only [puts, List.set_cons_zero, List.set_cons_succ, Act.put, List.setIfInBounds_toArray] at hK ⊢
          have hK' : Shut _ := hK
          clear hK
          go_simp
          (try go_wp2_with fail)
          exact hK'.out _ _ (Below.refl _ _) (hR) (fun D hD => by cases hD; rfl)
        · refine ⟨[2], by decide, fun vs w hl hR hd K hK => ?_⟩
          obtain ⟨v0, vs, rfl, hl1⟩ := len_succ hl
          obtain ⟨v1, vs, rfl, hl2⟩ := len_succ hl1
          obtain ⟨v2, vs, rfl, hl3⟩ := len_succ hl2
          obtain ⟨v3, vs, rfl, hl4⟩ := len_succ hl3
          obtain ⟨v4, vs, rfl, hl5⟩ := len_succ hl4
          obtain ⟨v5, vs, rfl, hl6⟩ := len_succ hl5
          obtain ⟨v6, vs, rfl, hl7⟩ := len_succ hl6
          obtain ⟨v7, vs, rfl, hl8⟩ := len_succ hl7
          obtain ⟨v8, vs, rfl, hl9⟩ := len_succ hl8
          obtain ⟨v9, vs, rfl, hl10⟩ := len_succ hl9
          obtain ⟨v10, vs, rfl, hl11⟩ := len_succ hl10
          obtain ⟨v11, vs, rfl, hl12⟩ := len_succ hl11
          obtain ⟨v12, vs, rfl, hl13⟩ := len_succ hl12
          obtain ⟨v13, vs, rfl, hl14⟩ := len_succ hl13
          obtain ⟨v14, vs, rfl, hl15⟩ := len_succ hl14
          obtain ⟨v15, vs, rfl, hl16⟩ := len_succ hl15
          obtain ⟨v16, vs, rfl, hl17⟩ := len_succ hl16
          obtain ⟨v17, vs, rfl, hl18⟩ := len_succ hl17
          obtain ⟨v18, vs, rfl, hl19⟩ := len_succ hl18
          obtain ⟨v19, vs, rfl, hl20⟩ := len_succ hl19
          obtain ⟨v20, vs, rfl, hl21⟩ := len_succ hl20
          obtain ⟨v21, vs, rfl, hl22⟩ := len_succ hl21
          obtain ⟨v22, vs, rfl, hl23⟩ := len_succ hl22
          obtain rfl := len_zero hl23
          have dd := hd 2 (by simp) _ rfl; simp only [List.getD_cons_zero, List.getD_cons_succ] at dd; obtain rfl := dd
          clear hd hl hl1 hl2 hl3 hl4 hl5 hl6 hl7 hl8 hl9 hl10 hl11 hl12 hl13 hl14 hl15 hl16 hl17 hl18 hl19 hl20 hl21 hl22 hl23
          replace hK := hK.out
          simp only [puts, List.set_cons_zero, List.set_cons_succ, Act.put, List.setIfInBounds_toArray] at hK ⊢
          have hK' : Shut _ := hK
          clear hK
          have q0 := (HQT.out _ hR).1
          go_simp
          (try go_wp2_with fail)
          exact hK'.out _ _ (Below.refl _ _) (hR) (fun D hD => by cases hD; rfl)
        · refine ⟨[], by decide, fun vs w hl hR hd K hK => ?_⟩
          obtain ⟨v0, vs, rfl, hl1⟩ := len_succ hl
          obtain ⟨v1, vs, rfl, hl2⟩ := len_succ hl1
          obtain ⟨v2, vs, rfl, hl3⟩ := len_succ hl2
          obtain ⟨v3, vs, rfl, hl4⟩ := len_succ hl3
          obtain ⟨v4, vs, rfl, hl5⟩ := len_succ hl4
          obtain ⟨v5, vs, rfl, hl6⟩ := len_succ hl5
          obtain ⟨v6, vs, rfl, hl7⟩ := len_succ hl6
          obtain ⟨v7, vs, rfl, hl8⟩ := len_succ hl7
          obtain ⟨v8, vs, rfl, hl9⟩ := len_succ hl8
          obtain ⟨v9, vs, rfl, hl10⟩ := len_succ hl9
          obtain ⟨v10, vs, rfl, hl11⟩ := len_succ hl10
          obtain ⟨v11, vs, rfl, hl12⟩ := len_succ hl11
          obtain ⟨v12, vs, rfl, hl13⟩ := len_succ hl12
          obtain ⟨v13, vs, rfl, hl14⟩ := len_succ hl13
          obtain ⟨v14, vs, rfl, hl15⟩ := len_succ hl14
          obtain ⟨v15, vs, rfl, hl16⟩ := len_succ hl15
          obtain ⟨v16, vs, rfl, hl17⟩ := len_succ hl16
          obtain ⟨v17, vs, rfl, hl18⟩ := len_succ hl17
          obtain ⟨v18, vs, rfl, hl19⟩ := len_succ hl18
          obtain ⟨v19, vs, rfl, hl20⟩ := len_succ hl19
          obtain ⟨v20, vs, rfl, hl21⟩ := len_succ hl20
          obtain ⟨v21, vs, rfl, hl22⟩ := len_succ hl21
          obtain ⟨v22, vs, rfl, hl23⟩ := len_succ hl22
          obtain rfl := len_zero hl23
          clear hd hl hl1 hl2 hl3 hl4 hl5 hl6 hl7 hl8 hl9 hl10 hl11 hl12 hl13 hl14 hl15 hl16 hl17 hl18 hl19 hl20 hl21 hl22 hl23
          replace hK := hK.out
          simp only [puts, List.set_cons_zero, List.set_cons_succ, Act.put, List.setIfInBounds_toArray] at hK ⊢
          have hK' : Shut _ := hK
          clear hK
          go_simp
          (try go_wp2_with fail)
          exact hK'.out _ _ (Below.refl _ _) (hR) (fun D hD => by cases hD; rfl)
        · refine ⟨[4], by decide, fun vs w hl hR hd K hK => ?_⟩
          obtain ⟨v0, vs, rfl, hl1⟩ := len_succ hl
          obtain ⟨v1, vs, rfl, hl2⟩ := len_succ hl1
          obtain ⟨v2, vs, rfl, hl3⟩ := len_succ hl2
          obtain ⟨v3, vs, rfl, hl4⟩ := len_succ hl3
          obtain ⟨v4, vs, rfl, hl5⟩ := len_succ hl4
          obtain ⟨v5, vs, rfl, hl6⟩ := len_succ hl5
          obtain ⟨v6, vs, rfl, hl7⟩ := len_succ hl6
          obtain ⟨v7, vs, rfl, hl8⟩ := len_succ hl7
          obtain ⟨v8, vs, rfl, hl9⟩ := len_succ hl8
          obtain ⟨v9, vs, rfl, hl10⟩ := len_succ hl9
          obtain ⟨v10, vs, rfl, hl11⟩ := len_succ hl10
          obtain ⟨v11, vs, rfl, hl12⟩ := len_succ hl11
          obtain ⟨v12, vs, rfl, hl13⟩ := len_succ hl12
          obtain ⟨v13, vs, rfl, hl14⟩ := len_succ hl13
          obtain ⟨v14, vs, rfl, hl15⟩ := len_succ hl14
          obtain ⟨v15, vs, rfl, hl16⟩ := len_succ hl15
          obtain ⟨v16, vs, rfl, hl17⟩ := len_succ hl16
          obtain ⟨v17, vs, rfl, hl18⟩ := len_succ hl17
          obtain ⟨v18, vs, rfl, hl19⟩ := len_succ hl18
          obtain ⟨v19, vs, rfl, hl20⟩ := len_succ hl19
          obtain ⟨v20, vs, rfl, hl21⟩ := len_succ hl20
          obtain ⟨v21, vs, rfl, hl22⟩ := len_succ hl21
          obtain ⟨v22, vs, rfl, hl23⟩ := len_succ hl22
          obtain rfl := len_zero hl23
          have dd := hd 4 (by simp) _ rfl; simp only [List.getD_cons_zero, List.getD_cons_succ] at dd; obtain rfl := dd
          clear hd hl hl1 hl2 hl3 hl4 hl5 hl6 hl7 hl8 hl9 hl10 hl11 hl12 hl13 hl14 hl15 hl16 hl17 hl18 hl19 hl20 hl21 hl22 hl23
          replace hK := hK.out
          simp only [puts, List.set_cons_zero, List.set_cons_succ, Act.put, List.setIfInBounds_toArray] at hK ⊢
          have hK' : Shut _ := hK
          clear hK
          go_simp
          go_at_call 20; (with_reducible refine (mset_v adm HADM.out _).mono ?_); rintro e w2 ⟨u, rfl, hr, hb⟩
          (try go_wp2_with fail)
          exact hK'.out _ _ (hb) (stepc hR (hb)) (fun D hD => by cases hD; exact hr)
        · refine ⟨[3, 1, 5], by decide, fun vs w hl hR hd K hK => ?_⟩
          obtain ⟨v0, vs, rfl, hl1⟩ := len_succ hl
          obtain ⟨v1, vs, rfl, hl2⟩ := len_succ hl1
          obtain ⟨v2, vs, rfl, hl3⟩ := len_succ hl2
          obtain ⟨v3, vs, rfl, hl4⟩ := len_succ hl3
          obtain ⟨v4, vs, rfl, hl5⟩ := len_succ hl4
          obtain ⟨v5, vs, rfl, hl6⟩ := len_succ hl5
          obtain ⟨v6, vs, rfl, hl7⟩ := len_succ hl6
          obtain ⟨v7, vs, rfl, hl8⟩ := len_succ hl7
          obtain ⟨v8, vs, rfl, hl9⟩ := len_succ hl8
          obtain ⟨v9, vs, rfl, hl10⟩ := len_succ hl9
          obtain ⟨v10, vs, rfl, hl11⟩ := len_succ hl10
          obtain ⟨v11, vs, rfl, hl12⟩ := len_succ hl11
          obtain ⟨v12, vs, rfl, hl13⟩ := len_succ hl12
          obtain ⟨v13, vs, rfl, hl14⟩ := len_succ hl13
          obtain ⟨v14, vs, rfl, hl15⟩ := len_succ hl14
          obtain ⟨v15, vs, rfl, hl16⟩ := len_succ hl15
          obtain ⟨v16, vs, rfl, hl17⟩ := len_succ hl16
          obtain ⟨v17, vs, rfl, hl18⟩ := len_succ hl17
          obtain ⟨v18, vs, rfl, hl19⟩ := len_succ hl18
          obtain ⟨v19, vs, rfl, hl20⟩ := len_succ hl19
          obtain ⟨v20, vs, rfl, hl21⟩ := len_succ hl20
          obtain ⟨v21, vs, rfl, hl22⟩ := len_succ hl21
          obtain ⟨v22, vs, rfl, hl23⟩ := len_succ hl22
          obtain rfl := len_zero hl23
          have dd := hd 3 (by simp) _ rfl; simp only [List.getD_cons_zero, List.getD_cons_succ] at dd; obtain rfl := dd
          have dd := hd 1 (by simp) _ rfl; simp only [List.getD_cons_zero, List.getD_cons_succ] at dd; have r1 := dd; clear dd
          have dd := hd 5 (by simp) _ rfl; simp only [List.getD_cons_zero, List.getD_cons_succ] at dd; have r5 := dd; clear dd
          clear hd hl hl1 hl2 hl3 hl4 hl5 hl6 hl7 hl8 hl9 hl10 hl11 hl12 hl13 hl14 hl15 hl16 hl17 hl18 hl19 hl20 hl21 hl22 hl23
          replace hK := hK.out
          simp only [puts, List.set_cons_zero, List.set_cons_succ, Act.put, List.setIfInBounds_toArray] at hK ⊢
          have hK' : Shut _ := hK
          clear hK
          go_simp
          go_at_call 34; (with_reducible refine (check_v s0 r1 r5 EXf.out).mono ?_); rintro e w2 ⟨rfl, hb⟩
          (try go_wp2_with fail)
          exact hK'.out _ _ (hb) (stepc hR (hb)) (fun D hD => by cases hD; rfl)
        · refine ⟨[], by decide, fun vs w hl hR hd K hK => ?_⟩
          obtain ⟨v0, vs, rfl, hl1⟩ := len_succ hl
          obtain ⟨v1, vs, rfl, hl2⟩ := len_succ hl1
          obtain ⟨v2, vs, rfl, hl3⟩ := len_succ hl2
          obtain ⟨v3, vs, rfl, hl4⟩ := len_succ hl3
          obtain ⟨v4, vs, rfl, hl5⟩ := len_succ hl4
          obtain ⟨v5, vs, rfl, hl6⟩ := len_succ hl5
          obtain ⟨v6, vs, rfl, hl7⟩ := len_succ hl6
          obtain ⟨v7, vs, rfl, hl8⟩ := len_succ hl7
          obtain ⟨v8, vs, rfl, hl9⟩ := len_succ hl8
          obtain ⟨v9, vs, rfl, hl10⟩ := len_succ hl9
          obtain ⟨v10, vs, rfl, hl11⟩ := len_succ hl10
          obtain ⟨v11, vs, rfl, hl12⟩ := len_succ hl11
          obtain ⟨v12, vs, rfl, hl13⟩ := len_succ hl12
          obtain ⟨v13, vs, rfl, hl14⟩ := len_succ hl13
          obtain ⟨v14, vs, rfl, hl15⟩ := len_succ hl14
          obtain ⟨v15, vs, rfl, hl16⟩ := len_succ hl15
          obtain ⟨v16, vs, rfl, hl17⟩ := len_succ hl16
          obtain ⟨v17, vs, rfl, hl18⟩ := len_succ hl17
          obtain ⟨v18, vs, rfl, hl19⟩ := len_succ hl18
          obtain ⟨v19, vs, rfl, hl20⟩ := len_succ hl19
          obtain ⟨v20, vs, rfl, hl21⟩ := len_succ hl20
          obtain ⟨v21, vs, rfl, hl22⟩ := len_succ hl21
          obtain ⟨v22, vs, rfl, hl23⟩ := len_succ hl22
          obtain rfl := len_zero hl23
          clear hd hl hl1 hl2 hl3 hl4 hl5 hl6 hl7 hl8 hl9 hl10 hl11 hl12 hl13 hl14 hl15 hl16 hl17 hl18 hl19 hl20 hl21 hl22 hl23
          replace hK := hK.out
          simp only [puts, List.set_cons_zero, List.set_cons_succ, Act.put, List.setIfInBounds_toArray] at hK ⊢
          have hK' : Shut _ := hK
          clear hK
          obtain ⟨q0, q1, q2, q3, q4, q5, q6⟩ := HBX.out _ hR
          go_simp
          (try go_wp2_with fail)
          exact hK'.out _ _ (Below.refl _ _) (hR) (fun D hD => by cases hD; rfl)
        · refine ⟨[], by decide, fun vs w hl hR hd K hK => ?_⟩
          obtain ⟨v0, vs, rfl, hl1⟩ := len_succ hl
          obtain ⟨v1, vs, rfl, hl2⟩ := len_succ hl1
          obtain ⟨v2, vs, rfl, hl3⟩ := len_succ hl2
          obtain ⟨v3, vs, rfl, hl4⟩ := len_succ hl3
          obtain ⟨v4, vs, rfl, hl5⟩ := len_succ hl4
          obtain ⟨v5, vs, rfl, hl6⟩ := len_succ hl5
          obtain ⟨v6, vs, rfl, hl7⟩ := len_succ hl6
          obtain ⟨v7, vs, rfl, hl8⟩ := len_succ hl7
          obtain ⟨v8, vs, rfl, hl9⟩ := len_succ hl8
          obtain ⟨v9, vs, rfl, hl10⟩ := len_succ hl9
          obtain ⟨v10, vs, rfl, hl11⟩ := len_succ hl10
          obtain ⟨v11, vs, rfl, hl12⟩ := len_succ hl11
          obtain ⟨v12, vs, rfl, hl13⟩ := len_succ hl12
          obtain ⟨v13, vs, rfl, hl14⟩ := len_succ hl13
          obtain ⟨v14, vs, rfl, hl15⟩ := len_succ hl14
          obtain ⟨v15, vs, rfl, hl16⟩ := len_succ hl15
          obtain ⟨v16, vs, rfl, hl17⟩ := len_succ hl16
          obtain ⟨v17, vs, rfl, hl18⟩ := len_succ hl17
          obtain ⟨v18, vs, rfl, hl19⟩ := len_succ hl18
          obtain ⟨v19, vs, rfl, hl20⟩ := len_succ hl19
          obtain ⟨v20, vs, rfl, hl21⟩ := len_succ hl20
          obtain ⟨v21, vs, rfl, hl22⟩ := len_succ hl21
          obtain ⟨v22, vs, rfl, hl23⟩ := len_succ hl22
          obtain rfl := len_zero hl23
          clear hd hl hl1 hl2 hl3 hl4 hl5 hl6 hl7 hl8 hl9 hl10 hl11 hl12 hl13 hl14 hl15 hl16 hl17 hl18 hl19 hl20 hl21 hl22 hl23
          replace hK := hK.out
          simp only [puts, List.set_cons_zero, List.set_cons_succ, Act.put, List.setIfInBounds_toArray] at hK ⊢
          have hK' : Shut _ := hK
          clear hK
          go_simp
          (try go_wp2_with fail)
          exact hK'.out _ _ (Below.refl _ _) (hR) (fun D hD => by cases hD; rfl)
        · refine ⟨[8], by decide, fun vs w hl hR hd K hK => ?_⟩
          obtain ⟨v0, vs, rfl, hl1⟩ := len_succ hl
          obtain ⟨v1, vs, rfl, hl2⟩ := len_succ hl1
          obtain ⟨v2, vs, rfl, hl3⟩ := len_succ hl2
          obtain ⟨v3, vs, rfl, hl4⟩ := len_succ hl3
          obtain ⟨v4, vs, rfl, hl5⟩ := len_succ hl4
          obtain ⟨v5, vs, rfl, hl6⟩ := len_succ hl5
          obtain ⟨v6, vs, rfl, hl7⟩ := len_succ hl6
          obtain ⟨v7, vs, rfl, hl8⟩ := len_succ hl7
          obtain ⟨v8, vs, rfl, hl9⟩ := len_succ hl8
          obtain ⟨v9, vs, rfl, hl10⟩ := len_succ hl9
          obtain ⟨v10, vs, rfl, hl11⟩ := len_succ hl10
          obtain ⟨v11, vs, rfl, hl12⟩ := len_succ hl11
          obtain ⟨v12, vs, rfl, hl13⟩ := len_succ hl12
          obtain ⟨v13, vs, rfl, hl14⟩ := len_succ hl13
          obtain ⟨v14, vs, rfl, hl15⟩ := len_succ hl14
          obtain ⟨v15, vs, rfl, hl16⟩ := len_succ hl15
          obtain ⟨v16, vs, rfl, hl17⟩ := len_succ hl16
          obtain ⟨v17, vs, rfl, hl18⟩ := len_succ hl17
          obtain ⟨v18, vs, rfl, hl19⟩ := len_succ hl18
          obtain ⟨v19, vs, rfl, hl20⟩ := len_succ hl19
          obtain ⟨v20, vs, rfl, hl21⟩ := len_succ hl20
          obtain ⟨v21, vs, rfl, hl22⟩ := len_succ hl21
          obtain ⟨v22, vs, rfl, hl23⟩ := len_succ hl22
          obtain rfl := len_zero hl23
          have dd := hd 8 (by simp) _ rfl; simp only [List.getD_cons_zero, List.getD_cons_succ] at dd; obtain rfl := dd
          clear hd hl hl1 hl2 hl3 hl4 hl5 hl6 hl7 hl8 hl9 hl10 hl11 hl12 hl13 hl14 hl15 hl16 hl17 hl18 hl19 hl20 hl21 hl22 hl23
          replace hK := hK.out
          simp only [puts, List.set_cons_zero, List.set_cons_succ, Act.put, List.setIfInBounds_toArray] at hK ⊢
          have hK' : Shut _ := hK
          clear hK
          have q0 := (HQT.out _ hR).1
          go_simp
          (try go_wp2_with fail)
          exact hK'.out _ _ (Below.refl _ _) (hR) (fun D hD => by cases hD; rfl)
        · refine ⟨[], by decide, fun vs w hl hR hd K hK => ?_⟩
          obtain ⟨v0, vs, rfl, hl1⟩ := len_succ hl
          obtain ⟨v1, vs, rfl, hl2⟩ := len_succ hl1
          obtain ⟨v2, vs, rfl, hl3⟩ := len_succ hl2
          obtain ⟨v3, vs, rfl, hl4⟩ := len_succ hl3
          obtain ⟨v4, vs, rfl, hl5⟩ := len_succ hl4
          obtain ⟨v5, vs, rfl, hl6⟩ := len_succ hl5
          obtain ⟨v6, vs, rfl, hl7⟩ := len_succ hl6
          obtain ⟨v7, vs, rfl, hl8⟩ := len_succ hl7
          obtain ⟨v8, vs, rfl, hl9⟩ := len_succ hl8
          obtain ⟨v9, vs, rfl, hl10⟩ := len_succ hl9
          obtain ⟨v10, vs, rfl, hl11⟩ := len_succ hl10
          obtain ⟨v11, vs, rfl, hl12⟩ := len_succ hl11
          obtain ⟨v12, vs, rfl, hl13⟩ := len_succ hl12
          obtain ⟨v13, vs, rfl, hl14⟩ := len_succ hl13
          obtain ⟨v14, vs, rfl, hl15⟩ := len_succ hl14
          obtain ⟨v15, vs, rfl, hl16⟩ := len_succ hl15
          obtain ⟨v16, vs, rfl, hl17⟩ := len_succ hl16
          obtain ⟨v17, vs, rfl, hl18⟩ := len_succ hl17
          obtain ⟨v18, vs, rfl, hl19⟩ := len_succ hl18
          obtain ⟨v19, vs, rfl, hl20⟩ := len_succ hl19
          obtain ⟨v20, vs, rfl, hl21⟩ := len_succ hl20
          obtain ⟨v21, vs, rfl, hl22⟩ := len_succ hl21
          obtain ⟨v22, vs, rfl, hl23⟩ := len_succ hl22
          obtain rfl := len_zero hl23
          clear hd hl hl1 hl2 hl3 hl4 hl5 hl6 hl7 hl8 hl9 hl10 hl11 hl12 hl13 hl14 hl15 hl16 hl17 hl18 hl19 hl20 hl21 hl22 hl23
          replace hK := hK.out
          simp only [puts, List.set_cons_zero, List.set_cons_succ, Act.put, List.setIfInBounds_toArray] at hK ⊢
          have hK' : Shut _ := hK
          clear hK
          go_simp
          (try go_wp2_with fail)
          exact hK'.out _ _ (Below.refl _ _) (hR) (fun D hD => by cases hD; rfl)
        · refine ⟨[7, 9, 10], by decide, fun vs w hl hR hd K hK => ?_⟩
          obtain ⟨v0, vs, rfl, hl1⟩ := len_succ hl
          obtain ⟨v1, vs, rfl, hl2⟩ := len_succ hl1
          obtain ⟨v2, vs, rfl, hl3⟩ := len_succ hl2
          obtain ⟨v3, vs, rfl, hl4⟩ := len_succ hl3
          obtain ⟨v4, vs, rfl, hl5⟩ := len_succ hl4
          obtain ⟨v5, vs, rfl, hl6⟩ := len_succ hl5
          obtain ⟨v6, vs, rfl, hl7⟩ := len_succ hl6
          obtain ⟨v7, vs, rfl, hl8⟩ := len_succ hl7
          obtain ⟨v8, vs, rfl, hl9⟩ := len_succ hl8
          obtain ⟨v9, vs, rfl, hl10⟩ := len_succ hl9
          obtain ⟨v10, vs, rfl, hl11⟩ := len_succ hl10
          obtain ⟨v11, vs, rfl, hl12⟩ := len_succ hl11
          obtain ⟨v12, vs, rfl, hl13⟩ := len_succ hl12
          obtain ⟨v13, vs, rfl, hl14⟩ := len_succ hl13
          obtain ⟨v14, vs, rfl, hl15⟩ := len_succ hl14
          obtain ⟨v15, vs, rfl, hl16⟩ := len_succ hl15
          obtain ⟨v16, vs, rfl, hl17⟩ := len_succ hl16
          obtain ⟨v17, vs, rfl, hl18⟩ := len_succ hl17
          obtain ⟨v18, vs, rfl, hl19⟩ := len_succ hl18
          obtain ⟨v19, vs, rfl, hl20⟩ := len_succ hl19
          obtain ⟨v20, vs, rfl, hl21⟩ := len_succ hl20
          obtain ⟨v21, vs, rfl, hl22⟩ := len_succ hl21
          obtain ⟨v22, vs, rfl, hl23⟩ := len_succ hl22
          obtain rfl := len_zero hl23
          have dd := hd 7 (by simp) _ rfl; simp only [List.getD_cons_zero, List.getD_cons_succ] at dd; obtain rfl := dd
          have dd := hd 9 (by simp) _ rfl; simp only [List.getD_cons_zero, List.getD_cons_succ] at dd; obtain rfl := dd
          have dd := hd 10 (by simp) _ rfl; simp only [List.getD_cons_zero, List.getD_cons_succ] at dd; obtain rfl := dd
          clear hd hl hl1 hl2 hl3 hl4 hl5 hl6 hl7 hl8 hl9 hl10 hl11 hl12 hl13 hl14 hl15 hl16 hl17 hl18 hl19 hl20 hl21 hl22 hl23
          replace hK := hK.out
          simp only [puts, List.set_cons_zero, List.set_cons_succ, Act.put, List.setIfInBounds_toArray] at hK ⊢
          have hK' : Shut _ := hK
          clear hK
          go_simp
          go_at_call 35; (with_reducible refine (rcheck_v s0 adm (HFV.out _ hR) HADM.out EFXf.out).mono ?_); rintro e w2 ⟨rfl, hb⟩
          (try go_wp2_with fail)
          exact hK'.out _ _ (hb) (stepc hR (hb)) (fun D hD => by cases hD; rfl)
        · refine ⟨[6, 11], by decide, fun vs w hl hR hd K hK => ?_⟩
          obtain ⟨v0, vs, rfl, hl1⟩ := len_succ hl
          obtain ⟨v1, vs, rfl, hl2⟩ := len_succ hl1
          obtain ⟨v2, vs, rfl, hl3⟩ := len_succ hl2
          obtain ⟨v3, vs, rfl, hl4⟩ := len_succ hl3
          obtain ⟨v4, vs, rfl, hl5⟩ := len_succ hl4
          obtain ⟨v5, vs, rfl, hl6⟩ := len_succ hl5
          obtain ⟨v6, vs, rfl, hl7⟩ := len_succ hl6
          obtain ⟨v7, vs, rfl, hl8⟩ := len_succ hl7
          obtain ⟨v8, vs, rfl, hl9⟩ := len_succ hl8
          obtain ⟨v9, vs, rfl, hl10⟩ := len_succ hl9
          obtain ⟨v10, vs, rfl, hl11⟩ := len_succ hl10
          obtain ⟨v11, vs, rfl, hl12⟩ := len_succ hl11
          obtain ⟨v12, vs, rfl, hl13⟩ := len_succ hl12
          obtain ⟨v13, vs, rfl, hl14⟩ := len_succ hl13
          obtain ⟨v14, vs, rfl, hl15⟩ := len_succ hl14
          obtain ⟨v15, vs, rfl, hl16⟩ := len_succ hl15
          obtain ⟨v16, vs, rfl, hl17⟩ := len_succ hl16
          obtain ⟨v17, vs, rfl, hl18⟩ := len_succ hl17
          obtain ⟨v18, vs, rfl, hl19⟩ := len_succ hl18
          obtain ⟨v19, vs, rfl, hl20⟩ := len_succ hl19
          obtain ⟨v20, vs, rfl, hl21⟩ := len_succ hl20
          obtain ⟨v21, vs, rfl, hl22⟩ := len_succ hl21
          obtain ⟨v22, vs, rfl, hl23⟩ := len_succ hl22
          obtain rfl := len_zero hl23
          have dd := hd 6 (by simp) _ rfl; simp only [List.getD_cons_zero, List.getD_cons_succ] at dd; obtain rfl := dd
          have dd := hd 11 (by simp) _ rfl; simp only [List.getD_cons_zero, List.getD_cons_succ] at dd; obtain rfl := dd
          clear hd hl hl1 hl2 hl3 hl4 hl5 hl6 hl7 hl8 hl9 hl10 hl11 hl12 hl13 hl14 hl15 hl16 hl17 hl18 hl19 hl20 hl21 hl22 hl23
          replace hK := hK.out
          simp only [puts, List.set_cons_zero, List.set_cons_succ, Act.put, List.setIfInBounds_toArray] at hK ⊢
          have hK' : Shut _ := hK
          clear hK
          go_simp
          (try go_wp2_with fail)
          exact hK'.out _ _ (Below.refl _ _) (hR) (fun D hD => by cases hD; rfl)
        · refine ⟨[12], by decide, fun vs w hl hR hd K hK => ?_⟩
          obtain ⟨v0, vs, rfl, hl1⟩ := len_succ hl
          obtain ⟨v1, vs, rfl, hl2⟩ := len_succ hl1
          obtain ⟨v2, vs, rfl, hl3⟩ := len_succ hl2
          obtain ⟨v3, vs, rfl, hl4⟩ := len_succ hl3
          obtain ⟨v4, vs, rfl, hl5⟩ := len_succ hl4
          obtain ⟨v5, vs, rfl, hl6⟩ := len_succ hl5
          obtain ⟨v6, vs, rfl, hl7⟩ := len_succ hl6
          obtain ⟨v7, vs, rfl, hl8⟩ := len_succ hl7
          obtain ⟨v8, vs, rfl, hl9⟩ := len_succ hl8
          obtain ⟨v9, vs, rfl, hl10⟩ := len_succ hl9
          obtain ⟨v10, vs, rfl, hl11⟩ := len_succ hl10
          obtain ⟨v11, vs, rfl, hl12⟩ := len_succ hl11
          obtain ⟨v12, vs, rfl, hl13⟩ := len_succ hl12
          obtain ⟨v13, vs, rfl, hl14⟩ := len_succ hl13
          obtain ⟨v14, vs, rfl, hl15⟩ := len_succ hl14
          obtain ⟨v15, vs, rfl, hl16⟩ := len_succ hl15
          obtain ⟨v16, vs, rfl, hl17⟩ := len_succ hl16
          obtain ⟨v17, vs, rfl, hl18⟩ := len_succ hl17
          obtain ⟨v18, vs, rfl, hl19⟩ := len_succ hl18
          obtain ⟨v19, vs, rfl, hl20⟩ := len_succ hl19
          obtain ⟨v20, vs, rfl, hl21⟩ := len_succ hl20
          obtain ⟨v21, vs, rfl, hl22⟩ := len_succ hl21
          obtain ⟨v22, vs, rfl, hl23⟩ := len_succ hl22
          obtain rfl := len_zero hl23
          have dd := hd 12 (by simp) _ rfl; simp only [List.getD_cons_zero, List.getD_cons_succ] at dd; obtain rfl := dd
          clear hd hl hl1 hl2 hl3 hl4 hl5 hl6 hl7 hl8 hl9 hl10 hl11 hl12 hl13 hl14 hl15 hl16 hl17 hl18 hl19 hl20 hl21 hl22 hl23
          replace hK := hK.out
          simp only [puts, List.set_cons_zero, List.set_cons_succ, Act.put, List.setIfInBounds_toArray] at hK ⊢
          have hK' : Shut _ := hK
          clear hK
          go_simp
          (try go_wp2_with fail)
          exact hK'.out _ _ (Below.refl _ _) (hR) (fun D hD => by cases hD; rfl)
        · refine ⟨[13], by decide, fun vs w hl hR hd K hK => ?_⟩
          obtain ⟨v0, vs, rfl, hl1⟩ := len_succ hl
          obtain ⟨v1, vs, rfl, hl2⟩ := len_succ hl1
          obtain ⟨v2, vs, rfl, hl3⟩ := len_succ hl2
          obtain ⟨v3, vs, rfl, hl4⟩ := len_succ hl3
          obtain ⟨v4, vs, rfl, hl5⟩ := len_succ hl4
          obtain ⟨v5, vs, rfl, hl6⟩ := len_succ hl5
          obtain ⟨v6, vs, rfl, hl7⟩ := len_succ hl6
          obtain ⟨v7, vs, rfl, hl8⟩ := len_succ hl7
          obtain ⟨v8, vs, rfl, hl9⟩ := len_succ hl8
          obtain ⟨v9, vs, rfl, hl10⟩ := len_succ hl9
          obtain ⟨v10, vs, rfl, hl11⟩ := len_succ hl10
          obtain ⟨v11, vs, rfl, hl12⟩ := len_succ hl11
          obtain ⟨v12, vs, rfl, hl13⟩ := len_succ hl12
          obtain ⟨v13, vs, rfl, hl14⟩ := len_succ hl13
          obtain ⟨v14, vs, rfl, hl15⟩ := len_succ hl14
          obtain ⟨v15, vs, rfl, hl16⟩ := len_succ hl15
          obtain ⟨v16, vs, rfl, hl17⟩ := len_succ hl16
          obtain ⟨v17, vs, rfl, hl18⟩ := len_succ hl17
          obtain ⟨v18, vs, rfl, hl19⟩ := len_succ hl18
          obtain ⟨v19, vs, rfl, hl20⟩ := len_succ hl19
          obtain ⟨v20, vs, rfl, hl21⟩ := len_succ hl20
          obtain ⟨v21, vs, rfl, hl22⟩ := len_succ hl21
          obtain ⟨v22, vs, rfl, hl23⟩ := len_succ hl22
          obtain rfl := len_zero hl23
          have dd := hd 13 (by simp) _ rfl; simp only [List.getD_cons_zero, List.getD_cons_succ] at dd; obtain rfl := dd
          clear hd hl hl1 hl2 hl3 hl4 hl5 hl6 hl7 hl8 hl9 hl10 hl11 hl12 hl13 hl14 hl15 hl16 hl17 hl18 hl19 hl20 hl21 hl22 hl23
          replace hK := hK.out
          simp only [puts, List.set_cons_zero, List.set_cons_succ, Act.put, List.setIfInBounds_toArray] at hK ⊢
          have hK' : Shut _ := hK
          clear hK
          obtain ⟨q0, q1, q2, q3, q4, q5, q6⟩ := HBX.out _ hR
          go_simp
          (try go_wp2_with fail)
          exact hK'.out _ _ (Below.refl _ _) (hR) (fun D hD => by cases hD; rfl)
        · refine ⟨[14, 13], by decide, fun vs w hl hR hd K hK => ?_⟩
          obtain ⟨v0, vs, rfl, hl1⟩ := len_succ hl
          obtain ⟨v1, vs, rfl, hl2⟩ := len_succ hl1
          obtain ⟨v2, vs, rfl, hl3⟩ := len_succ hl2
          obtain ⟨v3, vs, rfl, hl4⟩ := len_succ hl3
          obtain ⟨v4, vs, rfl, hl5⟩ := len_succ hl4
          obtain ⟨v5, vs, rfl, hl6⟩ := len_succ hl5
          obtain ⟨v6, vs, rfl, hl7⟩ := len_succ hl6
          obtain ⟨v7, vs, rfl, hl8⟩ := len_succ hl7
          obtain ⟨v8, vs, rfl, hl9⟩ := len_succ hl8
          obtain ⟨v9, vs, rfl, hl10⟩ := len_succ hl9
          obtain ⟨v10, vs, rfl, hl11⟩ := len_succ hl10
          obtain ⟨v11, vs, rfl, hl12⟩ := len_succ hl11
          obtain ⟨v12, vs, rfl, hl13⟩ := len_succ hl12
          obtain ⟨v13, vs, rfl, hl14⟩ := len_succ hl13
          obtain ⟨v14, vs, rfl, hl15⟩ := len_succ hl14
          obtain ⟨v15, vs, rfl, hl16⟩ := len_succ hl15
          obtain ⟨v16, vs, rfl, hl17⟩ := len_succ hl16
          obtain ⟨v17, vs, rfl, hl18⟩ := len_succ hl17
          obtain ⟨v18, vs, rfl, hl19⟩ := len_succ hl18
          obtain ⟨v19, vs, rfl, hl20⟩ := len_succ hl19
          obtain ⟨v20, vs, rfl, hl21⟩ := len_succ hl20
          obtain ⟨v21, vs, rfl, hl22⟩ := len_succ hl21
          obtain ⟨v22, vs, rfl, hl23⟩ := len_succ hl22
          obtain rfl := len_zero hl23
          have dd := hd 14 (by simp) _ rfl; simp only [List.getD_cons_zero, List.getD_cons_succ] at dd; obtain rfl := dd
          have dd := hd 13 (by simp) _ rfl; simp only [List.getD_cons_zero, List.getD_cons_succ] at dd; obtain rfl := dd
          clear hd hl hl1 hl2 hl3 hl4 hl5 hl6 hl7 hl8 hl9 hl10 hl11 hl12 hl13 hl14 hl15 hl16 hl17 hl18 hl19 hl20 hl21 hl22 hl23
          replace hK := hK.out
          simp only [puts, List.set_cons_zero, List.set_cons_succ, Act.put, List.setIfInBounds_toArray] at hK ⊢
          have hK' : Shut _ := hK
          clear hK
          go_simp
          go_at_call 15; (with_reducible refine (hrule_v (HFV.out _ hR)).mono ?_); rintro e w2 ⟨u, rfl, hr, hb⟩
          (try go_wp2_with fail)
          exact hK'.out _ _ (hb) (stepc hR (hb)) (fun D hD => by cases hD; exact hr)
        · refine ⟨[13], by decide, fun vs w hl hR hd K hK => ?_⟩
          obtain ⟨v0, vs, rfl, hl1⟩ := len_succ hl
          obtain ⟨v1, vs, rfl, hl2⟩ := len_succ hl1
          obtain ⟨v2, vs, rfl, hl3⟩ := len_succ hl2
          obtain ⟨v3, vs, rfl, hl4⟩ := len_succ hl3
          obtain ⟨v4, vs, rfl, hl5⟩ := len_succ hl4
          obtain ⟨v5, vs, rfl, hl6⟩ := len_succ hl5
          obtain ⟨v6, vs, rfl, hl7⟩ := len_succ hl6
          obtain ⟨v7, vs, rfl, hl8⟩ := len_succ hl7
          obtain ⟨v8, vs, rfl, hl9⟩ := len_succ hl8
          obtain ⟨v9, vs, rfl, hl10⟩ := len_succ hl9
          obtain ⟨v10, vs, rfl, hl11⟩ := len_succ hl10
          obtain ⟨v11, vs, rfl, hl12⟩ := len_succ hl11
          obtain ⟨v12, vs, rfl, hl13⟩ := len_succ hl12
          obtain ⟨v13, vs, rfl, hl14⟩ := len_succ hl13
          obtain ⟨v14, vs, rfl, hl15⟩ := len_succ hl14
          obtain ⟨v15, vs, rfl, hl16⟩ := len_succ hl15
          obtain ⟨v16, vs, rfl, hl17⟩ := len_succ hl16
          obtain ⟨v17, vs, rfl, hl18⟩ := len_succ hl17
          obtain ⟨v18, vs, rfl, hl19⟩ := len_succ hl18
          obtain ⟨v19, vs, rfl, hl20⟩ := len_succ hl19
          obtain ⟨v20, vs, rfl, hl21⟩ := len_succ hl20
          obtain ⟨v21, vs, rfl, hl22⟩ := len_succ hl21
          obtain ⟨v22, vs, rfl, hl23⟩ := len_succ hl22
          obtain rfl := len_zero hl23
          have dd := hd 13 (by simp) _ rfl; simp only [List.getD_cons_zero, List.getD_cons_succ] at dd; obtain rfl := dd
          clear hd hl hl1 hl2 hl3 hl4 hl5 hl6 hl7 hl8 hl9 hl10 hl11 hl12 hl13 hl14 hl15 hl16 hl17 hl18 hl19 hl20 hl21 hl22 hl23
          replace hK := hK.out
          simp only [puts, List.set_cons_zero, List.set_cons_succ, Act.put, List.setIfInBounds_toArray] at hK ⊢
          have hK' : Shut _ := hK
          clear hK
          go_simp
          (try go_wp2_with fail)
          exact hK'.out _ _ ((Below.refl _ _).alloc (Nat.le_refl _) _) (stepc hR ((Below.refl _ _).alloc (Nat.le_refl _) _)) (fun D hD => by cases hD; exact ⟨_, rfl, iw_two _ _ _⟩)
        · refine ⟨[16, 13], by decide, fun vs w hl hR hd K hK => ?_⟩
          obtain ⟨v0, vs, rfl, hl1⟩ := len_succ hl
          obtain ⟨v1, vs, rfl, hl2⟩ := len_succ hl1
          obtain ⟨v2, vs, rfl, hl3⟩ := len_succ hl2
          obtain ⟨v3, vs, rfl, hl4⟩ := len_succ hl3
          obtain ⟨v4, vs, rfl, hl5⟩ := len_succ hl4
          obtain ⟨v5, vs, rfl, hl6⟩ := len_succ hl5
          obtain ⟨v6, vs, rfl, hl7⟩ := len_succ hl6
          obtain ⟨v7, vs, rfl, hl8⟩ := len_succ hl7
          obtain ⟨v8, vs, rfl, hl9⟩ := len_succ hl8
          obtain ⟨v9, vs, rfl, hl10⟩ := len_succ hl9
          obtain ⟨v10, vs, rfl, hl11⟩ := len_succ hl10
          obtain ⟨v11, vs, rfl, hl12⟩ := len_succ hl11
          obtain ⟨v12, vs, rfl, hl13⟩ := len_succ hl12
          obtain ⟨v13, vs, rfl, hl14⟩ := len_succ hl13
          obtain ⟨v14, vs, rfl, hl15⟩ := len_succ hl14
          obtain ⟨v15, vs, rfl, hl16⟩ := len_succ hl15
          obtain ⟨v16, vs, rfl, hl17⟩ := len_succ hl16
          obtain ⟨v17, vs, rfl, hl18⟩ := len_succ hl17
          obtain ⟨v18, vs, rfl, hl19⟩ := len_succ hl18
          obtain ⟨v19, vs, rfl, hl20⟩ := len_succ hl19
          obtain ⟨v20, vs, rfl, hl21⟩ := len_succ hl20
          obtain ⟨v21, vs, rfl, hl22⟩ := len_succ hl21
          obtain ⟨v22, vs, rfl, hl23⟩ := len_succ hl22
          obtain rfl := len_zero hl23
          have dd := hd 16 (by simp) _ rfl; simp only [List.getD_cons_zero, List.getD_cons_succ] at dd; refine dd.elim ?_; clear dd; intro g hg; have e1 := hg.1; have hi := hg.2; clear hg; subst e1
          have dd := hd 13 (by simp) _ rfl; simp only [List.getD_cons_zero, List.getD_cons_succ] at dd; obtain rfl := dd
          clear hd hl hl1 hl2 hl3 hl4 hl5 hl6 hl7 hl8 hl9 hl10 hl11 hl12 hl13 hl14 hl15 hl16 hl17 hl18 hl19 hl20 hl21 hl22 hl23
          replace hK := hK.out
          simp only [puts, List.set_cons_zero, List.set_cons_succ, Act.put, List.setIfInBounds_toArray] at hK ⊢
          have hK' : Shut _ := hK
          clear hK
          go_simp
          go_at_call 36; (with_reducible refine (ofv_any hi (by omega)).mono ?_); rw [of56]; rintro e w2 ⟨u, rfl, hr, hb⟩
          (try go_wp2_with fail)
          exact hK'.out _ _ (hb) (stepc hR (hb)) (fun D hD => by cases hD; exact hr)
        · refine ⟨[15, 17, 13], by decide, fun vs w hl hR hd K hK => ?_⟩
          obtain ⟨v0, vs, rfl, hl1⟩ := len_succ hl
          obtain ⟨v1, vs, rfl, hl2⟩ := len_succ hl1
          obtain ⟨v2, vs, rfl, hl3⟩ := len_succ hl2
          obtain ⟨v3, vs, rfl, hl4⟩ := len_succ hl3
          obtain ⟨v4, vs, rfl, hl5⟩ := len_succ hl4
          obtain ⟨v5, vs, rfl, hl6⟩ := len_succ hl5
          obtain ⟨v6, vs, rfl, hl7⟩ := len_succ hl6
          obtain ⟨v7, vs, rfl, hl8⟩ := len_succ hl7
          obtain ⟨v8, vs, rfl, hl9⟩ := len_succ hl8
          obtain ⟨v9, vs, rfl, hl10⟩ := len_succ hl9
          obtain ⟨v10, vs, rfl, hl11⟩ := len_succ hl10
          obtain ⟨v11, vs, rfl, hl12⟩ := len_succ hl11
          obtain ⟨v12, vs, rfl, hl13⟩ := len_succ hl12
          obtain ⟨v13, vs, rfl, hl14⟩ := len_succ hl13
          obtain ⟨v14, vs, rfl, hl15⟩ := len_succ hl14
          obtain ⟨v15, vs, rfl, hl16⟩ := len_succ hl15
          obtain ⟨v16, vs, rfl, hl17⟩ := len_succ hl16
          obtain ⟨v17, vs, rfl, hl18⟩ := len_succ hl17
          obtain ⟨v18, vs, rfl, hl19⟩ := len_succ hl18
          obtain ⟨v19, vs, rfl, hl20⟩ := len_succ hl19
          obtain ⟨v20, vs, rfl, hl21⟩ := len_succ hl20
          obtain ⟨v21, vs, rfl, hl22⟩ := len_succ hl21
          obtain ⟨v22, vs, rfl, hl23⟩ := len_succ hl22
          obtain rfl := len_zero hl23
          have dd := hd 15 (by simp) _ rfl; simp only [List.getD_cons_zero, List.getD_cons_succ] at dd; have r1 := dd; clear dd
          have dd := hd 17 (by simp) _ rfl; simp only [List.getD_cons_zero, List.getD_cons_succ] at dd; have r5 := dd; clear dd
          have dd := hd 13 (by simp) _ rfl; simp only [List.getD_cons_zero, List.getD_cons_succ] at dd; obtain rfl := dd
          clear hd hl hl1 hl2 hl3 hl4 hl5 hl6 hl7 hl8 hl9 hl10 hl11 hl12 hl13 hl14 hl15 hl16 hl17 hl18 hl19 hl20 hl21 hl22 hl23
          replace hK := hK.out
          simp only [puts, List.set_cons_zero, List.set_cons_succ, Act.put, List.setIfInBounds_toArray] at hK ⊢
          have hK' : Shut _ := hK
          clear hK
          go_simp
          go_at_call 34; (with_reducible refine (check_v 6 r1 r5 EYf.out).mono ?_); rintro e w2 ⟨rfl, hb⟩
          (try go_wp2_with fail)
          exact hK'.out _ _ (hb) (stepc hR (hb)) (fun D hD => by cases hD; rfl)
        · refine ⟨[13], by decide, fun vs w hl hR hd K hK => ?_⟩
          obtain ⟨v0, vs, rfl, hl1⟩ := len_succ hl
          obtain ⟨v1, vs, rfl, hl2⟩ := len_succ hl1
          obtain ⟨v2, vs, rfl, hl3⟩ := len_succ hl2
          obtain ⟨v3, vs, rfl, hl4⟩ := len_succ hl3
          obtain ⟨v4, vs, rfl, hl5⟩ := len_succ hl4
          obtain ⟨v5, vs, rfl, hl6⟩ := len_succ hl5
          obtain ⟨v6, vs, rfl, hl7⟩ := len_succ hl6
          obtain ⟨v7, vs, rfl, hl8⟩ := len_succ hl7
          obtain ⟨v8, vs, rfl, hl9⟩ := len_succ hl8
          obtain ⟨v9, vs, rfl, hl10⟩ := len_succ hl9
          obtain ⟨v10, vs, rfl, hl11⟩ := len_succ hl10
          obtain ⟨v11, vs, rfl, hl12⟩ := len_succ hl11
          obtain ⟨v12, vs, rfl, hl13⟩ := len_succ hl12
          obtain ⟨v13, vs, rfl, hl14⟩ := len_succ hl13
          obtain ⟨v14, vs, rfl, hl15⟩ := len_succ hl14
          obtain ⟨v15, vs, rfl, hl16⟩ := len_succ hl15
          obtain ⟨v16, vs, rfl, hl17⟩ := len_succ hl16
          obtain ⟨v17, vs, rfl, hl18⟩ := len_succ hl17
          obtain ⟨v18, vs, rfl, hl19⟩ := len_succ hl18
          obtain ⟨v19, vs, rfl, hl20⟩ := len_succ hl19
          obtain ⟨v20, vs, rfl, hl21⟩ := len_succ hl20
          obtain ⟨v21, vs, rfl, hl22⟩ := len_succ hl21
          obtain ⟨v22, vs, rfl, hl23⟩ := len_succ hl22
          obtain rfl := len_zero hl23
          have dd := hd 13 (by simp) _ rfl; simp only [List.getD_cons_zero, List.getD_cons_succ] at dd; obtain rfl := dd
          clear hd hl hl1 hl2 hl3 hl4 hl5 hl6 hl7 hl8 hl9 hl10 hl11 hl12 hl13 hl14 hl15 hl16 hl17 hl18 hl19 hl20 hl21 hl22 hl23
          replace hK := hK.out
          simp only [puts, List.set_cons_zero, List.set_cons_succ, Act.put, List.setIfInBounds_toArray] at hK ⊢
          have hK' : Shut _ := hK
          clear hK
          obtain ⟨q0, q1, q2, q3, q4, q5, q6⟩ := HBX.out _ hR
          go_simp
          (try go_wp2_with fail)
          exact hK'.out _ _ (Below.refl _ _) (hR) (fun D hD => by cases hD; rfl)
        · refine ⟨[19, 13], by decide, fun vs w hl hR hd K hK => ?_⟩
          obtain ⟨v0, vs, rfl, hl1⟩ := len_succ hl
          obtain ⟨v1, vs, rfl, hl2⟩ := len_succ hl1
          obtain ⟨v2, vs, rfl, hl3⟩ := len_succ hl2
          obtain ⟨v3, vs, rfl, hl4⟩ := len_succ hl3
          obtain ⟨v4, vs, rfl, hl5⟩ := len_succ hl4
          obtain ⟨v5, vs, rfl, hl6⟩ := len_succ hl5
          obtain ⟨v6, vs, rfl, hl7⟩ := len_succ hl6
          obtain ⟨v7, vs, rfl, hl8⟩ := len_succ hl7
          obtain ⟨v8, vs, rfl, hl9⟩ := len_succ hl8
          obtain ⟨v9, vs, rfl, hl10⟩ := len_succ hl9
          obtain ⟨v10, vs, rfl, hl11⟩ := len_succ hl10
          obtain ⟨v11, vs, rfl, hl12⟩ := len_succ hl11
          obtain ⟨v12, vs, rfl, hl13⟩ := len_succ hl12
          obtain ⟨v13, vs, rfl, hl14⟩ := len_succ hl13
          obtain ⟨v14, vs, rfl, hl15⟩ := len_succ hl14
          obtain ⟨v15, vs, rfl, hl16⟩ := len_succ hl15
          obtain ⟨v16, vs, rfl, hl17⟩ := len_succ hl16
          obtain ⟨v17, vs, rfl, hl18⟩ := len_succ hl17
          obtain ⟨v18, vs, rfl, hl19⟩ := len_succ hl18
          obtain ⟨v19, vs, rfl, hl20⟩ := len_succ hl19
          obtain ⟨v20, vs, rfl, hl21⟩ := len_succ hl20
          obtain ⟨v21, vs, rfl, hl22⟩ := len_succ hl21
          obtain ⟨v22, vs, rfl, hl23⟩ := len_succ hl22
          obtain rfl := len_zero hl23
          have dd := hd 19 (by simp) _ rfl; simp only [List.getD_cons_zero, List.getD_cons_succ] at dd; obtain rfl := dd
          have dd := hd 13 (by simp) _ rfl; simp only [List.getD_cons_zero, List.getD_cons_succ] at dd; obtain rfl := dd
          clear hd hl hl1 hl2 hl3 hl4 hl5 hl6 hl7 hl8 hl9 hl10 hl11 hl12 hl13 hl14 hl15 hl16 hl17 hl18 hl19 hl20 hl21 hl22 hl23
          replace hK := hK.out
          simp only [puts, List.set_cons_zero, List.set_cons_succ, Act.put, List.setIfInBounds_toArray] at hK ⊢
          have hK' : Shut _ := hK
          clear hK
          go_simp
          go_at_call 35; (with_reducible refine (rcheck96_v (HFV.out _ hR) EFYf.out).mono ?_); rintro e w2 ⟨rfl, hb⟩
          (try go_wp2_with fail)
          exact hK'.out _ _ (hb) (stepc hR (hb)) (fun D hD => by cases hD; rfl)
        · refine ⟨[18, 20, 13], by decide, fun vs w hl hR hd K hK => ?_⟩
          obtain ⟨v0, vs, rfl, hl1⟩ := len_succ hl
          obtain ⟨v1, vs, rfl, hl2⟩ := len_succ hl1
          obtain ⟨v2, vs, rfl, hl3⟩ := len_succ hl2
          obtain ⟨v3, vs, rfl, hl4⟩ := len_succ hl3
          obtain ⟨v4, vs, rfl, hl5⟩ := len_succ hl4
          obtain ⟨v5, vs, rfl, hl6⟩ := len_succ hl5
          obtain ⟨v6, vs, rfl, hl7⟩ := len_succ hl6
          obtain ⟨v7, vs, rfl, hl8⟩ := len_succ hl7
          obtain ⟨v8, vs, rfl, hl9⟩ := len_succ hl8
          obtain ⟨v9, vs, rfl, hl10⟩ := len_succ hl9
          obtain ⟨v10, vs, rfl, hl11⟩ := len_succ hl10
          obtain ⟨v11, vs, rfl, hl12⟩ := len_succ hl11
          obtain ⟨v12, vs, rfl, hl13⟩ := len_succ hl12
          obtain ⟨v13, vs, rfl, hl14⟩ := len_succ hl13
          obtain ⟨v14, vs, rfl, hl15⟩ := len_succ hl14
          obtain ⟨v15, vs, rfl, hl16⟩ := len_succ hl15
          obtain ⟨v16, vs, rfl, hl17⟩ := len_succ hl16
          obtain ⟨v17, vs, rfl, hl18⟩ := len_succ hl17
          obtain ⟨v18, vs, rfl, hl19⟩ := len_succ hl18
          obtain ⟨v19, vs, rfl, hl20⟩ := len_succ hl19
          obtain ⟨v20, vs, rfl, hl21⟩ := len_succ hl20
          obtain ⟨v21, vs, rfl, hl22⟩ := len_succ hl21
          obtain ⟨v22, vs, rfl, hl23⟩ := len_succ hl22
          obtain rfl := len_zero hl23
          have dd := hd 18 (by simp) _ rfl; simp only [List.getD_cons_zero, List.getD_cons_succ] at dd; obtain rfl := dd
          have dd := hd 20 (by simp) _ rfl; simp only [List.getD_cons_zero, List.getD_cons_succ] at dd; obtain rfl := dd
          have dd := hd 13 (by simp) _ rfl; simp only [List.getD_cons_zero, List.getD_cons_succ] at dd; obtain rfl := dd
          clear hd hl hl1 hl2 hl3 hl4 hl5 hl6 hl7 hl8 hl9 hl10 hl11 hl12 hl13 hl14 hl15 hl16 hl17 hl18 hl19 hl20 hl21 hl22 hl23
          replace hK := hK.out
          simp only [puts, List.set_cons_zero, List.set_cons_succ, Act.put, List.setIfInBounds_toArray] at hK ⊢
          have hK' : Shut _ := hK
          clear hK
          go_simp
          (try go_wp2_with fail)
          exact hK'.out _ _ (Below.refl _ _) (hR) (fun D hD => by cases hD; rfl)
        · refine ⟨[13, 21], by decide, fun vs w hl hR hd K hK => ?_⟩
          obtain ⟨v0, vs, rfl, hl1⟩ := len_succ hl
          obtain ⟨v1, vs, rfl, hl2⟩ := len_succ hl1
          obtain ⟨v2, vs, rfl, hl3⟩ := len_succ hl2
          obtain ⟨v3, vs, rfl, hl4⟩ := len_succ hl3
          obtain ⟨v4, vs, rfl, hl5⟩ := len_succ hl4
          obtain ⟨v5, vs, rfl, hl6⟩ := len_succ hl5
          obtain ⟨v6, vs, rfl, hl7⟩ := len_succ hl6
          obtain ⟨v7, vs, rfl, hl8⟩ := len_succ hl7
          obtain ⟨v8, vs, rfl, hl9⟩ := len_succ hl8
          obtain ⟨v9, vs, rfl, hl10⟩ := len_succ hl9
          obtain ⟨v10, vs, rfl, hl11⟩ := len_succ hl10
          obtain ⟨v11, vs, rfl, hl12⟩ := len_succ hl11
          obtain ⟨v12, vs, rfl, hl13⟩ := len_succ hl12
          obtain ⟨v13, vs, rfl, hl14⟩ := len_succ hl13
          obtain ⟨v14, vs, rfl, hl15⟩ := len_succ hl14
          obtain ⟨v15, vs, rfl, hl16⟩ := len_succ hl15
          obtain ⟨v16, vs, rfl, hl17⟩ := len_succ hl16
          obtain ⟨v17, vs, rfl, hl18⟩ := len_succ hl17
          obtain ⟨v18, vs, rfl, hl19⟩ := len_succ hl18
          obtain ⟨v19, vs, rfl, hl20⟩ := len_succ hl19
          obtain ⟨v20, vs, rfl, hl21⟩ := len_succ hl20
          obtain ⟨v21, vs, rfl, hl22⟩ := len_succ hl21
          obtain ⟨v22, vs, rfl, hl23⟩ := len_succ hl22
          obtain rfl := len_zero hl23
          have dd := hd 13 (by simp) _ rfl; simp only [List.getD_cons_zero, List.getD_cons_succ] at dd; obtain rfl := dd
          have dd := hd 21 (by simp) _ rfl; simp only [List.getD_cons_zero, List.getD_cons_succ] at dd; obtain rfl := dd
          clear hd hl hl1 hl2 hl3 hl4 hl5 hl6 hl7 hl8 hl9 hl10 hl11 hl12 hl13 hl14 hl15 hl16 hl17 hl18 hl19 hl20 hl21 hl22 hl23
          replace hK := hK.out
          simp only [puts, List.set_cons_zero, List.set_cons_succ, Act.put, List.setIfInBounds_toArray] at hK ⊢
          have hK' : Shut _ := hK
          clear hK
          go_simp
          (try go_wp2_with fail)
          exact hK'.out _ _ (Below.refl _ _) (hR) (fun D hD => by cases hD; rfl)
        · intro vs w4 hl hR hd
          obtain ⟨v0, vs, rfl, hl1⟩ := len_succ hl
          obtain ⟨v1, vs, rfl, hl2⟩ := len_succ hl1
          obtain ⟨v2, vs, rfl, hl3⟩ := len_succ hl2
          obtain ⟨v3, vs, rfl, hl4⟩ := len_succ hl3
          obtain ⟨v4, vs, rfl, hl5⟩ := len_succ hl4
          obtain ⟨v5, vs, rfl, hl6⟩ := len_succ hl5
          obtain ⟨v6, vs, rfl, hl7⟩ := len_succ hl6
          obtain ⟨v7, vs, rfl, hl8⟩ := len_succ hl7
          obtain ⟨v8, vs, rfl, hl9⟩ := len_succ hl8
          obtain ⟨v9, vs, rfl, hl10⟩ := len_succ hl9
          obtain ⟨v10, vs, rfl, hl11⟩ := len_succ hl10
          obtain ⟨v11, vs, rfl, hl12⟩ := len_succ hl11
          obtain ⟨v12, vs, rfl, hl13⟩ := len_succ hl12
          obtain ⟨v13, vs, rfl, hl14⟩ := len_succ hl13
          obtain ⟨v14, vs, rfl, hl15⟩ := len_succ hl14
          obtain ⟨v15, vs, rfl, hl16⟩ := len_succ hl15
          obtain ⟨v16, vs, rfl, hl17⟩ := len_succ hl16
          obtain ⟨v17, vs, rfl, hl18⟩ := len_succ hl17
          obtain ⟨v18, vs, rfl, hl19⟩ := len_succ hl18
          obtain ⟨v19, vs, rfl, hl20⟩ := len_succ hl19
          obtain ⟨v20, vs, rfl, hl21⟩ := len_succ hl20
          obtain ⟨v21, vs, rfl, hl22⟩ := len_succ hl21
          obtain ⟨v22, vs, rfl, hl23⟩ := len_succ hl22
          obtain rfl := len_zero hl23
          have dd := hd 22 _ rfl; simp only [List.getD_cons_zero, List.getD_cons_succ] at dd; obtain rfl := dd
          clear hd hl hl1 hl2 hl3 hl4 hl5 hl6 hl7 hl8 hl9 hl10 hl11 hl12 hl13 hl14 hl15 hl16 hl17 hl18 hl19 hl20 hl21 hl22 hl23
          simp only [puts, List.set_cons_zero, List.set_cons_succ, Act.put, List.setIfInBounds_toArray]
          go_wp2_with fail
          go_roundw
          case rel => exact ⟨1, by omega, by go_num, stepc HB5.out hR⟩
          case measure => simp [intOf]
      · obtain ⟨r0, r1, r2, r3, r4, r5, r6, r7, r8, r9, r10, r11, r12, r13⟩ := HROW.out _ hbw
        obtain ⟨W5, hW5⟩ : ∃ W5, W5 = wr.alloc (.cells #[.bool g.revoke, .int .i64 g.admin, .int .i64 g.target, .int .u64 (g.yes : Nat), .int .u64 (g.no : Nat), .slice a2 n2 c2, .int .i64 g.longest] 35) := ⟨_, rfl⟩
        have hb5 : Below wr.heap.size wr W5 := by rw [hW5]; exact (Below.refl _ _).alloc (Nat.le_refl _) _
        have hB5 := stepc hbw hb5
        have hn5 : W5.heap[wr.heap.size]? = some (.cells #[.bool g.revoke, .int .i64 g.admin, .int .i64 g.target, .int .u64 (g.yes : Nat), .int .u64 (g.no : Nat), .slice a2 n2 c2, .int .i64 g.longest] 35 (0, 0)) := by rw [hW5]; exact heap_alloc_new _ _
        have hl5 := (Array.getElem?_eq_some_iff.1 hn5).1
        have HBX : Hid (∀ w', Below W5.heap.size W5 w' → w'.cell? ⟨wr.heap.size, 0, none⟩ = some (.bool g.revoke) ∧ w'.cell? ⟨wr.heap.size, 1, none⟩ = some (.int .i64 g.admin) ∧ w'.cell? ⟨wr.heap.size, 2, none⟩ = some (.int .i64 g.target) ∧ w'.cell? ⟨wr.heap.size, 3, none⟩ = some (.int .u64 (g.yes : Nat)) ∧ w'.cell? ⟨wr.heap.size, 4, none⟩ = some (.int .u64 (g.no : Nat)) ∧ w'.cell? ⟨wr.heap.size, 5, none⟩ = some (.slice a2 n2 c2) ∧ w'.cell? ⟨wr.heap.size, 6, none⟩ = some (.int .i64 g.longest)) := fun w' hb => (cell7 ((hb.block _ hl5).trans hn5)).1
        have HQT := Lib.hid (fun w' (hb : Below W5.heap.size W5 w') => HQT.out w' (stepc hB5 hb))
        have HFV := Lib.hid (fun w' (hb : Below W5.heap.size W5 w') => HGV.out w' (stepc hB5 hb))
        have HB5 := Lib.hid hB5
        clear hb5 hB5 hn5 hl5
        go_wp2_with fail
        rw [← hW5]
        clear hW5 r0 r1 r2 r3 r4 r5 r6 r7 r8 r9 r10 r11 r12 r13
        refine region_slots [30, 31, 32, 33, 34, 35, 36, 37, 38, 39, 40, 41, 42, 43, 44, 45, 46, 47, 48, 49, 50, 51, 52]
          [fun v w => v = .agg #[.bool g.revoke, .int .i64 g.admin, .int .i64 g.target, .int .u64 (g.yes : Nat), .int .u64 (g.no : Nat), .slice a2 n2 c2, .int .i64 g.longest],
           fun v w => RlV w v (toRl g),
           fun v _ => v = .pointer (some ⟨w.heap.size + 2, 0, none⟩),
           fun v _ => v = .int .i64 s0,
           fun v _ => v = .int .u64 (adm : Nat),
           fun v w => StV w v (maskL adm),
           fun v _ => v = .int .i64 Xg,
           fun v w => v = .agg #[.bool g.revoke, .int .i64 g.admin, .int .i64 g.target, .int .u64 (g.yes : Nat), .int .u64 (g.no : Nat), .slice a2 n2 c2, .int .i64 g.longest],
           fun v _ => v = .pointer (some ⟨w.heap.size + 2, 0, none⟩),
           fun v _ => v = .int .i64 s0,
           fun v _ => v = .int .u64 (adm : Nat),
           fun v _ => v = .int .i64 Xg,
           fun v _ => v = .bool false,
           fun v _ => v = .bool false,
           fun v w => v = .agg #[.bool g.revoke, .int .i64 g.admin, .int .i64 g.target, .int .u64 (g.yes : Nat), .int .u64 (g.no : Nat), .slice a2 n2 c2, .int .i64 g.longest],
           fun v w => RlV w v (toRl g),
           fun v w => ∃ g, v = .slice (some ⟨g, 0, none⟩) 2 2 ∧ Iw w (some ⟨g, 0, none⟩) 2 2 [5, 6],
           fun v w => StV w v (maskL 96),
           fun v _ => v = .int .i64 Yg,
           fun v w => v = .agg #[.bool g.revoke, .int .i64 g.admin, .int .i64 g.target, .int .u64 (g.yes : Nat), .int .u64 (g.no : Nat), .slice a2 n2 c2, .int .i64 g.longest],
           fun v _ => v = .int .i64 Yg,
           fun v _ => v = .bool false,
           fun v _ => v = .bool false]
          (fun w' => Below W5.heap.size W5 w') (fun w w' => Below w.heap.size w w') (by kernel_rfl) (by kernel_rfl) rfl [u30, u31, u32, u33, u34, u35, u36, u37, u38, u39, u40, u41, u42, u43, u44, u45, u46, u47, u48, u49, u50, u51, u52] (by simp only [puts, List.set_cons_zero, List.set_cons_succ, Act.put, List.setIfInBounds_toArray]) rfl ((Below.refl _ _).drew) ?_ ⟨?_, ?_, ?_, ?_, ?_, ?_, ?_, ?_, ?_, ?_, ?_, ?_, ?_, ?_, ?_, ?_, ?_, ?_, ?_, ?_, ?_, ?_, ?_, trivial⟩ ?_
        · intro j D hj v w w' hb hD
          match j, hj with
          | 0, hj => cases hj; exact hD
          | 1, hj => cases hj; exact hD.below hb
          | 2, hj => cases hj; exact hD
          | 3, hj => cases hj; exact hD
          | 4, hj => cases hj; exact hD
          | 5, hj => cases hj; exact hD.below hb
          | 6, hj => cases hj; exact hD
          | 7, hj => cases hj; exact hD
          | 8, hj => cases hj; exact hD
          | 9, hj => cases hj; exact hD
          | 10, hj => cases hj; exact hD
          | 11, hj => cases hj; exact hD
          | 12, hj => cases hj; exact hD
          | 13, hj => cases hj; exact hD
          | 14, hj => cases hj; exact hD
          | 15, hj => cases hj; exact hD.below hb
          | 16, hj => cases hj; obtain ⟨g, rfl, h⟩ := hD; exact ⟨g, rfl, h.below hb⟩
          | 17, hj => cases hj; exact hD.below hb
          | 18, hj => cases hj; exact hD
          | 19, hj => cases hj; exact hD
          | 20, hj => cases hj; exact hD
          | 21, hj => cases hj; exact hD
          | 22, hj => cases hj; exact hD
          | j + 23, hj => cases hj
        · refine ⟨[], by decide, fun vs w hl hR hd K hK => ?_⟩
          obtain ⟨v0, vs, rfl, hl1⟩ := len_succ hl
          obtain ⟨v1, vs, rfl, hl2⟩ := len_succ hl1
          obtain ⟨v2, vs, rfl, hl3⟩ := len_succ hl2
          obtain ⟨v3, vs, rfl, hl4⟩ := len_succ hl3
          obtain ⟨v4, vs, rfl, hl5⟩ := len_succ hl4
          obtain ⟨v5, vs, rfl, hl6⟩ := len_succ hl5
          obtain ⟨v6, vs, rfl, hl7⟩ := len_succ hl6
          obtain ⟨v7, vs, rfl, hl8⟩ := len_succ hl7
          obtain ⟨v8, vs, rfl, hl9⟩ := len_succ hl8
          obtain ⟨v9, vs, rfl, hl10⟩ := len_succ hl9
          obtain ⟨v10, vs, rfl, hl11⟩ := len_succ hl10
          obtain ⟨v11, vs, rfl, hl12⟩ := len_succ hl11
          obtain ⟨v12, vs, rfl, hl13⟩ := len_succ hl12
          obtain ⟨v13, vs, rfl, hl14⟩ := len_succ hl13
          obtain ⟨v14, vs, rfl, hl15⟩ := len_succ hl14
          obtain ⟨v15, vs, rfl, hl16⟩ := len_succ hl15
          obtain ⟨v16, vs, rfl, hl17⟩ := len_succ hl16
          obtain ⟨v17, vs, rfl, hl18⟩ := len_succ hl17
          obtain ⟨v18, vs, rfl, hl19⟩ := len_succ hl18
          obtain ⟨v19, vs, rfl, hl20⟩ := len_succ hl19
          obtain ⟨v20, vs, rfl, hl21⟩ := len_succ hl20
          obtain ⟨v21, vs, rfl, hl22⟩ := len_succ hl21
          obtain ⟨v22, vs, rfl, hl23⟩ := len_succ hl22
          obtain rfl := len_zero hl23
          clear hd hl hl1 hl2 hl3 hl4 hl5 hl6 hl7 hl8 hl9 hl10 hl11 hl12 hl13 hl14 hl15 hl16 hl17 hl18 hl19 hl20 hl21 hl22 hl23
          replace hK := hK.out
          simp only [puts, List.set_cons_zero, List.set_cons_succ, Act.put, List.setIfInBounds_toArray] at hK ⊢
          have hK' : Shut _ := hK
          clear hK
          obtain ⟨q0, q1, q2, q3, q4, q5, q6⟩ := HBX.out _ hR
          go_simp
          (try go_wp2_with fail)
          exact hK'.out _ _ (Below.refl _ _) (hR) (fun D hD => by cases hD; rfl)
        · refine ⟨[0], by decide, fun vs w hl hR hd K hK => ?_⟩
          obtain ⟨v0, vs, rfl, hl1⟩ := len_succ hl
          obtain ⟨v1, vs, rfl, hl2⟩ := len_succ hl1
          obtain ⟨v2, vs, rfl, hl3⟩ := len_succ hl2
          obtain ⟨v3, vs, rfl, hl4⟩ := len_succ hl3
          obtain ⟨v4, vs, rfl, hl5⟩ := len_succ hl4
          obtain ⟨v5, vs, rfl, hl6⟩ := len_succ hl5
          obtain ⟨v6, vs, rfl, hl7⟩ := len_succ hl6
          obtain ⟨v7, vs, rfl, hl8⟩ := len_succ hl7
          obtain ⟨v8, vs, rfl, hl9⟩ := len_succ hl8
          obtain ⟨v9, vs, rfl, hl10⟩ := len_succ hl9
          obtain ⟨v10, vs, rfl, hl11⟩ := len_succ hl10
          obtain ⟨v11, vs, rfl, hl12⟩ := len_succ hl11
          obtain ⟨v12, vs, rfl, hl13⟩ := len_succ hl12
          obtain ⟨v13, vs, rfl, hl14⟩ := len_succ hl13
          obtain ⟨v14, vs, rfl, hl15⟩ := len_succ hl14
          obtain ⟨v15, vs, rfl, hl16⟩ := len_succ hl15
          obtain ⟨v16, vs, rfl, hl17⟩ := len_succ hl16
          obtain ⟨v17, vs, rfl, hl18⟩ := len_succ hl17
          obtain ⟨v18, vs, rfl, hl19⟩ := len_succ hl18
          obtain ⟨v19, vs, rfl, hl20⟩ := len_succ hl19
          obtain ⟨v20, vs, rfl, hl21⟩ := len_succ hl20
          obtain ⟨v21, vs, rfl, hl22⟩ := len_succ hl21
          obtain ⟨v22, vs, rfl, hl23⟩ := len_succ hl22
          obtain rfl := len_zero hl23
          have dd := hd 0 (by simp) _ rfl; simp only [List.getD_cons_zero, List.getD_cons_succ] at dd; obtain rfl := dd
          clear hd hl hl1 hl2 hl3 hl4 hl5 hl6 hl7 hl8 hl9 hl10 hl11 hl12 hl13 hl14 hl15 hl16 hl17 hl18 hl19 hl20 hl21 hl22 hl23
          replace hK := hK.out
          simp only [puts, List.set_cons_zero, List.set_cons_succ, Act.put, List.setIfInBounds_toArray] at hK ⊢
          have hK' : Shut _ := hK
          clear hK
          go_simp
          go_at_call 15; (with_reducible refine (hrule_v (HFV.out _ hR)).mono ?_); rintro e w2 ⟨u, rfl, hr, hb⟩
          (try go_wp2_with fail)
          exact hK'.out _ _ (hb) (stepc hR (hb)) (fun D hD => by cases hD; exact hr)
        · refine ⟨[], by decide, fun vs w hl hR hd K hK => ?_⟩
          obtain ⟨v0, vs, rfl, hl1⟩ := len_succ hl
          obtain ⟨v1, vs, rfl, hl2⟩ := len_succ hl1
          obtain ⟨v2, vs, rfl, hl3⟩ := len_succ hl2
          obtain ⟨v3, vs, rfl, hl4⟩ := len_succ hl3
          obtain ⟨v4, vs, rfl, hl5⟩ := len_succ hl4
          obtain ⟨v5, vs, rfl, hl6⟩ := len_succ hl5
          obtain ⟨v6, vs, rfl, hl7⟩ := len_succ hl6
          obtain ⟨v7, vs, rfl, hl8⟩ := len_succ hl7
          obtain ⟨v8, vs, rfl, hl9⟩ := len_succ hl8
          obtain ⟨v9, vs, rfl, hl10⟩ := len_succ hl9
          obtain ⟨v10, vs, rfl, hl11⟩ := len_succ hl10
          obtain ⟨v11, vs, rfl, hl12⟩ := len_succ hl11
          obtain ⟨v12, vs, rfl, hl13⟩ := len_succ hl12
          obtain ⟨v13, vs, rfl, hl14⟩ := len_succ hl13
          obtain ⟨v14, vs, rfl, hl15⟩ := len_succ hl14
          obtain ⟨v15, vs, rfl, hl16⟩ := len_succ hl15
          obtain ⟨v16, vs, rfl, hl17⟩ := len_succ hl16
          obtain ⟨v17, vs, rfl, hl18⟩ := len_succ hl17
          obtain ⟨v18, vs, rfl, hl19⟩ := len_succ hl18
          obtain ⟨v19, vs, rfl, hl20⟩ := len_succ hl19
          obtain ⟨v20, vs, rfl, hl21⟩ := len_succ hl20
          obtain ⟨v21, vs, rfl, hl22⟩ := len_succ hl21
          obtain ⟨v22, vs, rfl, hl23⟩ := len_succ hl22
          obtain rfl := len_zero hl23
          clear hd hl hl1 hl2 hl3 hl4 hl5 hl6 hl7 hl8 hl9 hl10 hl11 hl12 hl13 hl14 hl15 hl16 hl17 hl18 hl19 hl20 hl21 hl22 hl23
          replace hK := hK.out
          simp only [puts, List.set_cons_zero, List.set_cons_succ, Act.put, List.setIfInBounds_toArray] at hK ⊢
          have hK' : Shut _ := hK
          clear hK
          go_simp
          (try go_wp2_with fail)
          exact hK'.out _ _ (Below.refl _ _) (hR) (fun D hD => by cases hD; rfl)
        · refine ⟨[2], by decide, fun vs w hl hR hd K hK => ?_⟩
          obtain ⟨v0, vs, rfl, hl1⟩ := len_succ hl
          obtain ⟨v1, vs, rfl, hl2⟩ := len_succ hl1
          obtain ⟨v2, vs, rfl, hl3⟩ := len_succ hl2
          obtain ⟨v3, vs, rfl, hl4⟩ := len_succ hl3
          obtain ⟨v4, vs, rfl, hl5⟩ := len_succ hl4
          obtain ⟨v5, vs, rfl, hl6⟩ := len_succ hl5
          obtain ⟨v6, vs, rfl, hl7⟩ := len_succ hl6
          obtain ⟨v7, vs, rfl, hl8⟩ := len_succ hl7
          obtain ⟨v8, vs, rfl, hl9⟩ := len_succ hl8
          obtain ⟨v9, vs, rfl, hl10⟩ := len_succ hl9
          obtain ⟨v10, vs, rfl, hl11⟩ := len_succ hl10
          obtain ⟨v11, vs, rfl, hl12⟩ := len_succ hl11
          obtain ⟨v12, vs, rfl, hl13⟩ := len_succ hl12
          obtain ⟨v13, vs, rfl, hl14⟩ := len_succ hl13
          obtain ⟨v14, vs, rfl, hl15⟩ := len_succ hl14
          obtain ⟨v15, vs, rfl, hl16⟩ := len_succ hl15
          obtain ⟨v16, vs, rfl, hl17⟩ := len_succ hl16
          obtain ⟨v17, vs, rfl, hl18⟩ := len_succ hl17
          obtain ⟨v18, vs, rfl, hl19⟩ := len_succ hl18
          obtain ⟨v19, vs, rfl, hl20⟩ := len_succ hl19
          obtain ⟨v20, vs, rfl, hl21⟩ := len_succ hl20
          obtain ⟨v21, vs, rfl, hl22⟩ := len_succ hl21
          obtain ⟨v22, vs, rfl, hl23⟩ := len_succ hl22
          obtain rfl := len_zero hl23
          have dd := hd 2 (by simp) _ rfl; simp only [List.getD_cons_zero, List.getD_cons_succ] at dd; obtain rfl := dd
          clear hd hl hl1 hl2 hl3 hl4 hl5 hl6 hl7 hl8 hl9 hl10 hl11 hl12 hl13 hl14 hl15 hl16 hl17 hl18 hl19 hl20 hl21 hl22 hl23
          replace hK := hK.out
          simp only [puts, List.set_cons_zero, List.set_cons_succ, Act.put, List.setIfInBounds_toArray] at hK ⊢
          have hK' : Shut _ := hK
          clear hK
          have q0 := (HQT.out _ hR).1
          go_simp
          (try go_wp2_with fail)
          exact hK'.out _ _ (Below.refl _ _) (hR) (fun D hD => by cases hD; rfl)
        · refine ⟨[], by decide, fun vs w hl hR hd K hK => ?_⟩
          obtain ⟨v0, vs, rfl, hl1⟩ := len_succ hl
          obtain ⟨v1, vs, rfl, hl2⟩ := len_succ hl1
          obtain ⟨v2, vs, rfl, hl3⟩ := len_succ hl2
          obtain ⟨v3, vs, rfl, hl4⟩ := len_succ hl3
          obtain ⟨v4, vs, rfl, hl5⟩ := len_succ hl4
          obtain ⟨v5, vs, rfl, hl6⟩ := len_succ hl5
          obtain ⟨v6, vs, rfl, hl7⟩ := len_succ hl6
          obtain ⟨v7, vs, rfl, hl8⟩ := len_succ hl7
          obtain ⟨v8, vs, rfl, hl9⟩ := len_succ hl8
          obtain ⟨v9, vs, rfl, hl10⟩ := len_succ hl9
          obtain ⟨v10, vs, rfl, hl11⟩ := len_succ hl10
          obtain ⟨v11, vs, rfl, hl12⟩ := len_succ hl11
          obtain ⟨v12, vs, rfl, hl13⟩ := len_succ hl12
          obtain ⟨v13, vs, rfl, hl14⟩ := len_succ hl13
          obtain ⟨v14, vs, rfl, hl15⟩ := len_succ hl14
          obtain ⟨v15, vs, rfl, hl16⟩ := len_succ hl15
          obtain ⟨v16, vs, rfl, hl17⟩ := len_succ hl16
          obtain ⟨v17, vs, rfl, hl18⟩ := len_succ hl17
          obtain ⟨v18, vs, rfl, hl19⟩ := len_succ hl18
          obtain ⟨v19, vs, rfl, hl20⟩ := len_succ hl19
          obtain ⟨v20, vs, rfl, hl21⟩ := len_succ hl20
          obtain ⟨v21, vs, rfl, hl22⟩ := len_succ hl21
          obtain ⟨v22, vs, rfl, hl23⟩ := len_succ hl22
          obtain rfl := len_zero hl23
          clear hd hl hl1 hl2 hl3 hl4 hl5 hl6 hl7 hl8 hl9 hl10 hl11 hl12 hl13 hl14 hl15 hl16 hl17 hl18 hl19 hl20 hl21 hl22 hl23
          replace hK := hK.out
          simp only [puts, List.set_cons_zero, List.set_cons_succ, Act.put, List.setIfInBounds_toArray] at hK ⊢
          have hK' : Shut _ := hK
          clear hK
          go_simp
          (try go_wp2_with fail)
          exact hK'.out _ _ (Below.refl _ _) (hR) (fun D hD => by cases hD; rfl)
        · refine ⟨[4], by decide, fun vs w hl hR hd K hK => ?_⟩
          obtain ⟨v0, vs, rfl, hl1⟩ := len_succ hl
          obtain ⟨v1, vs, rfl, hl2⟩ := len_succ hl1
          obtain ⟨v2, vs, rfl, hl3⟩ := len_succ hl2
          obtain ⟨v3, vs, rfl, hl4⟩ := len_succ hl3
          obtain ⟨v4, vs, rfl, hl5⟩ := len_succ hl4
          obtain ⟨v5, vs, rfl, hl6⟩ := len_succ hl5
          obtain ⟨v6, vs, rfl, hl7⟩ := len_succ hl6
          obtain ⟨v7, vs, rfl, hl8⟩ := len_succ hl7
          obtain ⟨v8, vs, rfl, hl9⟩ := len_succ hl8
          obtain ⟨v9, vs, rfl, hl10⟩ := len_succ hl9
          obtain ⟨v10, vs, rfl, hl11⟩ := len_succ hl10
          obtain ⟨v11, vs, rfl, hl12⟩ := len_succ hl11
          obtain ⟨v12, vs, rfl, hl13⟩ := len_succ hl12
          obtain ⟨v13, vs, rfl, hl14⟩ := len_succ hl13
          obtain ⟨v14, vs, rfl, hl15⟩ := len_succ hl14
          obtain ⟨v15, vs, rfl, hl16⟩ := len_succ hl15
          obtain ⟨v16, vs, rfl, hl17⟩ := len_succ hl16
          obtain ⟨v17, vs, rfl, hl18⟩ := len_succ hl17
          obtain ⟨v18, vs, rfl, hl19⟩ := len_succ hl18
          obtain ⟨v19, vs, rfl, hl20⟩ := len_succ hl19
          obtain ⟨v20, vs, rfl, hl21⟩ := len_succ hl20
          obtain ⟨v21, vs, rfl, hl22⟩ := len_succ hl21
          obtain ⟨v22, vs, rfl, hl23⟩ := len_succ hl22
          obtain rfl := len_zero hl23
          have dd := hd 4 (by simp) _ rfl; simp only [List.getD_cons_zero, List.getD_cons_succ] at dd; obtain rfl := dd
          clear hd hl hl1 hl2 hl3 hl4 hl5 hl6 hl7 hl8 hl9 hl10 hl11 hl12 hl13 hl14 hl15 hl16 hl17 hl18 hl19 hl20 hl21 hl22 hl23
          replace hK := hK.out
          simp only [puts, List.set_cons_zero, List.set_cons_succ, Act.put, List.setIfInBounds_toArray] at hK ⊢
          have hK' : Shut _ := hK
          clear hK
          go_simp
          go_at_call 20; (with_reducible refine (mset_v adm HADM.out _).mono ?_); rintro e w2 ⟨u, rfl, hr, hb⟩
          (try go_wp2_with fail)
          exact hK'.out _ _ (hb) (stepc hR (hb)) (fun D hD => by cases hD; exact hr)
        · refine ⟨[3, 1, 5], by decide, fun vs w hl hR hd K hK => ?_⟩
          obtain ⟨v0, vs, rfl, hl1⟩ := len_succ hl
          obtain ⟨v1, vs, rfl, hl2⟩ := len_succ hl1
          obtain ⟨v2, vs, rfl, hl3⟩ := len_succ hl2
          obtain ⟨v3, vs, rfl, hl4⟩ := len_succ hl3
          obtain ⟨v4, vs, rfl, hl5⟩ := len_succ hl4
          obtain ⟨v5, vs, rfl, hl6⟩ := len_succ hl5
          obtain ⟨v6, vs, rfl, hl7⟩ := len_succ hl6
          obtain ⟨v7, vs, rfl, hl8⟩ := len_succ hl7
          obtain ⟨v8, vs, rfl, hl9⟩ := len_succ hl8
          obtain ⟨v9, vs, rfl, hl10⟩ := len_succ hl9
          obtain ⟨v10, vs, rfl, hl11⟩ := len_succ hl10
          obtain ⟨v11, vs, rfl, hl12⟩ := len_succ hl11
          obtain ⟨v12, vs, rfl, hl13⟩ := len_succ hl12
          obtain ⟨v13, vs, rfl, hl14⟩ := len_succ hl13
          obtain ⟨v14, vs, rfl, hl15⟩ := len_succ hl14
          obtain ⟨v15, vs, rfl, hl16⟩ := len_succ hl15
          obtain ⟨v16, vs, rfl, hl17⟩ := len_succ hl16
          obtain ⟨v17, vs, rfl, hl18⟩ := len_succ hl17
          obtain ⟨v18, vs, rfl, hl19⟩ := len_succ hl18
          obtain ⟨v19, vs, rfl, hl20⟩ := len_succ hl19
          obtain ⟨v20, vs, rfl, hl21⟩ := len_succ hl20
          obtain ⟨v21, vs, rfl, hl22⟩ := len_succ hl21
          obtain ⟨v22, vs, rfl, hl23⟩ := len_succ hl22
          obtain rfl := len_zero hl23
          have dd := hd 3 (by simp) _ rfl; simp only [List.getD_cons_zero, List.getD_cons_succ] at dd; obtain rfl := dd
          have dd := hd 1 (by simp) _ rfl; simp only [List.getD_cons_zero, List.getD_cons_succ] at dd; have r1 := dd; clear dd
          have dd := hd 5 (by simp) _ rfl; simp only [List.getD_cons_zero, List.getD_cons_succ] at dd; have r5 := dd; clear dd
          clear hd hl hl1 hl2 hl3 hl4 hl5 hl6 hl7 hl8 hl9 hl10 hl11 hl12 hl13 hl14 hl15 hl16 hl17 hl18 hl19 hl20 hl21 hl22 hl23
          replace hK := hK.out
          simp only [puts, List.set_cons_zero, List.set_cons_succ, Act.put, List.setIfInBounds_toArray] at hK ⊢
          have hK' : Shut _ := hK
          clear hK
          go_simp
          go_at_call 34; (with_reducible refine (check_v s0 r1 r5 EXg.out).mono ?_); rintro e w2 ⟨rfl, hb⟩
          (try go_wp2_with fail)
          exact hK'.out _ _ (hb) (stepc hR (hb)) (fun D hD => by cases hD; rfl)
        · refine ⟨[], by decide, fun vs w hl hR hd K hK => ?_⟩
          obtain ⟨v0, vs, rfl, hl1⟩ := len_succ hl
          obtain ⟨v1, vs, rfl, hl2⟩ := len_succ hl1
          obtain ⟨v2, vs, rfl, hl3⟩ := len_succ hl2
          obtain ⟨v3, vs, rfl, hl4⟩ := len_succ hl3
          obtain ⟨v4, vs, rfl, hl5⟩ := len_succ hl4
          obtain ⟨v5, vs, rfl, hl6⟩ := len_succ hl5
          obtain ⟨v6, vs, rfl, hl7⟩ := len_succ hl6
          obtain ⟨v7, vs, rfl, hl8⟩ := len_succ hl7
          obtain ⟨v8, vs, rfl, hl9⟩ := len_succ hl8
          obtain ⟨v9, vs, rfl, hl10⟩ := len_succ hl9
          obtain ⟨v10, vs, rfl, hl11⟩ := len_succ hl10
          obtain ⟨v11, vs, rfl, hl12⟩ := len_succ hl11
          obtain ⟨v12, vs, rfl, hl13⟩ := len_succ hl12
          obtain ⟨v13, vs, rfl, hl14⟩ := len_succ hl13
          obtain ⟨v14, vs, rfl, hl15⟩ := len_succ hl14
          obtain ⟨v15, vs, rfl, hl16⟩ := len_succ hl15
          obtain ⟨v16, vs, rfl, hl17⟩ := len_succ hl16
          obtain ⟨v17, vs, rfl, hl18⟩ := len_succ hl17
          obtain ⟨v18, vs, rfl, hl19⟩ := len_succ hl18
          obtain ⟨v19, vs, rfl, hl20⟩ := len_succ hl19
          obtain ⟨v20, vs, rfl, hl21⟩ := len_succ hl20
          obtain ⟨v21, vs, rfl, hl22⟩ := len_succ hl21
          obtain ⟨v22, vs, rfl, hl23⟩ := len_succ hl22
          obtain rfl := len_zero hl23
          clear hd hl hl1 hl2 hl3 hl4 hl5 hl6 hl7 hl8 hl9 hl10 hl11 hl12 hl13 hl14 hl15 hl16 hl17 hl18 hl19 hl20 hl21 hl22 hl23
          replace hK := hK.out
          simp only [puts, List.set_cons_zero, List.set_cons_succ, Act.put, List.setIfInBounds_toArray] at hK ⊢
          have hK' : Shut _ := hK
          clear hK
          obtain ⟨q0, q1, q2, q3, q4, q5, q6⟩ := HBX.out _ hR
          go_simp
          (try go_wp2_with fail)
          exact hK'.out _ _ (Below.refl _ _) (hR) (fun D hD => by cases hD; rfl)
        · refine ⟨[], by decide, fun vs w hl hR hd K hK => ?_⟩
          obtain ⟨v0, vs, rfl, hl1⟩ := len_succ hl
          obtain ⟨v1, vs, rfl, hl2⟩ := len_succ hl1
          obtain ⟨v2, vs, rfl, hl3⟩ := len_succ hl2
          obtain ⟨v3, vs, rfl, hl4⟩ := len_succ hl3
          obtain ⟨v4, vs, rfl, hl5⟩ := len_succ hl4
          obtain ⟨v5, vs, rfl, hl6⟩ := len_succ hl5
          obtain ⟨v6, vs, rfl, hl7⟩ := len_succ hl6
          obtain ⟨v7, vs, rfl, hl8⟩ := len_succ hl7
          obtain ⟨v8, vs, rfl, hl9⟩ := len_succ hl8
          obtain ⟨v9, vs, rfl, hl10⟩ := len_succ hl9
          obtain ⟨v10, vs, rfl, hl11⟩ := len_succ hl10
          obtain ⟨v11, vs, rfl, hl12⟩ := len_succ hl11
          obtain ⟨v12, vs, rfl, hl13⟩ := len_succ hl12
          obtain ⟨v13, vs, rfl, hl14⟩ := len_succ hl13
          obtain ⟨v14, vs, rfl, hl15⟩ := len_succ hl14
          obtain ⟨v15, vs, rfl, hl16⟩ := len_succ hl15
          obtain ⟨v16, vs, rfl, hl17⟩ := len_succ hl16
          obtain ⟨v17, vs, rfl, hl18⟩ := len_succ hl17
          obtain ⟨v18, vs, rfl, hl19⟩ := len_succ hl18
          obtain ⟨v19, vs, rfl, hl20⟩ := len_succ hl19
          obtain ⟨v20, vs, rfl, hl21⟩ := len_succ hl20
          obtain ⟨v21, vs, rfl, hl22⟩ := len_succ hl21
          obtain ⟨v22, vs, rfl, hl23⟩ := len_succ hl22
          obtain rfl := len_zero hl23
          clear hd hl hl1 hl2 hl3 hl4 hl5 hl6 hl7 hl8 hl9 hl10 hl11 hl12 hl13 hl14 hl15 hl16 hl17 hl18 hl19 hl20 hl21 hl22 hl23
          replace hK := hK.out
          simp only [puts, List.set_cons_zero, List.set_cons_succ, Act.put, List.setIfInBounds_toArray] at hK ⊢
          have hK' : Shut _ := hK
          clear hK
          go_simp
          (try go_wp2_with fail)
          exact hK'.out _ _ (Below.refl _ _) (hR) (fun D hD => by cases hD; rfl)
        · refine ⟨[8], by decide, fun vs w hl hR hd K hK => ?_⟩
          obtain ⟨v0, vs, rfl, hl1⟩ := len_succ hl
          obtain ⟨v1, vs, rfl, hl2⟩ := len_succ hl1
          obtain ⟨v2, vs, rfl, hl3⟩ := len_succ hl2
          obtain ⟨v3, vs, rfl, hl4⟩ := len_succ hl3
          obtain ⟨v4, vs, rfl, hl5⟩ := len_succ hl4
          obtain ⟨v5, vs, rfl, hl6⟩ := len_succ hl5
          obtain ⟨v6, vs, rfl, hl7⟩ := len_succ hl6
          obtain ⟨v7, vs, rfl, hl8⟩ := len_succ hl7
          obtain ⟨v8, vs, rfl, hl9⟩ := len_succ hl8
          obtain ⟨v9, vs, rfl, hl10⟩ := len_succ hl9
          obtain ⟨v10, vs, rfl, hl11⟩ := len_succ hl10
          obtain ⟨v11, vs, rfl, hl12⟩ := len_succ hl11
          obtain ⟨v12, vs, rfl, hl13⟩ := len_succ hl12
          obtain ⟨v13, vs, rfl, hl14⟩ := len_succ hl13
          obtain ⟨v14, vs, rfl, hl15⟩ := len_succ hl14
          obtain ⟨v15, vs, rfl, hl16⟩ := len_succ hl15
          obtain ⟨v16, vs, rfl, hl17⟩ := len_succ hl16
          obtain ⟨v17, vs, rfl, hl18⟩ := len_succ hl17
          obtain ⟨v18, vs, rfl, hl19⟩ := len_succ hl18
          obtain ⟨v19, vs, rfl, hl20⟩ := len_succ hl19
          obtain ⟨v20, vs, rfl, hl21⟩ := len_succ hl20
          obtain ⟨v21, vs, rfl, hl22⟩ := len_succ hl21
          obtain ⟨v22, vs, rfl, hl23⟩ := len_succ hl22
          obtain rfl := len_zero hl23
          have dd := hd 8 (by simp) _ rfl; simp only [List.getD_cons_zero, List.getD_cons_succ] at dd; obtain rfl := dd
          clear hd hl hl1 hl2 hl3 hl4 hl5 hl6 hl7 hl8 hl9 hl10 hl11 hl12 hl13 hl14 hl15 hl16 hl17 hl18 hl19 hl20 hl21 hl22 hl23
          replace hK := hK.out
          simp only [puts, List.set_cons_zero, List.set_cons_succ, Act.put, List.setIfInBounds_toArray] at hK ⊢
          have hK' : Shut _ := hK
          clear hK
          have q0 := (HQT.out _ hR).1
          go_simp
          (try go_wp2_with fail)
          exact hK'.out _ _ (Below.refl _ _) (hR) (fun D hD => by cases hD; rfl)
        · refine ⟨[], by decide, fun vs w hl hR hd K hK => ?_⟩
          obtain ⟨v0, vs, rfl, hl1⟩ := len_succ hl
          obtain ⟨v1, vs, rfl, hl2⟩ := len_succ hl1
          obtain ⟨v2, vs, rfl, hl3⟩ := len_succ hl2
          obtain ⟨v3, vs, rfl, hl4⟩ := len_succ hl3
          obtain ⟨v4, vs, rfl, hl5⟩ := len_succ hl4
          obtain ⟨v5, vs, rfl, hl6⟩ := len_succ hl5
          obtain ⟨v6, vs, rfl, hl7⟩ := len_succ hl6
          obtain ⟨v7, vs, rfl, hl8⟩ := len_succ hl7
          obtain ⟨v8, vs, rfl, hl9⟩ := len_succ hl8
          obtain ⟨v9, vs, rfl, hl10⟩ := len_succ hl9
          obtain ⟨v10, vs, rfl, hl11⟩ := len_succ hl10
          obtain ⟨v11, vs, rfl, hl12⟩ := len_succ hl11
          obtain ⟨v12, vs, rfl, hl13⟩ := len_succ hl12
          obtain ⟨v13, vs, rfl, hl14⟩ := len_succ hl13
          obtain ⟨v14, vs, rfl, hl15⟩ := len_succ hl14
          obtain ⟨v15, vs, rfl, hl16⟩ := len_succ hl15
          obtain ⟨v16, vs, rfl, hl17⟩ := len_succ hl16
          obtain ⟨v17, vs, rfl, hl18⟩ := len_succ hl17
          obtain ⟨v18, vs, rfl, hl19⟩ := len_succ hl18
          obtain ⟨v19, vs, rfl, hl20⟩ := len_succ hl19
          obtain ⟨v20, vs, rfl, hl21⟩ := len_succ hl20
          obtain ⟨v21, vs, rfl, hl22⟩ := len_succ hl21
          obtain ⟨v22, vs, rfl, hl23⟩ := len_succ hl22
          obtain rfl := len_zero hl23
          clear hd hl hl1 hl2 hl3 hl4 hl5 hl6 hl7 hl8 hl9 hl10 hl11 hl12 hl13 hl14 hl15 hl16 hl17 hl18 hl19 hl20 hl21 hl22 hl23
          replace hK := hK.out
          simp only [puts, List.set_cons_zero, List.set_cons_succ, Act.put, List.setIfInBounds_toArray] at hK ⊢
          have hK' : Shut _ := hK
          clear hK
          go_simp
          (try go_wp2_with fail)
          exact hK'.out _ _ (Below.refl _ _) (hR) (fun D hD => by cases hD; rfl)
        · refine ⟨[7, 9, 10], by decide, fun vs w hl hR hd K hK => ?_⟩
          obtain ⟨v0, vs, rfl, hl1⟩ := len_succ hl
          obtain ⟨v1, vs, rfl, hl2⟩ := len_succ hl1
          obtain ⟨v2, vs, rfl, hl3⟩ := len_succ hl2
          obtain ⟨v3, vs, rfl, hl4⟩ := len_succ hl3
          obtain ⟨v4, vs, rfl, hl5⟩ := len_succ hl4
          obtain ⟨v5, vs, rfl, hl6⟩ := len_succ hl5
          obtain ⟨v6, vs, rfl, hl7⟩ := len_succ hl6
          obtain ⟨v7, vs, rfl, hl8⟩ := len_succ hl7
          obtain ⟨v8, vs, rfl, hl9⟩ := len_succ hl8
          obtain ⟨v9, vs, rfl, hl10⟩ := len_succ hl9
          obtain ⟨v10, vs, rfl, hl11⟩ := len_succ hl10
          obtain ⟨v11, vs, rfl, hl12⟩ := len_succ hl11
          obtain ⟨v12, vs, rfl, hl13⟩ := len_succ hl12
          obtain ⟨v13, vs, rfl, hl14⟩ := len_succ hl13
          obtain ⟨v14, vs, rfl, hl15⟩ := len_succ hl14
          obtain ⟨v15, vs, rfl, hl16⟩ := len_succ hl15
          obtain ⟨v16, vs, rfl, hl17⟩ := len_succ hl16
          obtain ⟨v17, vs, rfl, hl18⟩ := len_succ hl17
          obtain ⟨v18, vs, rfl, hl19⟩ := len_succ hl18
          obtain ⟨v19, vs, rfl, hl20⟩ := len_succ hl19
          obtain ⟨v20, vs, rfl, hl21⟩ := len_succ hl20
          obtain ⟨v21, vs, rfl, hl22⟩ := len_succ hl21
          obtain ⟨v22, vs, rfl, hl23⟩ := len_succ hl22
          obtain rfl := len_zero hl23
          have dd := hd 7 (by simp) _ rfl; simp only [List.getD_cons_zero, List.getD_cons_succ] at dd; obtain rfl := dd
          have dd := hd 9 (by simp) _ rfl; simp only [List.getD_cons_zero, List.getD_cons_succ] at dd; obtain rfl := dd
          have dd := hd 10 (by simp) _ rfl; simp only [List.getD_cons_zero, List.getD_cons_succ] at dd; obtain rfl := dd
          clear hd hl hl1 hl2 hl3 hl4 hl5 hl6 hl7 hl8 hl9 hl10 hl11 hl12 hl13 hl14 hl15 hl16 hl17 hl18 hl19 hl20 hl21 hl22 hl23
          replace hK := hK.out
          simp only [puts, List.set_cons_zero, List.set_cons_succ, Act.put, List.setIfInBounds_toArray] at hK ⊢
          have hK' : Shut _ := hK
          clear hK
          go_simp
          go_at_call 35; (with_reducible refine (rcheck_v s0 adm (HFV.out _ hR) HADM.out EFXg.out).mono ?_); rintro e w2 ⟨rfl, hb⟩
          (try go_wp2_with fail)
          exact hK'.out _ _ (hb) (stepc hR (hb)) (fun D hD => by cases hD; rfl)
        · refine ⟨[6, 11], by decide, fun vs w hl hR hd K hK => ?_⟩
          obtain ⟨v0, vs, rfl, hl1⟩ := len_succ hl
          obtain ⟨v1, vs, rfl, hl2⟩ := len_succ hl1
          obtain ⟨v2, vs, rfl, hl3⟩ := len_succ hl2
          obtain ⟨v3, vs, rfl, hl4⟩ := len_succ hl3
          obtain ⟨v4, vs, rfl, hl5⟩ := len_succ hl4
          obtain ⟨v5, vs, rfl, hl6⟩ := len_succ hl5
          obtain ⟨v6, vs, rfl, hl7⟩ := len_succ hl6
          obtain ⟨v7, vs, rfl, hl8⟩ := len_succ hl7
          obtain ⟨v8, vs, rfl, hl9⟩ := len_succ hl8
          obtain ⟨v9, vs, rfl, hl10⟩ := len_succ hl9
          obtain ⟨v10, vs, rfl, hl11⟩ := len_succ hl10
          obtain ⟨v11, vs, rfl, hl12⟩ := len_succ hl11
          obtain ⟨v12, vs, rfl, hl13⟩ := len_succ hl12
          obtain ⟨v13, vs, rfl, hl14⟩ := len_succ hl13
          obtain ⟨v14, vs, rfl, hl15⟩ := len_succ hl14
          obtain ⟨v15, vs, rfl, hl16⟩ := len_succ hl15
          obtain ⟨v16, vs, rfl, hl17⟩ := len_succ hl16
          obtain ⟨v17, vs, rfl, hl18⟩ := len_succ hl17
          obtain ⟨v18, vs, rfl, hl19⟩ := len_succ hl18
          obtain ⟨v19, vs, rfl, hl20⟩ := len_succ hl19
          obtain ⟨v20, vs, rfl, hl21⟩ := len_succ hl20
          obtain ⟨v21, vs, rfl, hl22⟩ := len_succ hl21
          obtain ⟨v22, vs, rfl, hl23⟩ := len_succ hl22
          obtain rfl := len_zero hl23
          have dd := hd 6 (by simp) _ rfl; simp only [List.getD_cons_zero, List.getD_cons_succ] at dd; obtain rfl := dd
          have dd := hd 11 (by simp) _ rfl; simp only [List.getD_cons_zero, List.getD_cons_succ] at dd; obtain rfl := dd
          clear hd hl hl1 hl2 hl3 hl4 hl5 hl6 hl7 hl8 hl9 hl10 hl11 hl12 hl13 hl14 hl15 hl16 hl17 hl18 hl19 hl20 hl21 hl22 hl23
          replace hK := hK.out
          simp only [puts, List.set_cons_zero, List.set_cons_succ, Act.put, List.setIfInBounds_toArray] at hK ⊢
          have hK' : Shut _ := hK
          clear hK
          go_simp
          (try go_wp2_with fail)
          exact hK'.out _ _ (Below.refl _ _) (hR) (fun D hD => by cases hD; rfl)
        · refine ⟨[12], by decide, fun vs w hl hR hd K hK => ?_⟩
          obtain ⟨v0, vs, rfl, hl1⟩ := len_succ hl
          obtain ⟨v1, vs, rfl, hl2⟩ := len_succ hl1
          obtain ⟨v2, vs, rfl, hl3⟩ := len_succ hl2
          obtain ⟨v3, vs, rfl, hl4⟩ := len_succ hl3
          obtain ⟨v4, vs, rfl, hl5⟩ := len_succ hl4
          obtain ⟨v5, vs, rfl, hl6⟩ := len_succ hl5
          obtain ⟨v6, vs, rfl, hl7⟩ := len_succ hl6
          obtain ⟨v7, vs, rfl, hl8⟩ := len_succ hl7
          obtain ⟨v8, vs, rfl, hl9⟩ := len_succ hl8
          obtain ⟨v9, vs, rfl, hl10⟩ := len_succ hl9
          obtain ⟨v10, vs, rfl, hl11⟩ := len_succ hl10
          obtain ⟨v11, vs, rfl, hl12⟩ := len_succ hl11
          obtain ⟨v12, vs, rfl, hl13⟩ := len_succ hl12
          obtain ⟨v13, vs, rfl, hl14⟩ := len_succ hl13
          obtain ⟨v14, vs, rfl, hl15⟩ := len_succ hl14
          obtain ⟨v15, vs, rfl, hl16⟩ := len_succ hl15
          obtain ⟨v16, vs, rfl, hl17⟩ := len_succ hl16
          obtain ⟨v17, vs, rfl, hl18⟩ := len_succ hl17
          obtain ⟨v18, vs, rfl, hl19⟩ := len_succ hl18
          obtain ⟨v19, vs, rfl, hl20⟩ := len_succ hl19
          obtain ⟨v20, vs, rfl, hl21⟩ := len_succ hl20
          obtain ⟨v21, vs, rfl, hl22⟩ := len_succ hl21
          obtain ⟨v22, vs, rfl, hl23⟩ := len_succ hl22
          obtain rfl := len_zero hl23
          have dd := hd 12 (by simp) _ rfl; simp only [List.getD_cons_zero, List.getD_cons_succ] at dd; obtain rfl := dd
          clear hd hl hl1 hl2 hl3 hl4 hl5 hl6 hl7 hl8 hl9 hl10 hl11 hl12 hl13 hl14 hl15 hl16 hl17 hl18 hl19 hl20 hl21 hl22 hl23
          replace hK := hK.out
          simp only [puts, List.set_cons_zero, List.set_cons_succ, Act.put, List.setIfInBounds_toArray] at hK ⊢
          have hK' : Shut _ := hK
          clear hK
          go_simp
          (try go_wp2_with fail)
          exact hK'.out _ _ (Below.refl _ _) (hR) (fun D hD => by cases hD; rfl)
        · refine ⟨[13], by decide, fun vs w hl hR hd K hK => ?_⟩
          obtain ⟨v0, vs, rfl, hl1⟩ := len_succ hl
          obtain ⟨v1, vs, rfl, hl2⟩ := len_succ hl1
          obtain ⟨v2, vs, rfl, hl3⟩ := len_succ hl2
          obtain ⟨v3, vs, rfl, hl4⟩ := len_succ hl3
          obtain ⟨v4, vs, rfl, hl5⟩ := len_succ hl4
          obtain ⟨v5, vs, rfl, hl6⟩ := len_succ hl5
          obtain ⟨v6, vs, rfl, hl7⟩ := len_succ hl6
          obtain ⟨v7, vs, rfl, hl8⟩ := len_succ hl7
          obtain ⟨v8, vs, rfl, hl9⟩ := len_succ hl8
          obtain ⟨v9, vs, rfl, hl10⟩ := len_succ hl9
          obtain ⟨v10, vs, rfl, hl11⟩ := len_succ hl10
          obtain ⟨v11, vs, rfl, hl12⟩ := len_succ hl11
          obtain ⟨v12, vs, rfl, hl13⟩ := len_succ hl12
          obtain ⟨v13, vs, rfl, hl14⟩ := len_succ hl13
          obtain ⟨v14, vs, rfl, hl15⟩ := len_succ hl14
          obtain ⟨v15, vs, rfl, hl16⟩ := len_succ hl15
          obtain ⟨v16, vs, rfl, hl17⟩ := len_succ hl16
          obtain ⟨v17, vs, rfl, hl18⟩ := len_succ hl17
          obtain ⟨v18, vs, rfl, hl19⟩ := len_succ hl18
          obtain ⟨v19, vs, rfl, hl20⟩ := len_succ hl19
          obtain ⟨v20, vs, rfl, hl21⟩ := len_succ hl20
          obtain ⟨v21, vs, rfl, hl22⟩ := len_succ hl21
          obtain ⟨v22, vs, rfl, hl23⟩ := len_succ hl22
          obtain rfl := len_zero hl23
          have dd := hd 13 (by simp) _ rfl; simp only [List.getD_cons_zero, List.getD_cons_succ] at dd; obtain rfl := dd
          clear hd hl hl1 hl2 hl3 hl4 hl5 hl6 hl7 hl8 hl9 hl10 hl11 hl12 hl13 hl14 hl15 hl16 hl17 hl18 hl19 hl20 hl21 hl22 hl23
          replace hK := hK.out
          simp only [puts, List.set_cons_zero, List.set_cons_succ, Act.put, List.setIfInBounds_toArray] at hK ⊢
          have hK' : Shut _ := hK
          clear hK
          obtain ⟨q0, q1, q2, q3, q4, q5, q6⟩ := HBX.out _ hR
          go_simp
          (try go_wp2_with fail)
          exact hK'.out _ _ (Below.refl _ _) (hR) (fun D hD => by cases hD; rfl)
        · refine ⟨[14, 13], by decide, fun vs w hl hR hd K hK => ?_⟩
          obtain ⟨v0, vs, rfl, hl1⟩ := len_succ hl
          obtain ⟨v1, vs, rfl, hl2⟩ := len_succ hl1
          obtain ⟨v2, vs, rfl, hl3⟩ := len_succ hl2
          obtain ⟨v3, vs, rfl, hl4⟩ := len_succ hl3
          obtain ⟨v4, vs, rfl, hl5⟩ := len_succ hl4
          obtain ⟨v5, vs, rfl, hl6⟩ := len_succ hl5
          obtain ⟨v6, vs, rfl, hl7⟩ := len_succ hl6
          obtain ⟨v7, vs, rfl, hl8⟩ := len_succ hl7
          obtain ⟨v8, vs, rfl, hl9⟩ := len_succ hl8
          obtain ⟨v9, vs, rfl, hl10⟩ := len_succ hl9
          obtain ⟨v10, vs, rfl, hl11⟩ := len_succ hl10
          obtain ⟨v11, vs, rfl, hl12⟩ := len_succ hl11
          obtain ⟨v12, vs, rfl, hl13⟩ := len_succ hl12
          obtain ⟨v13, vs, rfl, hl14⟩ := len_succ hl13
          obtain ⟨v14, vs, rfl, hl15⟩ := len_succ hl14
          obtain ⟨v15, vs, rfl, hl16⟩ := len_succ hl15
          obtain ⟨v16, vs, rfl, hl17⟩ := len_succ hl16
          obtain ⟨v17, vs, rfl, hl18⟩ := len_succ hl17
          obtain ⟨v18, vs, rfl, hl19⟩ := len_succ hl18
          obtain ⟨v19, vs, rfl, hl20⟩ := len_succ hl19
          obtain ⟨v20, vs, rfl, hl21⟩ := len_succ hl20
          obtain ⟨v21, vs, rfl, hl22⟩ := len_succ hl21
          obtain ⟨v22, vs, rfl, hl23⟩ := len_succ hl22
          obtain rfl := len_zero hl23
          have dd := hd 14 (by simp) _ rfl; simp only [List.getD_cons_zero, List.getD_cons_succ] at dd; obtain rfl := dd
          have dd := hd 13 (by simp) _ rfl; simp only [List.getD_cons_zero, List.getD_cons_succ] at dd; obtain rfl := dd
          clear hd hl hl1 hl2 hl3 hl4 hl5 hl6 hl7 hl8 hl9 hl10 hl11 hl12 hl13 hl14 hl15 hl16 hl17 hl18 hl19 hl20 hl21 hl22 hl23
          replace hK := hK.out
          simp only [puts, List.set_cons_zero, List.set_cons_succ, Act.put, List.setIfInBounds_toArray] at hK ⊢
          have hK' : Shut _ := hK
          clear hK
          go_simp
          go_at_call 15; (with_reducible refine (hrule_v (HFV.out _ hR)).mono ?_); rintro e w2 ⟨u, rfl, hr, hb⟩
          (try go_wp2_with fail)
          exact hK'.out _ _ (hb) (stepc hR (hb)) (fun D hD => by cases hD; exact hr)
        · refine ⟨[13], by decide, fun vs w hl hR hd K hK => ?_⟩
          obtain ⟨v0, vs, rfl, hl1⟩ := len_succ hl
          obtain ⟨v1, vs, rfl, hl2⟩ := len_succ hl1
          obtain ⟨v2, vs, rfl, hl3⟩ := len_succ hl2
          obtain ⟨v3, vs, rfl, hl4⟩ := len_succ hl3
          obtain ⟨v4, vs, rfl, hl5⟩ := len_succ hl4
          obtain ⟨v5, vs, rfl, hl6⟩ := len_succ hl5
          obtain ⟨v6, vs, rfl, hl7⟩ := len_succ hl6
          obtain ⟨v7, vs, rfl, hl8⟩ := len_succ hl7
          obtain ⟨v8, vs, rfl, hl9⟩ := len_succ hl8
          obtain ⟨v9, vs, rfl, hl10⟩ := len_succ hl9
          obtain ⟨v10, vs, rfl, hl11⟩ := len_succ hl10
          obtain ⟨v11, vs, rfl, hl12⟩ := len_succ hl11
          obtain ⟨v12, vs, rfl, hl13⟩ := len_succ hl12
          obtain ⟨v13, vs, rfl, hl14⟩ := len_succ hl13
          obtain ⟨v14, vs, rfl, hl15⟩ := len_succ hl14
          obtain ⟨v15, vs, rfl, hl16⟩ := len_succ hl15
          obtain ⟨v16, vs, rfl, hl17⟩ := len_succ hl16
          obtain ⟨v17, vs, rfl, hl18⟩ := len_succ hl17
          obtain ⟨v18, vs, rfl, hl19⟩ := len_succ hl18
          obtain ⟨v19, vs, rfl, hl20⟩ := len_succ hl19
          obtain ⟨v20, vs, rfl, hl21⟩ := len_succ hl20
          obtain ⟨v21, vs, rfl, hl22⟩ := len_succ hl21
          obtain ⟨v22, vs, rfl, hl23⟩ := len_succ hl22
          obtain rfl := len_zero hl23
          have dd := hd 13 (by simp) _ rfl; simp only [List.getD_cons_zero, List.getD_cons_succ] at dd; obtain rfl := dd
          clear hd hl hl1 hl2 hl3 hl4 hl5 hl6 hl7 hl8 hl9 hl10 hl11 hl12 hl13 hl14 hl15 hl16 hl17 hl18 hl19 hl20 hl21 hl22 hl23
          replace hK := hK.out
          simp only [puts, List.set_cons_zero, List.set_cons_succ, Act.put, List.setIfInBounds_toArray] at hK ⊢
          have hK' : Shut _ := hK
          clear hK
          go_simp
          (try go_wp2_with fail)
          exact hK'.out _ _ ((Below.refl _ _).alloc (Nat.le_refl _) _) (stepc hR ((Below.refl _ _).alloc (Nat.le_refl _) _)) (fun D hD => by cases hD; exact ⟨_, rfl, iw_two _ _ _⟩)
        · refine ⟨[16, 13], by decide, fun vs w hl hR hd K hK => ?_⟩
          obtain ⟨v0, vs, rfl, hl1⟩ := len_succ hl
          obtain ⟨v1, vs, rfl, hl2⟩ := len_succ hl1
          obtain ⟨v2, vs, rfl, hl3⟩ := len_succ hl2
          obtain ⟨v3, vs, rfl, hl4⟩ := len_succ hl3
          obtain ⟨v4, vs, rfl, hl5⟩ := len_succ hl4
          obtain ⟨v5, vs, rfl, hl6⟩ := len_succ hl5
          obtain ⟨v6, vs, rfl, hl7⟩ := len_succ hl6
          obtain ⟨v7, vs, rfl, hl8⟩ := len_succ hl7
          obtain ⟨v8, vs, rfl, hl9⟩ := len_succ hl8
          obtain ⟨v9, vs, rfl, hl10⟩ := len_succ hl9
          obtain ⟨v10, vs, rfl, hl11⟩ := len_succ hl10
          obtain ⟨v11, vs, rfl, hl12⟩ := len_succ hl11
          obtain ⟨v12, vs, rfl, hl13⟩ := len_succ hl12
          obtain ⟨v13, vs, rfl, hl14⟩ := len_succ hl13
          obtain ⟨v14, vs, rfl, hl15⟩ := len_succ hl14
          obtain ⟨v15, vs, rfl, hl16⟩ := len_succ hl15
          obtain ⟨v16, vs, rfl, hl17⟩ := len_succ hl16
          obtain ⟨v17, vs, rfl, hl18⟩ := len_succ hl17
          obtain ⟨v18, vs, rfl, hl19⟩ := len_succ hl18
          obtain ⟨v19, vs, rfl, hl20⟩ := len_succ hl19
          obtain ⟨v20, vs, rfl, hl21⟩ := len_succ hl20
          obtain ⟨v21, vs, rfl, hl22⟩ := len_succ hl21
          obtain ⟨v22, vs, rfl, hl23⟩ := len_succ hl22
          obtain rfl := len_zero hl23
          have dd := hd 16 (by simp) _ rfl; simp only [List.getD_cons_zero, List.getD_cons_succ] at dd; refine dd.elim ?_; clear dd; intro g hg; have e1 := hg.1; have hi := hg.2; clear hg; subst e1
          have dd := hd 13 (by simp) _ rfl; simp only [List.getD_cons_zero, List.getD_cons_succ] at dd; obtain rfl := dd
          clear hd hl hl1 hl2 hl3 hl4 hl5 hl6 hl7 hl8 hl9 hl10 hl11 hl12 hl13 hl14 hl15 hl16 hl17 hl18 hl19 hl20 hl21 hl22 hl23
          replace hK := hK.out
          simp only [puts, List.set_cons_zero, List.set_cons_succ, Act.put, List.setIfInBounds_toArray] at hK ⊢
          have hK' : Shut _ := hK
          clear hK
          go_simp
          go_at_call 36; (with_reducible refine (ofv_any hi (by omega)).mono ?_); rw [of56]; rintro e w2 ⟨u, rfl, hr, hb⟩
          (try go_wp2_with fail)
          exact hK'.out _ _ (hb) (stepc hR (hb)) (fun D hD => by cases hD; exact hr)
        · refine ⟨[15, 17, 13], by decide, fun vs w hl hR hd K hK => ?_⟩
          obtain ⟨v0, vs, rfl, hl1⟩ := len_succ hl
          obtain ⟨v1, vs, rfl, hl2⟩ := len_succ hl1
          obtain ⟨v2, vs, rfl, hl3⟩ := len_succ hl2
          obtain ⟨v3, vs, rfl, hl4⟩ := len_succ hl3
          obtain ⟨v4, vs, rfl, hl5⟩ := len_succ hl4
          obtain ⟨v5, vs, rfl, hl6⟩ := len_succ hl5
          obtain ⟨v6, vs, rfl, hl7⟩ := len_succ hl6
          obtain ⟨v7, vs, rfl, hl8⟩ := len_succ hl7
          obtain ⟨v8, vs, rfl, hl9⟩ := len_succ hl8
          obtain ⟨v9, vs, rfl, hl10⟩ := len_succ hl9
          obtain ⟨v10, vs, rfl, hl11⟩ := len_succ hl10
          obtain ⟨v11, vs, rfl, hl12⟩ := len_succ hl11
          obtain ⟨v12, vs, rfl, hl13⟩ := len_succ hl12
          obtain ⟨v13, vs, rfl, hl14⟩ := len_succ hl13
          obtain ⟨v14, vs, rfl, hl15⟩ := len_succ hl14
          obtain ⟨v15, vs, rfl, hl16⟩ := len_succ hl15
          obtain ⟨v16, vs, rfl, hl17⟩ := len_succ hl16
          obtain ⟨v17, vs, rfl, hl18⟩ := len_succ hl17
          obtain ⟨v18, vs, rfl, hl19⟩ := len_succ hl18
          obtain ⟨v19, vs, rfl, hl20⟩ := len_succ hl19
          obtain ⟨v20, vs, rfl, hl21⟩ := len_succ hl20
          obtain ⟨v21, vs, rfl, hl22⟩ := len_succ hl21
          obtain ⟨v22, vs, rfl, hl23⟩ := len_succ hl22
          obtain rfl := len_zero hl23
          have dd := hd 15 (by simp) _ rfl; simp only [List.getD_cons_zero, List.getD_cons_succ] at dd; have r1 := dd; clear dd
          have dd := hd 17 (by simp) _ rfl; simp only [List.getD_cons_zero, List.getD_cons_succ] at dd; have r5 := dd; clear dd
          have dd := hd 13 (by simp) _ rfl; simp only [List.getD_cons_zero, List.getD_cons_succ] at dd; obtain rfl := dd
          clear hd hl hl1 hl2 hl3 hl4 hl5 hl6 hl7 hl8 hl9 hl10 hl11 hl12 hl13 hl14 hl15 hl16 hl17 hl18 hl19 hl20 hl21 hl22 hl23
          replace hK := hK.out
          simp only [puts, List.set_cons_zero, List.set_cons_succ, Act.put, List.setIfInBounds_toArray] at hK ⊢
          have hK' : Shut _ := hK
          clear hK
          go_simp
          go_at_call 34; (with_reducible refine (check_v 6 r1 r5 EYg.out).mono ?_); rintro e w2 ⟨rfl, hb⟩
          (try go_wp2_with fail)
          exact hK'.out _ _ (hb) (stepc hR (hb)) (fun D hD => by cases hD; rfl)
        · refine ⟨[13], by decide, fun vs w hl hR hd K hK => ?_⟩
          obtain ⟨v0, vs, rfl, hl1⟩ := len_succ hl
          obtain ⟨v1, vs, rfl, hl2⟩ := len_succ hl1
          obtain ⟨v2, vs, rfl, hl3⟩ := len_succ hl2
          obtain ⟨v3, vs, rfl, hl4⟩ := len_succ hl3
          obtain ⟨v4, vs, rfl, hl5⟩ := len_succ hl4
          obtain ⟨v5, vs, rfl, hl6⟩ := len_succ hl5
          obtain ⟨v6, vs, rfl, hl7⟩ := len_succ hl6
          obtain ⟨v7, vs, rfl, hl8⟩ := len_succ hl7
          obtain ⟨v8, vs, rfl, hl9⟩ := len_succ hl8
          obtain ⟨v9, vs, rfl, hl10⟩ := len_succ hl9
          obtain ⟨v10, vs, rfl, hl11⟩ := len_succ hl10
          obtain ⟨v11, vs, rfl, hl12⟩ := len_succ hl11
          obtain ⟨v12, vs, rfl, hl13⟩ := len_succ hl12
          obtain ⟨v13, vs, rfl, hl14⟩ := len_succ hl13
          obtain ⟨v14, vs, rfl, hl15⟩ := len_succ hl14
          obtain ⟨v15, vs, rfl, hl16⟩ := len_succ hl15
          obtain ⟨v16, vs, rfl, hl17⟩ := len_succ hl16
          obtain ⟨v17, vs, rfl, hl18⟩ := len_succ hl17
          obtain ⟨v18, vs, rfl, hl19⟩ := len_succ hl18
          obtain ⟨v19, vs, rfl, hl20⟩ := len_succ hl19
          obtain ⟨v20, vs, rfl, hl21⟩ := len_succ hl20
          obtain ⟨v21, vs, rfl, hl22⟩ := len_succ hl21
          obtain ⟨v22, vs, rfl, hl23⟩ := len_succ hl22
          obtain rfl := len_zero hl23
          have dd := hd 13 (by simp) _ rfl; simp only [List.getD_cons_zero, List.getD_cons_succ] at dd; obtain rfl := dd
          clear hd hl hl1 hl2 hl3 hl4 hl5 hl6 hl7 hl8 hl9 hl10 hl11 hl12 hl13 hl14 hl15 hl16 hl17 hl18 hl19 hl20 hl21 hl22 hl23
          replace hK := hK.out
          simp only [puts, List.set_cons_zero, List.set_cons_succ, Act.put, List.setIfInBounds_toArray] at hK ⊢
          have hK' : Shut _ := hK
          clear hK
          obtain ⟨q0, q1, q2, q3, q4, q5, q6⟩ := HBX.out _ hR
          go_simp
          (try go_wp2_with fail)
          exact hK'.out _ _ (Below.refl _ _) (hR) (fun D hD => by cases hD; rfl)
        · refine ⟨[19, 13], by decide, fun vs w hl hR hd K hK => ?_⟩
          obtain ⟨v0, vs, rfl, hl1⟩ := len_succ hl
          obtain ⟨v1, vs, rfl, hl2⟩ := len_succ hl1
          obtain ⟨v2, vs, rfl, hl3⟩ := len_succ hl2
          obtain ⟨v3, vs, rfl, hl4⟩ := len_succ hl3
          obtain ⟨v4, vs, rfl, hl5⟩ := len_succ hl4
          obtain ⟨v5, vs, rfl, hl6⟩ := len_succ hl5
          obtain ⟨v6, vs, rfl, hl7⟩ := len_succ hl6
          obtain ⟨v7, vs, rfl, hl8⟩ := len_succ hl7
          obtain ⟨v8, vs, rfl, hl9⟩ := len_succ hl8
          obtain ⟨v9, vs, rfl, hl10⟩ := len_succ hl9
          obtain ⟨v10, vs, rfl, hl11⟩ := len_succ hl10
          obtain ⟨v11, vs, rfl, hl12⟩ := len_succ hl11
          obtain ⟨v12, vs, rfl, hl13⟩ := len_succ hl12
          obtain ⟨v13, vs, rfl, hl14⟩ := len_succ hl13
          obtain ⟨v14, vs, rfl, hl15⟩ := len_succ hl14
          obtain ⟨v15, vs, rfl, hl16⟩ := len_succ hl15
          obtain ⟨v16, vs, rfl, hl17⟩ := len_succ hl16
          obtain ⟨v17, vs, rfl, hl18⟩ := len_succ hl17
          obtain ⟨v18, vs, rfl, hl19⟩ := len_succ hl18
          obtain ⟨v19, vs, rfl, hl20⟩ := len_succ hl19
          obtain ⟨v20, vs, rfl, hl21⟩ := len_succ hl20
          obtain ⟨v21, vs, rfl, hl22⟩ := len_succ hl21
          obtain ⟨v22, vs, rfl, hl23⟩ := len_succ hl22
          obtain rfl := len_zero hl23
          have dd := hd 19 (by simp) _ rfl; simp only [List.getD_cons_zero, List.getD_cons_succ] at dd; obtain rfl := dd
          have dd := hd 13 (by simp) _ rfl; simp only [List.getD_cons_zero, List.getD_cons_succ] at dd; obtain rfl := dd
          clear hd hl hl1 hl2 hl3 hl4 hl5 hl6 hl7 hl8 hl9 hl10 hl11 hl12 hl13 hl14 hl15 hl16 hl17 hl18 hl19 hl20 hl21 hl22 hl23
          replace hK := hK.out
          simp only [puts, List.set_cons_zero, List.set_cons_succ, Act.put, List.setIfInBounds_toArray] at hK ⊢
          have hK' : Shut _ := hK
          clear hK
          go_simp
          go_at_call 35; (with_reducible refine (rcheck96_v (HFV.out _ hR) EFYg.out).mono ?_); rintro e w2 ⟨rfl, hb⟩
          (try go_wp2_with fail)
          exact hK'.out _ _ (hb) (stepc hR (hb)) (fun D hD => by cases hD; rfl)
        · refine ⟨[18, 20, 13], by decide, fun vs w hl hR hd K hK => ?_⟩
          obtain ⟨v0, vs, rfl, hl1⟩ := len_succ hl
          obtain ⟨v1, vs, rfl, hl2⟩ := len_succ hl1
          obtain ⟨v2, vs, rfl, hl3⟩ := len_succ hl2
          obtain ⟨v3, vs, rfl, hl4⟩ := len_succ hl3
          obtain ⟨v4, vs, rfl, hl5⟩ := len_succ hl4
          obtain ⟨v5, vs, rfl, hl6⟩ := len_succ hl5
          obtain ⟨v6, vs, rfl, hl7⟩ := len_succ hl6
          obtain ⟨v7, vs, rfl, hl8⟩ := len_succ hl7
          obtain ⟨v8, vs, rfl, hl9⟩ := len_succ hl8
          obtain ⟨v9, vs, rfl, hl10⟩ := len_succ hl9
          obtain ⟨v10, vs, rfl, hl11⟩ := len_succ hl10
          obtain ⟨v11, vs, rfl, hl12⟩ := len_succ hl11
          obtain ⟨v12, vs, rfl, hl13⟩ := len_succ hl12
          obtain ⟨v13, vs, rfl, hl14⟩ := len_succ hl13
          obtain ⟨v14, vs, rfl, hl15⟩ := len_succ hl14
          obtain ⟨v15, vs, rfl, hl16⟩ := len_succ hl15
          obtain ⟨v16, vs, rfl, hl17⟩ := len_succ hl16
          obtain ⟨v17, vs, rfl, hl18⟩ := len_succ hl17
          obtain ⟨v18, vs, rfl, hl19⟩ := len_succ hl18
          obtain ⟨v19, vs, rfl, hl20⟩ := len_succ hl19
          obtain ⟨v20, vs, rfl, hl21⟩ := len_succ hl20
          obtain ⟨v21, vs, rfl, hl22⟩ := len_succ hl21
          obtain ⟨v22, vs, rfl, hl23⟩ := len_succ hl22
          obtain rfl := len_zero hl23
          have dd := hd 18 (by simp) _ rfl; simp only [List.getD_cons_zero, List.getD_cons_succ] at dd; obtain rfl := dd
          have dd := hd 20 (by simp) _ rfl; simp only [List.getD_cons_zero, List.getD_cons_succ] at dd; obtain rfl := dd
          have dd := hd 13 (by simp) _ rfl; simp only [List.getD_cons_zero, List.getD_cons_succ] at dd; obtain rfl := dd
          clear hd hl hl1 hl2 hl3 hl4 hl5 hl6 hl7 hl8 hl9 hl10 hl11 hl12 hl13 hl14 hl15 hl16 hl17 hl18 hl19 hl20 hl21 hl22 hl23
          replace hK := hK.out
          simp only [puts, List.set_cons_zero, List.set_cons_succ, Act.put, List.setIfInBounds_toArray] at hK ⊢
          have hK' : Shut _ := hK
          clear hK
          go_simp
          (try go_wp2_with fail)
          exact hK'.out _ _ (Below.refl _ _) (hR) (fun D hD => by cases hD; rfl)
        · refine ⟨[13, 21], by decide, fun vs w hl hR hd K hK => ?_⟩
          obtain ⟨v0, vs, rfl, hl1⟩ := len_succ hl
          obtain ⟨v1, vs, rfl, hl2⟩ := len_succ hl1
          obtain ⟨v2, vs, rfl, hl3⟩ := len_succ hl2
          obtain ⟨v3, vs, rfl, hl4⟩ := len_succ hl3
          obtain ⟨v4, vs, rfl, hl5⟩ := len_succ hl4
          obtain ⟨v5, vs, rfl, hl6⟩ := len_succ hl5
          obtain ⟨v6, vs, rfl, hl7⟩ := len_succ hl6
          obtain ⟨v7, vs, rfl, hl8⟩ := len_succ hl7
          obtain ⟨v8, vs, rfl, hl9⟩ := len_succ hl8
          obtain ⟨v9, vs, rfl, hl10⟩ := len_succ hl9
          obtain ⟨v10, vs, rfl, hl11⟩ := len_succ hl10
          obtain ⟨v11, vs, rfl, hl12⟩ := len_succ hl11
          obtain ⟨v12, vs, rfl, hl13⟩ := len_succ hl12
          obtain ⟨v13, vs, rfl, hl14⟩ := len_succ hl13
          obtain ⟨v14, vs, rfl, hl15⟩ := len_succ hl14
          obtain ⟨v15, vs, rfl, hl16⟩ := len_succ hl15
          obtain ⟨v16, vs, rfl, hl17⟩ := len_succ hl16
          obtain ⟨v17, vs, rfl, hl18⟩ := len_succ hl17
          obtain ⟨v18, vs, rfl, hl19⟩ := len_succ hl18
          obtain ⟨v19, vs, rfl, hl20⟩ := len_succ hl19
          obtain ⟨v20, vs, rfl, hl21⟩ := len_succ hl20
          obtain ⟨v21, vs, rfl, hl22⟩ := len_succ hl21
          obtain ⟨v22, vs, rfl, hl23⟩ := len_succ hl22
          obtain rfl := len_zero hl23
          have dd := hd 13 (by simp) _ rfl; simp only [List.getD_cons_zero, List.getD_cons_succ] at dd; obtain rfl := dd
          have dd := hd 21 (by simp) _ rfl; simp only [List.getD_cons_zero, List.getD_cons_succ] at dd; obtain rfl := dd
          clear hd hl hl1 hl2 hl3 hl4 hl5 hl6 hl7 hl8 hl9 hl10 hl11 hl12 hl13 hl14 hl15 hl16 hl17 hl18 hl19 hl20 hl21 hl22 hl23
          replace hK := hK.out
          simp only [puts, List.set_cons_zero, List.set_cons_succ, Act.put, List.setIfInBounds_toArray] at hK ⊢
          have hK' : Shut _ := hK
          clear hK
          go_simp
          (try go_wp2_with fail)
          exact hK'.out _ _ (Below.refl _ _) (hR) (fun D hD => by cases hD; rfl)
        · intro vs w4 hl hR hd
          obtain ⟨v0, vs, rfl, hl1⟩ := len_succ hl
          obtain ⟨v1, vs, rfl, hl2⟩ := len_succ hl1
          obtain ⟨v2, vs, rfl, hl3⟩ := len_succ hl2
          obtain ⟨v3, vs, rfl, hl4⟩ := len_succ hl3
          obtain ⟨v4, vs, rfl, hl5⟩ := len_succ hl4
          obtain ⟨v5, vs, rfl, hl6⟩ := len_succ hl5
          obtain ⟨v6, vs, rfl, hl7⟩ := len_succ hl6
          obtain ⟨v7, vs, rfl, hl8⟩ := len_succ hl7
          obtain ⟨v8, vs, rfl, hl9⟩ := len_succ hl8
          obtain ⟨v9, vs, rfl, hl10⟩ := len_succ hl9
          obtain ⟨v10, vs, rfl, hl11⟩ := len_succ hl10
          obtain ⟨v11, vs, rfl, hl12⟩ := len_succ hl11
          obtain ⟨v12, vs, rfl, hl13⟩ := len_succ hl12
          obtain ⟨v13, vs, rfl, hl14⟩ := len_succ hl13
          obtain ⟨v14, vs, rfl, hl15⟩ := len_succ hl14
          obtain ⟨v15, vs, rfl, hl16⟩ := len_succ hl15
          obtain ⟨v16, vs, rfl, hl17⟩ := len_succ hl16
          obtain ⟨v17, vs, rfl, hl18⟩ := len_succ hl17
          obtain ⟨v18, vs, rfl, hl19⟩ := len_succ hl18
          obtain ⟨v19, vs, rfl, hl20⟩ := len_succ hl19
          obtain ⟨v20, vs, rfl, hl21⟩ := len_succ hl20
          obtain ⟨v21, vs, rfl, hl22⟩ := len_succ hl21
          obtain ⟨v22, vs, rfl, hl23⟩ := len_succ hl22
          obtain rfl := len_zero hl23
          have dd := hd 22 _ rfl; simp only [List.getD_cons_zero, List.getD_cons_succ] at dd; obtain rfl := dd
          clear hd hl hl1 hl2 hl3 hl4 hl5 hl6 hl7 hl8 hl9 hl10 hl11 hl12 hl13 hl14 hl15 hl16 hl17 hl18 hl19 hl20 hl21 hl22 hl23
          simp only [puts, List.set_cons_zero, List.set_cons_succ, Act.put, List.setIfInBounds_toArray]
          go_wp2_with fail
          go_roundw
          case rel => exact ⟨2, by omega, by go_num, stepc HB5.out hR⟩
          case measure => simp [intOf]
      · obtain rfl : j = 0 := by omega
        have HQ0 := Lib.hid (fun w' (hb : Below wr.heap.size wr w') => HQ0.out w' (stepc hbw hb))
        have HQ1 := Lib.hid (fun w' (hb : Below wr.heap.size wr w') => HQ1.out w' (stepc hbw hb))
        have HFV := Lib.hid (fun w' (hb : Below wr.heap.size wr w') => HFV.out w' (stepc hbw hb))
        have HGV := Lib.hid (fun w' (hb : Below wr.heap.size wr w') => HGV.out w' (stepc hbw hb))
        have HBW := Lib.hid (fun w' (hb : Below wr.heap.size wr w') => HBW.out w' (stepc hbw hb))
        clear hbw HROW HQT EXf EYf EXg EYg EFXf EFYf EFXg EFYg
        go_wp2_with fail
        refine region_slots [54, 55, 56, 57, 58, 59, 60, 61, 62, 63, 64, 65, 66, 67, 68, 69, 6]
          [fun v w => v = .agg #[.bool f.revoke, .int .i64 f.admin, .int .i64 f.target, .int .u64 (f.yes : Nat), .int .u64 (f.no : Nat), .slice a1 n1 c1, .int .i64 f.longest],
           fun v w => RlV w v (toRl f),
           fun v w => v = .agg #[.bool g.revoke, .int .i64 g.admin, .int .i64 g.target, .int .u64 (g.yes : Nat), .int .u64 (g.no : Nat), .slice a2 n2 c2, .int .i64 g.longest],
           fun v w => RlV w v (toRl g),
           fun v w => v = .bool q,
           fun v w => v = .agg #[.bool f.revoke, .int .i64 f.admin, .int .i64 f.target, .int .u64 (f.yes : Nat), .int .u64 (f.no : Nat), .slice a1 n1 c1, .int .i64 f.longest],
           fun v w => v = .agg #[.bool g.revoke, .int .i64 g.admin, .int .i64 g.target, .int .u64 (g.yes : Nat), .int .u64 (g.no : Nat), .slice a2 n2 c2, .int .i64 g.longest],
           fun v w => v = .bool q,
           fun v w => v = .bool true,
           fun v w => v = .bool true,
           fun v w => v = .agg #[.bool f.revoke, .int .i64 f.admin, .int .i64 f.target, .int .u64 (f.yes : Nat), .int .u64 (f.no : Nat), .slice a1 n1 c1, .int .i64 f.longest],
           fun v w => RlV w v (toRl f),
           fun v w => v = .agg #[.bool f.revoke, .int .i64 f.admin, .int .i64 f.target, .int .u64 (f.yes : Nat), .int .u64 (f.no : Nat), .slice a1 n1 c1, .int .i64 f.longest],
           fun v w => RlV w v (toRl f),
           fun v w => v = .bool true,
           fun v w => v = .bool true,
           fun v w => v = .bool true]
          (fun w' => Below wr.heap.size wr w') (fun w w' => Below w.heap.size w w') (by kernel_rfl) (by kernel_rfl) rfl [undef, undef, undef, undef, undef, undef, undef, undef, undef, undef, undef, undef, undef, undef, undef, undef, u6] (by simp only [puts, List.set_cons_zero, List.set_cons_succ, Act.put, List.setIfInBounds_toArray]) rfl ((Below.refl _ _).drew) ?_ ⟨?_, ?_, ?_, ?_, ?_, ?_, ?_, ?_, ?_, ?_, ?_, ?_, ?_, ?_, ?_, ?_, ?_, trivial⟩ ?_
        · intro j D hj v w w' hb hD
          match j, hj with
          | 0, hj => cases hj; exact hD
          | 1, hj => cases hj; exact hD.below hb
          | 2, hj => cases hj; exact hD
          | 3, hj => cases hj; exact hD.below hb
          | 4, hj => cases hj; exact hD
          | 5, hj => cases hj; exact hD
          | 6, hj => cases hj; exact hD
          | 7, hj => cases hj; exact hD
          | 8, hj => cases hj; exact hD
          | 9, hj => cases hj; exact hD
          | 10, hj => cases hj; exact hD
          | 11, hj => cases hj; exact hD.below hb
          | 12, hj => cases hj; exact hD
          | 13, hj => cases hj; exact hD.below hb
          | 14, hj => cases hj; exact hD
          | 15, hj => cases hj; exact hD
          | 16, hj => cases hj; exact hD
          | j + 17, hj => cases hj
        · refine ⟨[], by decide, fun vs w hl hR hd K hK => ?_⟩
          obtain ⟨v0, vs, rfl, hl1⟩ := len_succ hl
          obtain ⟨v1, vs, rfl, hl2⟩ := len_succ hl1
          obtain ⟨v2, vs, rfl, hl3⟩ := len_succ hl2
          obtain ⟨v3, vs, rfl, hl4⟩ := len_succ hl3
          obtain ⟨v4, vs, rfl, hl5⟩ := len_succ hl4
          obtain ⟨v5, vs, rfl, hl6⟩ := len_succ hl5
          obtain ⟨v6, vs, rfl, hl7⟩ := len_succ hl6
          obtain ⟨v7, vs, rfl, hl8⟩ := len_succ hl7
          obtain ⟨v8, vs, rfl, hl9⟩ := len_succ hl8
          obtain ⟨v9, vs, rfl, hl10⟩ := len_succ hl9
          obtain ⟨v10, vs, rfl, hl11⟩ := len_succ hl10
          obtain ⟨v11, vs, rfl, hl12⟩ := len_succ hl11
          obtain ⟨v12, vs, rfl, hl13⟩ := len_succ hl12
          obtain ⟨v13, vs, rfl, hl14⟩ := len_succ hl13
          obtain ⟨v14, vs, rfl, hl15⟩ := len_succ hl14
          obtain ⟨v15, vs, rfl, hl16⟩ := len_succ hl15
          obtain ⟨v16, vs, rfl, hl17⟩ := len_succ hl16
          obtain rfl := len_zero hl17
          clear hd hl hl1 hl2 hl3 hl4 hl5 hl6 hl7 hl8 hl9 hl10 hl11 hl12 hl13 hl14 hl15 hl16 hl17
          replace hK := hK.out
          simp only [puts, List.set_cons_zero, List.set_cons_succ, Act.put, List.setIfInBounds_toArray] at hK ⊢
          have hK' : Shut _ := hK
          clear hK
          obtain ⟨q0, q1, q2, q3, q4, q5, q6⟩ := HQ0.out _ hR
          go_simp
          (try go_wp2_with fail)
          exact hK'.out _ _ (Below.refl _ _) (hR) (fun D hD => by cases hD; rfl)
        · refine ⟨[0], by decide, fun vs w hl hR hd K hK => ?_⟩
          obtain ⟨v0, vs, rfl, hl1⟩ := len_succ hl
          obtain ⟨v1, vs, rfl, hl2⟩ := len_succ hl1
          obtain ⟨v2, vs, rfl, hl3⟩ := len_succ hl2
          obtain ⟨v3, vs, rfl, hl4⟩ := len_succ hl3
          obtain ⟨v4, vs, rfl, hl5⟩ := len_succ hl4
          obtain ⟨v5, vs, rfl, hl6⟩ := len_succ hl5
          obtain ⟨v6, vs, rfl, hl7⟩ := len_succ hl6
          obtain ⟨v7, vs, rfl, hl8⟩ := len_succ hl7
          obtain ⟨v8, vs, rfl, hl9⟩ := len_succ hl8
          obtain ⟨v9, vs, rfl, hl10⟩ := len_succ hl9
          obtain ⟨v10, vs, rfl, hl11⟩ := len_succ hl10
          obtain ⟨v11, vs, rfl, hl12⟩ := len_succ hl11
          obtain ⟨v12, vs, rfl, hl13⟩ := len_succ hl12
          obtain ⟨v13, vs, rfl, hl14⟩ := len_succ hl13
          obtain ⟨v14, vs, rfl, hl15⟩ := len_succ hl14
          obtain ⟨v15, vs, rfl, hl16⟩ := len_succ hl15
          obtain ⟨v16, vs, rfl, hl17⟩ := len_succ hl16
          obtain rfl := len_zero hl17
          have dd := hd 0 (by simp) _ rfl; simp only [List.getD_cons_zero, List.getD_cons_succ] at dd; obtain rfl := dd
          clear hd hl hl1 hl2 hl3 hl4 hl5 hl6 hl7 hl8 hl9 hl10 hl11 hl12 hl13 hl14 hl15 hl16 hl17
          replace hK := hK.out
          simp only [puts, List.set_cons_zero, List.set_cons_succ, Act.put, List.setIfInBounds_toArray] at hK ⊢
          have hK' : Shut _ := hK
          clear hK
          go_simp
          go_at_call 15; (with_reducible refine (hrule_v (HFV.out _ hR)).mono ?_); rintro e w2 ⟨u, rfl, hr, hb⟩
          (try go_wp2_with fail)
          exact hK'.out _ _ (hb) (stepc hR (hb)) (fun D hD => by cases hD; exact hr)
        · refine ⟨[], by decide, fun vs w hl hR hd K hK => ?_⟩
          obtain ⟨v0, vs, rfl, hl1⟩ := len_succ hl
          obtain ⟨v1, vs, rfl, hl2⟩ := len_succ hl1
          obtain ⟨v2, vs, rfl, hl3⟩ := len_succ hl2
          obtain ⟨v3, vs, rfl, hl4⟩ := len_succ hl3
          obtain ⟨v4, vs, rfl, hl5⟩ := len_succ hl4
          obtain ⟨v5, vs, rfl, hl6⟩ := len_succ hl5
          obtain ⟨v6, vs, rfl, hl7⟩ := len_succ hl6
          obtain ⟨v7, vs, rfl, hl8⟩ := len_succ hl7
          obtain ⟨v8, vs, rfl, hl9⟩ := len_succ hl8
          obtain ⟨v9, vs, rfl, hl10⟩ := len_succ hl9
          obtain ⟨v10, vs, rfl, hl11⟩ := len_succ hl10
          obtain ⟨v11, vs, rfl, hl12⟩ := len_succ hl11
          obtain ⟨v12, vs, rfl, hl13⟩ := len_succ hl12
          obtain ⟨v13, vs, rfl, hl14⟩ := len_succ hl13
          obtain ⟨v14, vs, rfl, hl15⟩ := len_succ hl14
          obtain ⟨v15, vs, rfl, hl16⟩ := len_succ hl15
          obtain ⟨v16, vs, rfl, hl17⟩ := len_succ hl16
          obtain rfl := len_zero hl17
          clear hd hl hl1 hl2 hl3 hl4 hl5 hl6 hl7 hl8 hl9 hl10 hl11 hl12 hl13 hl14 hl15 hl16 hl17
          replace hK := hK.out
          simp only [puts, List.set_cons_zero, List.set_cons_succ, Act.put, List.setIfInBounds_toArray] at hK ⊢
          have hK' : Shut _ := hK
          clear hK
          obtain ⟨q0, q1, q2, q3, q4, q5, q6⟩ := HQ1.out _ hR
          go_simp
          (try go_wp2_with fail)
          exact hK'.out _ _ (Below.refl _ _) (hR) (fun D hD => by cases hD; rfl)
        · refine ⟨[2], by decide, fun vs w hl hR hd K hK => ?_⟩
          obtain ⟨v0, vs, rfl, hl1⟩ := len_succ hl
          obtain ⟨v1, vs, rfl, hl2⟩ := len_succ hl1
          obtain ⟨v2, vs, rfl, hl3⟩ := len_succ hl2
          obtain ⟨v3, vs, rfl, hl4⟩ := len_succ hl3
          obtain ⟨v4, vs, rfl, hl5⟩ := len_succ hl4
          obtain ⟨v5, vs, rfl, hl6⟩ := len_succ hl5
          obtain ⟨v6, vs, rfl, hl7⟩ := len_succ hl6
          obtain ⟨v7, vs, rfl, hl8⟩ := len_succ hl7
          obtain ⟨v8, vs, rfl, hl9⟩ := len_succ hl8
          obtain ⟨v9, vs, rfl, hl10⟩ := len_succ hl9
          obtain ⟨v10, vs, rfl, hl11⟩ := len_succ hl10
          obtain ⟨v11, vs, rfl, hl12⟩ := len_succ hl11
          obtain ⟨v12, vs, rfl, hl13⟩ := len_succ hl12
          obtain ⟨v13, vs, rfl, hl14⟩ := len_succ hl13
          obtain ⟨v14, vs, rfl, hl15⟩ := len_succ hl14
          obtain ⟨v15, vs, rfl, hl16⟩ := len_succ hl15
          obtain ⟨v16, vs, rfl, hl17⟩ := len_succ hl16
          obtain rfl := len_zero hl17
          have dd := hd 2 (by simp) _ rfl; simp only [List.getD_cons_zero, List.getD_cons_succ] at dd; obtain rfl := dd
          clear hd hl hl1 hl2 hl3 hl4 hl5 hl6 hl7 hl8 hl9 hl10 hl11 hl12 hl13 hl14 hl15 hl16 hl17
          replace hK := hK.out
          simp only [puts, List.set_cons_zero, List.set_cons_succ, Act.put, List.setIfInBounds_toArray] at hK ⊢
          have hK' : Shut _ := hK
          clear hK
          go_simp
          go_at_call 15; (with_reducible refine (hrule_v (HGV.out _ hR)).mono ?_); rintro e w2 ⟨u, rfl, hr, hb⟩
          (try go_wp2_with fail)
          exact hK'.out _ _ (hb) (stepc hR (hb)) (fun D hD => by cases hD; exact hr)
        · refine ⟨[1, 3], by decide, fun vs w hl hR hd K hK => ?_⟩
          obtain ⟨v0, vs, rfl, hl1⟩ := len_succ hl
          obtain ⟨v1, vs, rfl, hl2⟩ := len_succ hl1
          obtain ⟨v2, vs, rfl, hl3⟩ := len_succ hl2
          obtain ⟨v3, vs, rfl, hl4⟩ := len_succ hl3
          obtain ⟨v4, vs, rfl, hl5⟩ := len_succ hl4
          obtain ⟨v5, vs, rfl, hl6⟩ := len_succ hl5
          obtain ⟨v6, vs, rfl, hl7⟩ := len_succ hl6
          obtain ⟨v7, vs, rfl, hl8⟩ := len_succ hl7
          obtain ⟨v8, vs, rfl, hl9⟩ := len_succ hl8
          obtain ⟨v9, vs, rfl, hl10⟩ := len_succ hl9
          obtain ⟨v10, vs, rfl, hl11⟩ := len_succ hl10
          obtain ⟨v11, vs, rfl, hl12⟩ := len_succ hl11
          obtain ⟨v12, vs, rfl, hl13⟩ := len_succ hl12
          obtain ⟨v13, vs, rfl, hl14⟩ := len_succ hl13
          obtain ⟨v14, vs, rfl, hl15⟩ := len_succ hl14
          obtain ⟨v15, vs, rfl, hl16⟩ := len_succ hl15
          obtain ⟨v16, vs, rfl, hl17⟩ := len_succ hl16
          obtain rfl := len_zero hl17
          have dd := hd 1 (by simp) _ rfl; simp only [List.getD_cons_zero, List.getD_cons_succ] at dd; have r1 := dd; clear dd
          have dd := hd 3 (by simp) _ rfl; simp only [List.getD_cons_zero, List.getD_cons_succ] at dd; have r3 := dd; clear dd
          clear hd hl hl1 hl2 hl3 hl4 hl5 hl6 hl7 hl8 hl9 hl10 hl11 hl12 hl13 hl14 hl15 hl16 hl17
          replace hK := hK.out
          simp only [puts, List.set_cons_zero, List.set_cons_succ, Act.put, List.setIfInBounds_toArray] at hK ⊢
          have hK' : Shut _ := hK
          clear hK
          go_simp
          go_at_call 37; (with_reducible refine (eqr_v r1 r3 EQ1.out).mono ?_); rintro e w2 ⟨rfl, hb⟩
          (try go_wp2_with fail)
          exact hK'.out _ _ (hb) (stepc hR (hb)) (fun D hD => by cases hD; rfl)
        · refine ⟨[], by decide, fun vs w hl hR hd K hK => ?_⟩
          obtain ⟨v0, vs, rfl, hl1⟩ := len_succ hl
          obtain ⟨v1, vs, rfl, hl2⟩ := len_succ hl1
          obtain ⟨v2, vs, rfl, hl3⟩ := len_succ hl2
          obtain ⟨v3, vs, rfl, hl4⟩ := len_succ hl3
          obtain ⟨v4, vs, rfl, hl5⟩ := len_succ hl4
          obtain ⟨v5, vs, rfl, hl6⟩ := len_succ hl5
          obtain ⟨v6, vs, rfl, hl7⟩ := len_succ hl6
          obtain ⟨v7, vs, rfl, hl8⟩ := len_succ hl7
          obtain ⟨v8, vs, rfl, hl9⟩ := len_succ hl8
          obtain ⟨v9, vs, rfl, hl10⟩ := len_succ hl9
          obtain ⟨v10, vs, rfl, hl11⟩ := len_succ hl10
          obtain ⟨v11, vs, rfl, hl12⟩ := len_succ hl11
          obtain ⟨v12, vs, rfl, hl13⟩ := len_succ hl12
          obtain ⟨v13, vs, rfl, hl14⟩ := len_succ hl13
          obtain ⟨v14, vs, rfl, hl15⟩ := len_succ hl14
          obtain ⟨v15, vs, rfl, hl16⟩ := len_succ hl15
          obtain ⟨v16, vs, rfl, hl17⟩ := len_succ hl16
          obtain rfl := len_zero hl17
          clear hd hl hl1 hl2 hl3 hl4 hl5 hl6 hl7 hl8 hl9 hl10 hl11 hl12 hl13 hl14 hl15 hl16 hl17
          replace hK := hK.out
          simp only [puts, List.set_cons_zero, List.set_cons_succ, Act.put, List.setIfInBounds_toArray] at hK ⊢
          have hK' : Shut _ := hK
          clear hK
          obtain ⟨q0, q1, q2, q3, q4, q5, q6⟩ := HQ0.out _ hR
          go_simp
          (try go_wp2_with fail)
          exact hK'.out _ _ (Below.refl _ _) (hR) (fun D hD => by cases hD; rfl)
        · refine ⟨[], by decide, fun vs w hl hR hd K hK => ?_⟩
          obtain ⟨v0, vs, rfl, hl1⟩ := len_succ hl
          obtain ⟨v1, vs, rfl, hl2⟩ := len_succ hl1
          obtain ⟨v2, vs, rfl, hl3⟩ := len_succ hl2
          obtain ⟨v3, vs, rfl, hl4⟩ := len_succ hl3
          obtain ⟨v4, vs, rfl, hl5⟩ := len_succ hl4
          obtain ⟨v5, vs, rfl, hl6⟩ := len_succ hl5
          obtain ⟨v6, vs, rfl, hl7⟩ := len_succ hl6
          obtain ⟨v7, vs, rfl, hl8⟩ := len_succ hl7
          obtain ⟨v8, vs, rfl, hl9⟩ := len_succ hl8
          obtain ⟨v9, vs, rfl, hl10⟩ := len_succ hl9
          obtain ⟨v10, vs, rfl, hl11⟩ := len_succ hl10
          obtain ⟨v11, vs, rfl, hl12⟩ := len_succ hl11
          obtain ⟨v12, vs, rfl, hl13⟩ := len_succ hl12
          obtain ⟨v13, vs, rfl, hl14⟩ := len_succ hl13
          obtain ⟨v14, vs, rfl, hl15⟩ := len_succ hl14
          obtain ⟨v15, vs, rfl, hl16⟩ := len_succ hl15
          obtain ⟨v16, vs, rfl, hl17⟩ := len_succ hl16
          obtain rfl := len_zero hl17
          clear hd hl hl1 hl2 hl3 hl4 hl5 hl6 hl7 hl8 hl9 hl10 hl11 hl12 hl13 hl14 hl15 hl16 hl17
          replace hK := hK.out
          simp only [puts, List.set_cons_zero, List.set_cons_succ, Act.put, List.setIfInBounds_toArray] at hK ⊢
          have hK' : Shut _ := hK
          clear hK
          obtain ⟨q0, q1, q2, q3, q4, q5, q6⟩ := HQ1.out _ hR
          go_simp
          (try go_wp2_with fail)
          exact hK'.out _ _ (Below.refl _ _) (hR) (fun D hD => by cases hD; rfl)
        · refine ⟨[5, 6], by decide, fun vs w hl hR hd K hK => ?_⟩
          obtain ⟨v0, vs, rfl, hl1⟩ := len_succ hl
          obtain ⟨v1, vs, rfl, hl2⟩ := len_succ hl1
          obtain ⟨v2, vs, rfl, hl3⟩ := len_succ hl2
          obtain ⟨v3, vs, rfl, hl4⟩ := len_succ hl3
          obtain ⟨v4, vs, rfl, hl5⟩ := len_succ hl4
          obtain ⟨v5, vs, rfl, hl6⟩ := len_succ hl5
          obtain ⟨v6, vs, rfl, hl7⟩ := len_succ hl6
          obtain ⟨v7, vs, rfl, hl8⟩ := len_succ hl7
          obtain ⟨v8, vs, rfl, hl9⟩ := len_succ hl8
          obtain ⟨v9, vs, rfl, hl10⟩ := len_succ hl9
          obtain ⟨v10, vs, rfl, hl11⟩ := len_succ hl10
          obtain ⟨v11, vs, rfl, hl12⟩ := len_succ hl11
          obtain ⟨v12, vs, rfl, hl13⟩ := len_succ hl12
          obtain ⟨v13, vs, rfl, hl14⟩ := len_succ hl13
          obtain ⟨v14, vs, rfl, hl15⟩ := len_succ hl14
          obtain ⟨v15, vs, rfl, hl16⟩ := len_succ hl15
          obtain ⟨v16, vs, rfl, hl17⟩ := len_succ hl16
          obtain rfl := len_zero hl17
          have dd := hd 5 (by simp) _ rfl; simp only [List.getD_cons_zero, List.getD_cons_succ] at dd; obtain rfl := dd
          have dd := hd 6 (by simp) _ rfl; simp only [List.getD_cons_zero, List.getD_cons_succ] at dd; obtain rfl := dd
          clear hd hl hl1 hl2 hl3 hl4 hl5 hl6 hl7 hl8 hl9 hl10 hl11 hl12 hl13 hl14 hl15 hl16 hl17
          replace hK := hK.out
          simp only [puts, List.set_cons_zero, List.set_cons_succ, Act.put, List.setIfInBounds_toArray] at hK ⊢
          have hK' : Shut _ := hK
          clear hK
          go_simp
          go_at_call 38; (with_reducible refine (rsame_v (HFV.out _ hR) (HGV.out _ hR) EQ2.out).mono ?_); rintro e w2 ⟨rfl, hb⟩
          (try go_wp2_with fail)
          exact hK'.out _ _ (hb) (stepc hR (hb)) (fun D hD => by cases hD; rfl)
        · refine ⟨[4, 7], by decide, fun vs w hl hR hd K hK => ?_⟩
          obtain ⟨v0, vs, rfl, hl1⟩ := len_succ hl
          obtain ⟨v1, vs, rfl, hl2⟩ := len_succ hl1
          obtain ⟨v2, vs, rfl, hl3⟩ := len_succ hl2
          obtain ⟨v3, vs, rfl, hl4⟩ := len_succ hl3
          obtain ⟨v4, vs, rfl, hl5⟩ := len_succ hl4
          obtain ⟨v5, vs, rfl, hl6⟩ := len_succ hl5
          obtain ⟨v6, vs, rfl, hl7⟩ := len_succ hl6
          obtain ⟨v7, vs, rfl, hl8⟩ := len_succ hl7
          obtain ⟨v8, vs, rfl, hl9⟩ := len_succ hl8
          obtain ⟨v9, vs, rfl, hl10⟩ := len_succ hl9
          obtain ⟨v10, vs, rfl, hl11⟩ := len_succ hl10
          obtain ⟨v11, vs, rfl, hl12⟩ := len_succ hl11
          obtain ⟨v12, vs, rfl, hl13⟩ := len_succ hl12
          obtain ⟨v13, vs, rfl, hl14⟩ := len_succ hl13
          obtain ⟨v14, vs, rfl, hl15⟩ := len_succ hl14
          obtain ⟨v15, vs, rfl, hl16⟩ := len_succ hl15
          obtain ⟨v16, vs, rfl, hl17⟩ := len_succ hl16
          obtain rfl := len_zero hl17
          have dd := hd 4 (by simp) _ rfl; simp only [List.getD_cons_zero, List.getD_cons_succ] at dd; obtain rfl := dd
          have dd := hd 7 (by simp) _ rfl; simp only [List.getD_cons_zero, List.getD_cons_succ] at dd; obtain rfl := dd
          clear hd hl hl1 hl2 hl3 hl4 hl5 hl6 hl7 hl8 hl9 hl10 hl11 hl12 hl13 hl14 hl15 hl16 hl17
          replace hK := hK.out
          simp only [puts, List.set_cons_zero, List.set_cons_succ, Act.put, List.setIfInBounds_toArray] at hK ⊢
          have hK' : Shut _ := hK
          clear hK
          go_simp
          (try simp only [beq_self_eq_true])
          (try go_wp2_with fail)
          exact hK'.out _ _ (Below.refl _ _) (hR) (fun D hD => by cases hD; rfl)
        · refine ⟨[8], by decide, fun vs w hl hR hd K hK => ?_⟩
          obtain ⟨v0, vs, rfl, hl1⟩ := len_succ hl
          obtain ⟨v1, vs, rfl, hl2⟩ := len_succ hl1
          obtain ⟨v2, vs, rfl, hl3⟩ := len_succ hl2
          obtain ⟨v3, vs, rfl, hl4⟩ := len_succ hl3
          obtain ⟨v4, vs, rfl, hl5⟩ := len_succ hl4
          obtain ⟨v5, vs, rfl, hl6⟩ := len_succ hl5
          obtain ⟨v6, vs, rfl, hl7⟩ := len_succ hl6
          obtain ⟨v7, vs, rfl, hl8⟩ := len_succ hl7
          obtain ⟨v8, vs, rfl, hl9⟩ := len_succ hl8
          obtain ⟨v9, vs, rfl, hl10⟩ := len_succ hl9
          obtain ⟨v10, vs, rfl, hl11⟩ := len_succ hl10
          obtain ⟨v11, vs, rfl, hl12⟩ := len_succ hl11
          obtain ⟨v12, vs, rfl, hl13⟩ := len_succ hl12
          obtain ⟨v13, vs, rfl, hl14⟩ := len_succ hl13
          obtain ⟨v14, vs, rfl, hl15⟩ := len_succ hl14
          obtain ⟨v15, vs, rfl, hl16⟩ := len_succ hl15
          obtain ⟨v16, vs, rfl, hl17⟩ := len_succ hl16
          obtain rfl := len_zero hl17
          have dd := hd 8 (by simp) _ rfl; simp only [List.getD_cons_zero, List.getD_cons_succ] at dd; obtain rfl := dd
          clear hd hl hl1 hl2 hl3 hl4 hl5 hl6 hl7 hl8 hl9 hl10 hl11 hl12 hl13 hl14 hl15 hl16 hl17
          replace hK := hK.out
          simp only [puts, List.set_cons_zero, List.set_cons_succ, Act.put, List.setIfInBounds_toArray] at hK ⊢
          have hK' : Shut _ := hK
          clear hK
          go_simp
          (try go_wp2_with fail)
          exact hK'.out _ _ (Below.refl _ _) (hR) (fun D hD => by cases hD; rfl)
        · refine ⟨[9], by decide, fun vs w hl hR hd K hK => ?_⟩
          obtain ⟨v0, vs, rfl, hl1⟩ := len_succ hl
          obtain ⟨v1, vs, rfl, hl2⟩ := len_succ hl1
          obtain ⟨v2, vs, rfl, hl3⟩ := len_succ hl2
          obtain ⟨v3, vs, rfl, hl4⟩ := len_succ hl3
          obtain ⟨v4, vs, rfl, hl5⟩ := len_succ hl4
          obtain ⟨v5, vs, rfl, hl6⟩ := len_succ hl5
          obtain ⟨v6, vs, rfl, hl7⟩ := len_succ hl6
          obtain ⟨v7, vs, rfl, hl8⟩ := len_succ hl7
          obtain ⟨v8, vs, rfl, hl9⟩ := len_succ hl8
          obtain ⟨v9, vs, rfl, hl10⟩ := len_succ hl9
          obtain ⟨v10, vs, rfl, hl11⟩ := len_succ hl10
          obtain ⟨v11, vs, rfl, hl12⟩ := len_succ hl11
          obtain ⟨v12, vs, rfl, hl13⟩ := len_succ hl12
          obtain ⟨v13, vs, rfl, hl14⟩ := len_succ hl13
          obtain ⟨v14, vs, rfl, hl15⟩ := len_succ hl14
          obtain ⟨v15, vs, rfl, hl16⟩ := len_succ hl15
          obtain ⟨v16, vs, rfl, hl17⟩ := len_succ hl16
          obtain rfl := len_zero hl17
          have dd := hd 9 (by simp) _ rfl; simp only [List.getD_cons_zero, List.getD_cons_succ] at dd; obtain rfl := dd
          clear hd hl hl1 hl2 hl3 hl4 hl5 hl6 hl7 hl8 hl9 hl10 hl11 hl12 hl13 hl14 hl15 hl16 hl17
          replace hK := hK.out
          simp only [puts, List.set_cons_zero, List.set_cons_succ, Act.put, List.setIfInBounds_toArray] at hK ⊢
          have hK' : Shut _ := hK
          clear hK
          obtain ⟨q0, q1, q2, q3, q4, q5, q6⟩ := HQ0.out _ hR
          go_simp
          (try go_wp2_with fail)
          exact hK'.out _ _ (Below.refl _ _) (hR) (fun D hD => by cases hD; rfl)
        · refine ⟨[10, 9], by decide, fun vs w hl hR hd K hK => ?_⟩
          obtain ⟨v0, vs, rfl, hl1⟩ := len_succ hl
          obtain ⟨v1, vs, rfl, hl2⟩ := len_succ hl1
          obtain ⟨v2, vs, rfl, hl3⟩ := len_succ hl2
          obtain ⟨v3, vs, rfl, hl4⟩ := len_succ hl3
          obtain ⟨v4, vs, rfl, hl5⟩ := len_succ hl4
          obtain ⟨v5, vs, rfl, hl6⟩ := len_succ hl5
          obtain ⟨v6, vs, rfl, hl7⟩ := len_succ hl6
          obtain ⟨v7, vs, rfl, hl8⟩ := len_succ hl7
          obtain ⟨v8, vs, rfl, hl9⟩ := len_succ hl8
          obtain ⟨v9, vs, rfl, hl10⟩ := len_succ hl9
          obtain ⟨v10, vs, rfl, hl11⟩ := len_succ hl10
          obtain ⟨v11, vs, rfl, hl12⟩ := len_succ hl11
          obtain ⟨v12, vs, rfl, hl13⟩ := len_succ hl12
          obtain ⟨v13, vs, rfl, hl14⟩ := len_succ hl13
          obtain ⟨v14, vs, rfl, hl15⟩ := len_succ hl14
          obtain ⟨v15, vs, rfl, hl16⟩ := len_succ hl15
          obtain ⟨v16, vs, rfl, hl17⟩ := len_succ hl16
          obtain rfl := len_zero hl17
          have dd := hd 10 (by simp) _ rfl; simp only [List.getD_cons_zero, List.getD_cons_succ] at dd; obtain rfl := dd
          have dd := hd 9 (by simp) _ rfl; simp only [List.getD_cons_zero, List.getD_cons_succ] at dd; obtain rfl := dd
          clear hd hl hl1 hl2 hl3 hl4 hl5 hl6 hl7 hl8 hl9 hl10 hl11 hl12 hl13 hl14 hl15 hl16 hl17
          replace hK := hK.out
          simp only [puts, List.set_cons_zero, List.set_cons_succ, Act.put, List.setIfInBounds_toArray] at hK ⊢
          have hK' : Shut _ := hK
          clear hK
          go_simp
          go_at_call 15; (with_reducible refine (hrule_v (HFV.out _ hR)).mono ?_); rintro e w2 ⟨u, rfl, hr, hb⟩
          (try go_wp2_with fail)
          exact hK'.out _ _ (hb) (stepc hR (hb)) (fun D hD => by cases hD; exact hr)
        · refine ⟨[9], by decide, fun vs w hl hR hd K hK => ?_⟩
          obtain ⟨v0, vs, rfl, hl1⟩ := len_succ hl
          obtain ⟨v1, vs, rfl, hl2⟩ := len_succ hl1
          obtain ⟨v2, vs, rfl, hl3⟩ := len_succ hl2
          obtain ⟨v3, vs, rfl, hl4⟩ := len_succ hl3
          obtain ⟨v4, vs, rfl, hl5⟩ := len_succ hl4
          obtain ⟨v5, vs, rfl, hl6⟩ := len_succ hl5
          obtain ⟨v6, vs, rfl, hl7⟩ := len_succ hl6
          obtain ⟨v7, vs, rfl, hl8⟩ := len_succ hl7
          obtain ⟨v8, vs, rfl, hl9⟩ := len_succ hl8
          obtain ⟨v9, vs, rfl, hl10⟩ := len_succ hl9
          obtain ⟨v10, vs, rfl, hl11⟩ := len_succ hl10
          obtain ⟨v11, vs, rfl, hl12⟩ := len_succ hl11
          obtain ⟨v12, vs, rfl, hl13⟩ := len_succ hl12
          obtain ⟨v13, vs, rfl, hl14⟩ := len_succ hl13
          obtain ⟨v14, vs, rfl, hl15⟩ := len_succ hl14
          obtain ⟨v15, vs, rfl, hl16⟩ := len_succ hl15
          obtain ⟨v16, vs, rfl, hl17⟩ := len_succ hl16
          obtain rfl := len_zero hl17
          have dd := hd 9 (by simp) _ rfl; simp only [List.getD_cons_zero, List.getD_cons_succ] at dd; obtain rfl := dd
          clear hd hl hl1 hl2 hl3 hl4 hl5 hl6 hl7 hl8 hl9 hl10 hl11 hl12 hl13 hl14 hl15 hl16 hl17
          replace hK := hK.out
          simp only [puts, List.set_cons_zero, List.set_cons_succ, Act.put, List.setIfInBounds_toArray] at hK ⊢
          have hK' : Shut _ := hK
          clear hK
          obtain ⟨q0, q1, q2, q3, q4, q5, q6⟩ := HQ0.out _ hR
          go_simp
          (try go_wp2_with fail)
          exact hK'.out _ _ (Below.refl _ _) (hR) (fun D hD => by cases hD; rfl)
        · refine ⟨[12, 9], by decide, fun vs w hl hR hd K hK => ?_⟩
          obtain ⟨v0, vs, rfl, hl1⟩ := len_succ hl
          obtain ⟨v1, vs, rfl, hl2⟩ := len_succ hl1
          obtain ⟨v2, vs, rfl, hl3⟩ := len_succ hl2
          obtain ⟨v3, vs, rfl, hl4⟩ := len_succ hl3
          obtain ⟨v4, vs, rfl, hl5⟩ := len_succ hl4
          obtain ⟨v5, vs, rfl, hl6⟩ := len_succ hl5
          obtain ⟨v6, vs, rfl, hl7⟩ := len_succ hl6
          obtain ⟨v7, vs, rfl, hl8⟩ := len_succ hl7
          obtain ⟨v8, vs, rfl, hl9⟩ := len_succ hl8
          obtain ⟨v9, vs, rfl, hl10⟩ := len_succ hl9
          obtain ⟨v10, vs, rfl, hl11⟩ := len_succ hl10
          obtain ⟨v11, vs, rfl, hl12⟩ := len_succ hl11
          obtain ⟨v12, vs, rfl, hl13⟩ := len_succ hl12
          obtain ⟨v13, vs, rfl, hl14⟩ := len_succ hl13
          obtain ⟨v14, vs, rfl, hl15⟩ := len_succ hl14
          obtain ⟨v15, vs, rfl, hl16⟩ := len_succ hl15
          obtain ⟨v16, vs, rfl, hl17⟩ := len_succ hl16
          obtain rfl := len_zero hl17
          have dd := hd 12 (by simp) _ rfl; simp only [List.getD_cons_zero, List.getD_cons_succ] at dd; obtain rfl := dd
          have dd := hd 9 (by simp) _ rfl; simp only [List.getD_cons_zero, List.getD_cons_succ] at dd; obtain rfl := dd
          clear hd hl hl1 hl2 hl3 hl4 hl5 hl6 hl7 hl8 hl9 hl10 hl11 hl12 hl13 hl14 hl15 hl16 hl17
          replace hK := hK.out
          simp only [puts, List.set_cons_zero, List.set_cons_succ, Act.put, List.setIfInBounds_toArray] at hK ⊢
          have hK' : Shut _ := hK
          clear hK
          go_simp
          go_at_call 15; (with_reducible refine (hrule_v (HFV.out _ hR)).mono ?_); rintro e w2 ⟨u, rfl, hr, hb⟩
          (try go_wp2_with fail)
          exact hK'.out _ _ (hb) (stepc hR (hb)) (fun D hD => by cases hD; exact hr)
        · refine ⟨[11, 13, 9], by decide, fun vs w hl hR hd K hK => ?_⟩
          obtain ⟨v0, vs, rfl, hl1⟩ := len_succ hl
          obtain ⟨v1, vs, rfl, hl2⟩ := len_succ hl1
          obtain ⟨v2, vs, rfl, hl3⟩ := len_succ hl2
          obtain ⟨v3, vs, rfl, hl4⟩ := len_succ hl3
          obtain ⟨v4, vs, rfl, hl5⟩ := len_succ hl4
          obtain ⟨v5, vs, rfl, hl6⟩ := len_succ hl5
          obtain ⟨v6, vs, rfl, hl7⟩ := len_succ hl6
          obtain ⟨v7, vs, rfl, hl8⟩ := len_succ hl7
          obtain ⟨v8, vs, rfl, hl9⟩ := len_succ hl8
          obtain ⟨v9, vs, rfl, hl10⟩ := len_succ hl9
          obtain ⟨v10, vs, rfl, hl11⟩ := len_succ hl10
          obtain ⟨v11, vs, rfl, hl12⟩ := len_succ hl11
          obtain ⟨v12, vs, rfl, hl13⟩ := len_succ hl12
          obtain ⟨v13, vs, rfl, hl14⟩ := len_succ hl13
          obtain ⟨v14, vs, rfl, hl15⟩ := len_succ hl14
          obtain ⟨v15, vs, rfl, hl16⟩ := len_succ hl15
          obtain ⟨v16, vs, rfl, hl17⟩ := len_succ hl16
          obtain rfl := len_zero hl17
          have dd := hd 11 (by simp) _ rfl; simp only [List.getD_cons_zero, List.getD_cons_succ] at dd; have r1 := dd; clear dd
          have dd := hd 13 (by simp) _ rfl; simp only [List.getD_cons_zero, List.getD_cons_succ] at dd; have r3 := dd; clear dd
          have dd := hd 9 (by simp) _ rfl; simp only [List.getD_cons_zero, List.getD_cons_succ] at dd; obtain rfl := dd
          clear hd hl hl1 hl2 hl3 hl4 hl5 hl6 hl7 hl8 hl9 hl10 hl11 hl12 hl13 hl14 hl15 hl16 hl17
          replace hK := hK.out
          simp only [puts, List.set_cons_zero, List.set_cons_succ, Act.put, List.setIfInBounds_toArray] at hK ⊢
          have hK' : Shut _ := hK
          clear hK
          go_simp
          go_at_call 37; (with_reducible refine (eqr_v r1 r3 (eqRl_self _)).mono ?_); rintro e w2 ⟨rfl, hb⟩
          (try go_wp2_with fail)
          exact hK'.out _ _ (hb) (stepc hR (hb)) (fun D hD => by cases hD; rfl)
        · refine ⟨[9, 14], by decide, fun vs w hl hR hd K hK => ?_⟩
          obtain ⟨v0, vs, rfl, hl1⟩ := len_succ hl
          obtain ⟨v1, vs, rfl, hl2⟩ := len_succ hl1
          obtain ⟨v2, vs, rfl, hl3⟩ := len_succ hl2
          obtain ⟨v3, vs, rfl, hl4⟩ := len_succ hl3
          obtain ⟨v4, vs, rfl, hl5⟩ := len_succ hl4
          obtain ⟨v5, vs, rfl, hl6⟩ := len_succ hl5
          obtain ⟨v6, vs, rfl, hl7⟩ := len_succ hl6
          obtain ⟨v7, vs, rfl, hl8⟩ := len_succ hl7
          obtain ⟨v8, vs, rfl, hl9⟩ := len_succ hl8
          obtain ⟨v9, vs, rfl, hl10⟩ := len_succ hl9
          obtain ⟨v10, vs, rfl, hl11⟩ := len_succ hl10
          obtain ⟨v11, vs, rfl, hl12⟩ := len_succ hl11
          obtain ⟨v12, vs, rfl, hl13⟩ := len_succ hl12
          obtain ⟨v13, vs, rfl, hl14⟩ := len_succ hl13
          obtain ⟨v14, vs, rfl, hl15⟩ := len_succ hl14
          obtain ⟨v15, vs, rfl, hl16⟩ := len_succ hl15
          obtain ⟨v16, vs, rfl, hl17⟩ := len_succ hl16
          obtain rfl := len_zero hl17
          have dd := hd 9 (by simp) _ rfl; simp only [List.getD_cons_zero, List.getD_cons_succ] at dd; obtain rfl := dd
          have dd := hd 14 (by simp) _ rfl; simp only [List.getD_cons_zero, List.getD_cons_succ] at dd; obtain rfl := dd
          clear hd hl hl1 hl2 hl3 hl4 hl5 hl6 hl7 hl8 hl9 hl10 hl11 hl12 hl13 hl14 hl15 hl16 hl17
          replace hK := hK.out
          simp only [puts, List.set_cons_zero, List.set_cons_succ, Act.put, List.setIfInBounds_toArray] at hK ⊢
          have hK' : Shut _ := hK
          clear hK
          go_simp
          (try go_wp2_with fail)
          exact hK'.out _ _ (Below.refl _ _) (hR) (fun D hD => by cases hD; rfl)
        · refine ⟨[15], by decide, fun vs w hl hR hd K hK => ?_⟩
          obtain ⟨v0, vs, rfl, hl1⟩ := len_succ hl
          obtain ⟨v1, vs, rfl, hl2⟩ := len_succ hl1
          obtain ⟨v2, vs, rfl, hl3⟩ := len_succ hl2
          obtain ⟨v3, vs, rfl, hl4⟩ := len_succ hl3
          obtain ⟨v4, vs, rfl, hl5⟩ := len_succ hl4
          obtain ⟨v5, vs, rfl, hl6⟩ := len_succ hl5
          obtain ⟨v6, vs, rfl, hl7⟩ := len_succ hl6
          obtain ⟨v7, vs, rfl, hl8⟩ := len_succ hl7
          obtain ⟨v8, vs, rfl, hl9⟩ := len_succ hl8
          obtain ⟨v9, vs, rfl, hl10⟩ := len_succ hl9
          obtain ⟨v10, vs, rfl, hl11⟩ := len_succ hl10
          obtain ⟨v11, vs, rfl, hl12⟩ := len_succ hl11
          obtain ⟨v12, vs, rfl, hl13⟩ := len_succ hl12
          obtain ⟨v13, vs, rfl, hl14⟩ := len_succ hl13
          obtain ⟨v14, vs, rfl, hl15⟩ := len_succ hl14
          obtain ⟨v15, vs, rfl, hl16⟩ := len_succ hl15
          obtain ⟨v16, vs, rfl, hl17⟩ := len_succ hl16
          obtain rfl := len_zero hl17
          have dd := hd 15 (by simp) _ rfl; simp only [List.getD_cons_zero, List.getD_cons_succ] at dd; obtain rfl := dd
          clear hd hl hl1 hl2 hl3 hl4 hl5 hl6 hl7 hl8 hl9 hl10 hl11 hl12 hl13 hl14 hl15 hl16 hl17
          replace hK := hK.out
          simp only [puts, List.set_cons_zero, List.set_cons_succ, Act.put, List.setIfInBounds_toArray] at hK ⊢
          have hK' : Shut _ := hK
          clear hK
          go_simp
          (try go_wp2_with fail)
          exact hK'.out _ _ (Below.refl _ _) (hR) (fun D hD => by cases hD; rfl)
        · intro vs w5 hl hR hd
          obtain ⟨v0, vs, rfl, hl1⟩ := len_succ hl
          obtain ⟨v1, vs, rfl, hl2⟩ := len_succ hl1
          obtain ⟨v2, vs, rfl, hl3⟩ := len_succ hl2
          obtain ⟨v3, vs, rfl, hl4⟩ := len_succ hl3
          obtain ⟨v4, vs, rfl, hl5⟩ := len_succ hl4
          obtain ⟨v5, vs, rfl, hl6⟩ := len_succ hl5
          obtain ⟨v6, vs, rfl, hl7⟩ := len_succ hl6
          obtain ⟨v7, vs, rfl, hl8⟩ := len_succ hl7
          obtain ⟨v8, vs, rfl, hl9⟩ := len_succ hl8
          obtain ⟨v9, vs, rfl, hl10⟩ := len_succ hl9
          obtain ⟨v10, vs, rfl, hl11⟩ := len_succ hl10
          obtain ⟨v11, vs, rfl, hl12⟩ := len_succ hl11
          obtain ⟨v12, vs, rfl, hl13⟩ := len_succ hl12
          obtain ⟨v13, vs, rfl, hl14⟩ := len_succ hl13
          obtain ⟨v14, vs, rfl, hl15⟩ := len_succ hl14
          obtain ⟨v15, vs, rfl, hl16⟩ := len_succ hl15
          obtain ⟨v16, vs, rfl, hl17⟩ := len_succ hl16
          obtain rfl := len_zero hl17
          have dd := hd 16 _ rfl; simp only [List.getD_cons_zero, List.getD_cons_succ] at dd; obtain rfl := dd
          clear hd hl hl1 hl2 hl3 hl4 hl5 hl6 hl7 hl8 hl9 hl10 hl11 hl12 hl13 hl14 hl15 hl16 hl17
          simp only [puts, List.set_cons_zero, List.set_cons_succ, Act.put, List.setIfInBounds_toArray]
          go_wp2_with fail
          go_ret
          exact ⟨rfl, HBW.out _ hR⟩
end Go.Proofs.YtfjpbkmnlmecgaaGreatDoor.Ru
