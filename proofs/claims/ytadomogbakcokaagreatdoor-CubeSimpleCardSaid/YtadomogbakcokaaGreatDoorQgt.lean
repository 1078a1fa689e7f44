/- Contract: awake. -/
import Derived.Test.YtadomogbakcokaaGreatDoorQgs
import Derived.Deep.DeepCutAuto
namespace Go.Proofs.YtadomogbakcokaaGreatDoor
open Go.RowKit Go.PlainAid
set_option linter.unusedVariables false
set_option linter.unusedSimpArgs false
set_option maxHeartbeats 2000000
set_option maxRecDepth 20000

theorem of_row (a : Option Addr) (n : Nat) (zs : List Int) (l : List Nat) (w : World) (h : Iw w a n n zs) (hn : n ≤ 1000) (hl : ofL zs = l) : Calls Tryz.prog 30 #[.slice a n n] w (SetPost w l) := by
  subst hl; exact of_any a n n zs w h (by omega)
theorem ofL_12 : ofL [1, 2] = [1, 2] := asc_ext (asc_ofL _) ⟨by decide, by decide⟩ fun x => by rw [mem_ofL]; simp; omega
theorem cs_lit (w : World) (cells : Array Value) (hs : List Hd) (l : List Cu) (n : Nat) (hc : cells.toList = flatE hdE hs) (hn : hs.length = n) (hm : n ≤ 1000) (ha : AllC w hs l) :
    Cs (w.alloc (.cells cells 34)) (some ⟨w.heap.size, 0, none⟩) n n l := by
  subst hn
  have hsz : cells.size = hs.length * 2 := by rw [← Array.length_toList, hc, flatE_length]
  have h := World.ownsRow_lit (base := 0) (size := 2) (e := 34) w cells hs.length (Nat.zero_le _) (by unfold maxLen; omega) hsz
  rw [hc] at h
  obtain ⟨a, cap, e, hd⟩ := Dk.owned (by decide) h
  cases e
  exact ⟨hs, hd, ha.below ((Below.refl _ _).alloc (Nat.le_refl _) _)⟩

theorem ofL_123 : ofL [1, 2, 3] = [1, 2, 3] := asc_ext (asc_ofL _) ⟨by decide, by decide⟩ fun x => by rw [mem_ofL]; simp; omega
theorem cs_two {w : World} {a : Option Addr} {c : Nat} {x y : Cu} (h : Cs w a 2 c [x, y]) : ∃ b o x1 x2 x3 x4 x5 x6 y1 y2 y3 y4 y5 y6, a = some ⟨b, o, none⟩ ∧ b < w.heap.size ∧ w.cell? ⟨b, o, none⟩ = some (.slice x1 x2 x3) ∧ w.cell? ⟨b, o + 1, none⟩ = some (.slice x4 x5 x6) ∧ w.cell? ⟨b, o + 2, none⟩ = some (.slice y1 y2 y3) ∧ w.cell? ⟨b, o + 3, none⟩ = some (.slice y4 y5 y6) ∧ Cb w ⟨x1, x2, x3, x4, x5, x6⟩ x ∧ Cb w ⟨y1, y2, y3, y4, y5, y6⟩ y := by
  obtain ⟨b, o, x1, x2, x3, x4, x5, x6, e, hb, c0, c1, hx⟩ := h.at (j := 0) rfl
  obtain ⟨b', o', y1, y2, y3, y4, y5, y6, e', _, d0, d1, hy⟩ := h.at (j := 1) rfl
  rw [e] at e'
  cases e'
  exact ⟨b, o, x1, x2, x3, x4, x5, x6, y1, y2, y3, y4, y5, y6, e, hb, c0, c1, d0, d1, hx, hy⟩
theorem cs_one {w : World} {a : Option Addr} {c : Nat} {x : Cu} (h : Cs w a 1 c [x]) : ∃ b o x1 x2 x3 x4 x5 x6, a = some ⟨b, o, none⟩ ∧ b < w.heap.size ∧ w.cell? ⟨b, o, none⟩ = some (.slice x1 x2 x3) ∧ w.cell? ⟨b, o + 1, none⟩ = some (.slice x4 x5 x6) ∧ Cb w ⟨x1, x2, x3, x4, x5, x6⟩ x := by
  obtain ⟨b, o, x1, x2, x3, x4, x5, x6, e, hb, c0, c1, hx⟩ := h.at (j := 0) rfl
  exact ⟨b, o, x1, x2, x3, x4, x5, x6, e, hb, c0, c1, hx⟩
theorem holds_c1 (a b e : Option Addr) (n c m d k f : Nat) (w : World) (h : Cb w ⟨a, n, c, b, m, d⟩ ([1], [3])) (hs : Bs w e k f [1, 2]) :
    Calls Tryz.prog 17 #[.agg #[.slice a n c, .slice b m d], .agg #[.slice e k f]] w (BoolPost w true) := by
  have := holdsC_any a b e n c m d k f _ _ w h hs
  rw [holds_ex1] at this
  exact this
theorem holds_c2 (a b e : Option Addr) (n c m d k f : Nat) (w : World) (h : Cb w ⟨a, n, c, b, m, d⟩ ([1], [3])) (hs : Bs w e k f [1, 3]) :
    Calls Tryz.prog 17 #[.agg #[.slice a n c, .slice b m d], .agg #[.slice e k f]] w (BoolPost w false) := by
  have := holdsC_any a b e n c m d k f _ _ w h hs
  rw [holds_ex2] at this
  exact this
theorem bw_lit4 (w : World) : Bw (w.alloc (.cells #[.int .u8 1, .int .u8 2, .int .u8 1, .int .u8 8] 5)) (some ⟨w.heap.size, 0, none⟩) 4 4 [1, 2, 1, 8] :=
  bw_lit w _ [1, 2, 1, 8] 4 rfl rfl (by decide) (by omega)
theorem equal_lit (a : Option Addr) (c : Nat) (w : World) (h : Bw w a 4 c [1, 2, 1, 8]) : Calls Tryz.prog 55 #[.slice a 4 c, .slice (some ⟨w.heap.size, 0, none⟩) 4 4] (w.alloc (.cells #[.int .u8 1, .int .u8 2, .int .u8 1, .int .u8 8] 5)) fun e w' => e = .returned (.bool true) ∧ Below (w.alloc (.cells #[.int .u8 1, .int .u8 2, .int .u8 1, .int .u8 8] 5)).heap.size (w.alloc (.cells #[.int .u8 1, .int .u8 2, .int .u8 1, .int .u8 8] 5)) w' :=
  equalB_any _ _ _ _ _ _ [1, 2, 1, 8] [1, 2, 1, 8] _ (h.below ((Below.refl _ _).alloc (Nat.le_refl _) _)) (bw_lit4 w)

theorem awake_any (w : World) (hW : Wld w) :
    Calls Tryz.prog 15 #[] w fun e w' => e = .returned (.bool true) ∧ Below w.heap.size w w' := by
  have HW := Lib.hid hW
  clear hW
  go_enter Tryz.func15, Tryz.ntmps15
  go_upto_region 6 with (first
    | (go_at_call 31; (with_reducible refine (parse_ex _ HW.out).mono ?_); rintro e w1 ⟨a1, n1, c1, b1, m1, d1, rfl, hc, hb⟩; have hA := At2.new w1 (.slice a1 n1 c1) (.slice b1 m1 d1) 34; have hbx := (Below.refl w1.heap.size w1).alloc (Nat.le_refl _) (.cells #[.slice a1 n1 c1, .slice b1 m1 d1] 34); have hB := hb.trans (hbx.mono hb.size); have hc := hc.below hbx; clear hb hbx)
    | (go_at_call 30; (with_reducible refine (of_bg _ _ (World.size_alloc _ _).symm).mono ?_); rintro e w2 ⟨a2, n2, c2, rfl, hs2, hb⟩; have hbx := (bel1 hb).alloc (bel1 hb).size (.cells #[.slice a2 n2 c2, .slice none 0 0] 34); have hA2 := At2.new w2 (.slice a2 n2 c2) (.slice none 0 0) 34; have hc2 : Cb _ ⟨a2, n2, c2, none, 0, 0⟩ ([1], []) := ⟨hs2.below ((Below.refl w2.heap.size w2).alloc (Nat.le_refl _) (.cells #[.slice a2 n2 c2, .slice none 0 0] 34)), Bs.nil _⟩; have hA := hA.below hbx; have hc := hc.below hbx; have hB := hB.trans (hbx.mono hB.size); clear hb hbx hs2)
    | (go_at_call 30; (with_reducible refine (of_dg _ _ (World.size_alloc _ _).symm).mono ?_); rintro e w3 ⟨a3, n3, c3, rfl, hs3, hb⟩; have hbx := (bel1 hb).alloc (bel1 hb).size (.cells #[.slice none 0 0, .slice a3 n3 c3] 34); have hA3 := At2.new w3 (.slice none 0 0) (.slice a3 n3 c3) 34; have hc3 : Cb _ ⟨none, 0, 0, a3, n3, c3⟩ ([], [2]) := ⟨Bs.nil _, hs3.below ((Below.refl w3.heap.size w3).alloc (Nat.le_refl _) (.cells #[.slice none 0 0, .slice a3 n3 c3] 34))⟩; have hA := hA.below hbx; have hc := hc.below hbx; have hA2 := hA2.below hbx; have hc2 := hc2.below hbx; have hB := hB.trans (hbx.mono hB.size); clear hb hbx hs3; have r0 := hA.1; have r1 := hA.2.1)
    | (go_at_call 40; (with_reducible refine (minus_c1 _ _ _ _ _ _ _ hc (HW.out.below hB).tz).mono ?_); rintro e w4 ⟨a4, c4, rfl, hm4, hb⟩; have hA := hA.below hb; have hc := hc.below hb; have hA2 := hA2.below hb; have hc2 := hc2.below hb; have hA3 := hA3.below hb; have hc3 := hc3.below hb; have hB := hB.trans (hb.mono hB.size); clear hb r0 r1; have r0 := hA.1; have r1 := hA.2.1; have r2 := hA2.1; have r3 := hA2.2.1)
    | (go_at_call 40; (with_reducible refine (minus_c2 _ _ _ _ _ _ _ _ _ _ _ _ _ hc2 hc (HW.out.below hB).tz).mono ?_); rintro e w5 ⟨a5, c5, rfl, hm5, hb⟩; have hA := hA.below hb; have hc := hc.below hb; have hA2 := hA2.below hb; have hc2 := hc2.below hb; have hA3 := hA3.below hb; have hc3 := hc3.below hb; have hm4 := hm4.below hb; have hB := hB.trans (hb.mono hB.size); clear hb r0 r1 r2 r3; have r2 := hA2.1; have r3 := hA2.2.1))
  have hz2 := hA2.2.2
  refine region_slots [26, 27, 28, 29, 30, 31, 32, 33, 34, 35, 36, 37, 7]
    [fun v w => ∃ g, v = .slice (some ⟨g, 0, none⟩) 2 2 ∧ Iw w (some ⟨g, 0, none⟩) 2 2 [1, 2],
     fun v w => ∃ a n c, v = .agg #[.slice a n c] ∧ Bs w a n c [1, 2],
     fun v w => ∃ a n c, v = .agg #[.slice a n c, .slice none 0 0] ∧ Bs w a n c [1, 2],
     fun v w => v = .agg #[.slice a2 n2 c2, .slice none 0 0],
     fun v w => ∃ g, v = .slice (some ⟨g, 0, none⟩) 1 1 ∧ Iw w (some ⟨g, 0, none⟩) 1 1 [2],
     fun v w => ∃ a n c, v = .agg #[.slice a n c] ∧ Bs w a n c [2],
     fun v w => ∃ g, v = .slice (some ⟨g, 0, none⟩) 1 1 ∧ Iw w (some ⟨g, 0, none⟩) 1 1 [2],
     fun v w => ∃ a n c, v = .agg #[.slice a n c] ∧ Bs w a n c [2],
     fun v w => ∃ a n c b m d, v = .agg #[.slice a n c, .slice b m d] ∧ Cb w ⟨a, n, c, b, m, d⟩ ([2], [2]),
     fun v w => v = .agg #[.slice a2 n2 c2, .slice none 0 0],
     fun v w => ∃ g, v = .slice (some ⟨g, 0, none⟩) 4 4 ∧ Cs w (some ⟨g, 0, none⟩) 4 4 [([1, 2], []), ([1], []), ([2], [2]), ([1], [])],
     fun v w => ∃ a c, v = .slice a 1 c ∧ Cs w a 1 c [([1], [])],
     fun v w => ∃ a c, v = .slice a 1 c ∧ Cs w a 1 c [([1], [])]]
    (fun w => Below w5.heap.size w5 w) (fun w w' => Below w.heap.size w w') (by kernel_rfl) (by kernel_rfl) rfl [undef, undef, undef, undef, undef, undef, undef, undef, undef, undef, undef, undef, undef] (by simp only [puts, List.set_cons_zero, List.set_cons_succ, Act.put, List.setIfInBounds_toArray]) rfl ((Below.refl _ _).drew) ?_ ⟨?_, ?_, ?_, ?_, ?_, ?_, ?_, ?_, ?_, ?_, ?_, ?_, ?_, trivial⟩ ?_
  · intro j D hj v w w' hb hD
    match j, hj with
    | 0, hj => cases hj; obtain ⟨g, rfl, h⟩ := hD; exact ⟨g, rfl, h.below hb⟩
    | 1, hj => cases hj; obtain ⟨a, n, c, rfl, h⟩ := hD; exact ⟨a, n, c, rfl, h.below hb⟩
    | 2, hj => cases hj; obtain ⟨a, n, c, rfl, h⟩ := hD; exact ⟨a, n, c, rfl, h.below hb⟩
    | 3, hj => cases hj; exact hD
    | 4, hj => cases hj; obtain ⟨g, rfl, h⟩ := hD; exact ⟨g, rfl, h.below hb⟩
    | 5, hj => cases hj; obtain ⟨a, n, c, rfl, h⟩ := hD; exact ⟨a, n, c, rfl, h.below hb⟩
    | 6, hj => cases hj; obtain ⟨g, rfl, h⟩ := hD; exact ⟨g, rfl, h.below hb⟩
    | 7, hj => cases hj; obtain ⟨a, n, c, rfl, h⟩ := hD; exact ⟨a, n, c, rfl, h.below hb⟩
    | 8, hj => cases hj; obtain ⟨a, n, c, b, m, d, rfl, h⟩ := hD; exact ⟨a, n, c, b, m, d, rfl, h.below hb⟩
    | 9, hj => cases hj; exact hD
    | 10, hj => cases hj; obtain ⟨g, rfl, h⟩ := hD; exact ⟨g, rfl, h.below hb⟩
    | 11, hj => cases hj; obtain ⟨a, c, rfl, h⟩ := hD; exact ⟨a, c, rfl, h.below hb⟩
    | 12, hj => cases hj; obtain ⟨a, c, rfl, h⟩ := hD; exact ⟨a, c, rfl, h.below hb⟩
    | j + 13, hj => cases hj
  · refine ⟨[], by decide, fun vs w hl hR hd K hK => ?_⟩
    obtain ⟨v0, vs, rfl, hl1⟩ := len_succ hl
    obtain ⟨v1, vs, rfl, hl2⟩ := len_succ hl1
    obtain ⟨v2, vs, rfl, hl3⟩ := len_succ hl2
    obtain ⟨v3, vs, rfl, hl4⟩ := len_succ hl3
    obtain ⟨v4, vs, rfl, hl5⟩ := len_succ hl4
    obtain ⟨v5, vs, rfl, hl6⟩ := len_succ hl5
    obtain ⟨v6, vs, rfl, hl7⟩ := len_succ hl6
    obtain ⟨v7, vs, rfl, hl8⟩ := len_succ hl7
    obtain ⟨v8, vs, rfl, hl9⟩ := len_succ hl8
    obtain ⟨v9, vs, rfl, hl10⟩ := len_succ hl9
    obtain ⟨v10, vs, rfl, hl11⟩ := len_succ hl10
    obtain ⟨v11, vs, rfl, hl12⟩ := len_succ hl11
    obtain ⟨v12, vs, rfl, hl13⟩ := len_succ hl12
    obtain rfl := len_zero hl13
    clear hd hl hl1 hl2 hl3 hl4 hl5 hl6 hl7 hl8 hl9 hl10 hl11 hl12 hl13
    replace hK := hK.out
    simp only [puts, List.set_cons_zero, List.set_cons_succ, Act.put, List.setIfInBounds_toArray] at hK ⊢
    have hK' : Shut _ := hK
    clear hK
    go_simp
    (try go_wp2_with fail)
    exact hK'.out _ _ ((Below.refl _ _).alloc (Nat.le_refl _) _) (step_call hR ((Below.refl _ _).alloc (Nat.le_refl _) _)) (fun D hD => by cases hD; exact ⟨_, rfl, iw_lit w _ [1, 2] 2 rfl rfl (by omega)⟩)
  · refine ⟨[0], by decide, fun vs w hl hR hd K hK => ?_⟩
    obtain ⟨v0, vs, rfl, hl1⟩ := len_succ hl
    obtain ⟨v1, vs, rfl, hl2⟩ := len_succ hl1
    obtain ⟨v2, vs, rfl, hl3⟩ := len_succ hl2
    obtain ⟨v3, vs, rfl, hl4⟩ := len_succ hl3
    obtain ⟨v4, vs, rfl, hl5⟩ := len_succ hl4
    obtain ⟨v5, vs, rfl, hl6⟩ := len_succ hl5
    obtain ⟨v6, vs, rfl, hl7⟩ := len_succ hl6
    obtain ⟨v7, vs, rfl, hl8⟩ := len_succ hl7
    obtain ⟨v8, vs, rfl, hl9⟩ := len_succ hl8
    obtain ⟨v9, vs, rfl, hl10⟩ := len_succ hl9
    obtain ⟨v10, vs, rfl, hl11⟩ := len_succ hl10
    obtain ⟨v11, vs, rfl, hl12⟩ := len_succ hl11
    obtain ⟨v12, vs, rfl, hl13⟩ := len_succ hl12
    obtain rfl := len_zero hl13
    have dd := hd 0 (by simp) _ rfl; simp only [List.getD_cons_zero, List.getD_cons_succ] at dd; obtain ⟨g, rfl, hi⟩ := dd
    clear hd hl hl1 hl2 hl3 hl4 hl5 hl6 hl7 hl8 hl9 hl10 hl11 hl12 hl13
    replace hK := hK.out
    simp only [puts, List.set_cons_zero, List.set_cons_succ, Act.put, List.setIfInBounds_toArray] at hK ⊢
    have hK' : Shut _ := hK
    clear hK
    go_simp
    go_at_call 30; refine (of_row _ _ [1, 2] [1, 2] _ hi (by omega) ofL_12).mono ?_; rintro e w2 ⟨a, n, c, rfl, hs, hb⟩
    (try go_wp2_with fail)
    exact hK'.out _ _ (hb) (step_call hR (hb)) (fun D hD => by cases hD; exact ⟨a, n, c, rfl, hs⟩)
  · refine ⟨[1], by decide, fun vs w hl hR hd K hK => ?_⟩
    obtain ⟨v0, vs, rfl, hl1⟩ := len_succ hl
    obtain ⟨v1, vs, rfl, hl2⟩ := len_succ hl1
    obtain ⟨v2, vs, rfl, hl3⟩ := len_succ hl2
    obtain ⟨v3, vs, rfl, hl4⟩ := len_succ hl3
    obtain ⟨v4, vs, rfl, hl5⟩ := len_succ hl4
    obtain ⟨v5, vs, rfl, hl6⟩ := len_succ hl5
    obtain ⟨v6, vs, rfl, hl7⟩ := len_succ hl6
    obtain ⟨v7, vs, rfl, hl8⟩ := len_succ hl7
    obtain ⟨v8, vs, rfl, hl9⟩ := len_succ hl8
    obtain ⟨v9, vs, rfl, hl10⟩ := len_succ hl9
    obtain ⟨v10, vs, rfl, hl11⟩ := len_succ hl10
    obtain ⟨v11, vs, rfl, hl12⟩ := len_succ hl11
    obtain ⟨v12, vs, rfl, hl13⟩ := len_succ hl12
    obtain rfl := len_zero hl13
    have dd := hd 1 (by simp) _ rfl; simp only [List.getD_cons_zero, List.getD_cons_succ] at dd; obtain ⟨a, n, c, rfl, hs⟩ := dd
    clear hd hl hl1 hl2 hl3 hl4 hl5 hl6 hl7 hl8 hl9 hl10 hl11 hl12 hl13
    replace hK := hK.out
    simp only [puts, List.set_cons_zero, List.set_cons_succ, Act.put, List.setIfInBounds_toArray] at hK ⊢
    have hK' : Shut _ := hK
    clear hK
    go_simp
    (try go_wp2_with fail)
    exact hK'.out _ _ (Below.refl _ _) (hR) (fun D hD => by cases hD; exact ⟨a, n, c, rfl, hs⟩)
  · refine ⟨[], by decide, fun vs w hl hR hd K hK => ?_⟩
    obtain ⟨v0, vs, rfl, hl1⟩ := len_succ hl
    obtain ⟨v1, vs, rfl, hl2⟩ := len_succ hl1
    obtain ⟨v2, vs, rfl, hl3⟩ := len_succ hl2
    obtain ⟨v3, vs, rfl, hl4⟩ := len_succ hl3
    obtain ⟨v4, vs, rfl, hl5⟩ := len_succ hl4
    obtain ⟨v5, vs, rfl, hl6⟩ := len_succ hl5
    obtain ⟨v6, vs, rfl, hl7⟩ := len_succ hl6
    obtain ⟨v7, vs, rfl, hl8⟩ := len_succ hl7
    obtain ⟨v8, vs, rfl, hl9⟩ := len_succ hl8
    obtain ⟨v9, vs, rfl, hl10⟩ := len_succ hl9
    obtain ⟨v10, vs, rfl, hl11⟩ := len_succ hl10
    obtain ⟨v11, vs, rfl, hl12⟩ := len_succ hl11
    obtain ⟨v12, vs, rfl, hl13⟩ := len_succ hl12
    obtain rfl := len_zero hl13
    clear hd hl hl1 hl2 hl3 hl4 hl5 hl6 hl7 hl8 hl9 hl10 hl11 hl12 hl13
    replace hK := hK.out
    simp only [puts, List.set_cons_zero, List.set_cons_succ, Act.put, List.setIfInBounds_toArray] at hK ⊢
    have hK' : Shut _ := hK
    clear hK
    have r2 := (hR.cell (p := ⟨w2.heap.size, 0, none⟩) hz2).trans r2; have r3 := (hR.cell (p := ⟨w2.heap.size, 1, none⟩) hz2).trans r3
    go_simp
    (try go_wp2_with fail)
    exact hK'.out _ _ (Below.refl _ _) (hR) (fun D hD => by cases hD; rfl)
  · refine ⟨[], by decide, fun vs w hl hR hd K hK => ?_⟩
    obtain ⟨v0, vs, rfl, hl1⟩ := len_succ hl
    obtain ⟨v1, vs, rfl, hl2⟩ := len_succ hl1
    obtain ⟨v2, vs, rfl, hl3⟩ := len_succ hl2
    obtain ⟨v3, vs, rfl, hl4⟩ := len_succ hl3
    obtain ⟨v4, vs, rfl, hl5⟩ := len_succ hl4
    obtain ⟨v5, vs, rfl, hl6⟩ := len_succ hl5
    obtain ⟨v6, vs, rfl, hl7⟩ := len_succ hl6
    obtain ⟨v7, vs, rfl, hl8⟩ := len_succ hl7
    obtain ⟨v8, vs, rfl, hl9⟩ := len_succ hl8
    obtain ⟨v9, vs, rfl, hl10⟩ := len_succ hl9
    obtain ⟨v10, vs, rfl, hl11⟩ := len_succ hl10
    obtain ⟨v11, vs, rfl, hl12⟩ := len_succ hl11
    obtain ⟨v12, vs, rfl, hl13⟩ := len_succ hl12
    obtain rfl := len_zero hl13
    clear hd hl hl1 hl2 hl3 hl4 hl5 hl6 hl7 hl8 hl9 hl10 hl11 hl12 hl13
    replace hK := hK.out
    simp only [puts, List.set_cons_zero, List.set_cons_succ, Act.put, List.setIfInBounds_toArray] at hK ⊢
    have hK' : Shut _ := hK
    clear hK
    go_simp
    (try go_wp2_with fail)
    exact hK'.out _ _ ((Below.refl _ _).alloc (Nat.le_refl _) _) (step_call hR ((Below.refl _ _).alloc (Nat.le_refl _) _)) (fun D hD => by cases hD; exact ⟨_, rfl, iw_lit w _ [2] 1 rfl rfl (by omega)⟩)
  · refine ⟨[4], by decide, fun vs w hl hR hd K hK => ?_⟩
    obtain ⟨v0, vs, rfl, hl1⟩ := len_succ hl
    obtain ⟨v1, vs, rfl, hl2⟩ := len_succ hl1
    obtain ⟨v2, vs, rfl, hl3⟩ := len_succ hl2
    obtain ⟨v3, vs, rfl, hl4⟩ := len_succ hl3
    obtain ⟨v4, vs, rfl, hl5⟩ := len_succ hl4
    obtain ⟨v5, vs, rfl, hl6⟩ := len_succ hl5
    obtain ⟨v6, vs, rfl, hl7⟩ := len_succ hl6
    obtain ⟨v7, vs, rfl, hl8⟩ := len_succ hl7
    obtain ⟨v8, vs, rfl, hl9⟩ := len_succ hl8
    obtain ⟨v9, vs, rfl, hl10⟩ := len_succ hl9
    obtain ⟨v10, vs, rfl, hl11⟩ := len_succ hl10
    obtain ⟨v11, vs, rfl, hl12⟩ := len_succ hl11
    obtain ⟨v12, vs, rfl, hl13⟩ := len_succ hl12
    obtain rfl := len_zero hl13
    have dd := hd 4 (by simp) _ rfl; simp only [List.getD_cons_zero, List.getD_cons_succ] at dd; obtain ⟨g, rfl, hi⟩ := dd
    clear hd hl hl1 hl2 hl3 hl4 hl5 hl6 hl7 hl8 hl9 hl10 hl11 hl12 hl13
    replace hK := hK.out
    simp only [puts, List.set_cons_zero, List.set_cons_succ, Act.put, List.setIfInBounds_toArray] at hK ⊢
    have hK' : Shut _ := hK
    clear hK
    go_simp
    go_at_call 30; refine (of_row _ _ [2] [2] _ hi (by omega) ofL_d).mono ?_; rintro e w2 ⟨a, n, c, rfl, hs, hb⟩
    (try go_wp2_with fail)
    exact hK'.out _ _ (hb) (step_call hR (hb)) (fun D hD => by cases hD; exact ⟨a, n, c, rfl, hs⟩)
  · refine ⟨[], by decide, fun vs w hl hR hd K hK => ?_⟩
    obtain ⟨v0, vs, rfl, hl1⟩ := len_succ hl
    obtain ⟨v1, vs, rfl, hl2⟩ := len_succ hl1
    obtain ⟨v2, vs, rfl, hl3⟩ := len_succ hl2
    obtain ⟨v3, vs, rfl, hl4⟩ := len_succ hl3
    obtain ⟨v4, vs, rfl, hl5⟩ := len_succ hl4
    obtain ⟨v5, vs, rfl, hl6⟩ := len_succ hl5
    obtain ⟨v6, vs, rfl, hl7⟩ := len_succ hl6
    obtain ⟨v7, vs, rfl, hl8⟩ := len_succ hl7
    obtain ⟨v8, vs, rfl, hl9⟩ := len_succ hl8
    obtain ⟨v9, vs, rfl, hl10⟩ := len_succ hl9
    obtain ⟨v10, vs, rfl, hl11⟩ := len_succ hl10
    obtain ⟨v11, vs, rfl, hl12⟩ := len_succ hl11
    obtain ⟨v12, vs, rfl, hl13⟩ := len_succ hl12
    obtain rfl := len_zero hl13
    clear hd hl hl1 hl2 hl3 hl4 hl5 hl6 hl7 hl8 hl9 hl10 hl11 hl12 hl13
    replace hK := hK.out
    simp only [puts, List.set_cons_zero, List.set_cons_succ, Act.put, List.setIfInBounds_toArray] at hK ⊢
    have hK' : Shut _ := hK
    clear hK
    go_simp
    (try go_wp2_with fail)
    exact hK'.out _ _ ((Below.refl _ _).alloc (Nat.le_refl _) _) (step_call hR ((Below.refl _ _).alloc (Nat.le_refl _) _)) (fun D hD => by cases hD; exact ⟨_, rfl, iw_lit w _ [2] 1 rfl rfl (by omega)⟩)
  · refine ⟨[6], by decide, fun vs w hl hR hd K hK => ?_⟩
    obtain ⟨v0, vs, rfl, hl1⟩ := len_succ hl
    obtain ⟨v1, vs, rfl, hl2⟩ := len_succ hl1
    obtain ⟨v2, vs, rfl, hl3⟩ := len_succ hl2
    obtain ⟨v3, vs, rfl, hl4⟩ := len_succ hl3
    obtain ⟨v4, vs, rfl, hl5⟩ := len_succ hl4
    obtain ⟨v5, vs, rfl, hl6⟩ := len_succ hl5
    obtain ⟨v6, vs, rfl, hl7⟩ := len_succ hl6
    obtain ⟨v7, vs, rfl, hl8⟩ := len_succ hl7
    obtain ⟨v8, vs, rfl, hl9⟩ := len_succ hl8
    obtain ⟨v9, vs, rfl, hl10⟩ := len_succ hl9
    obtain ⟨v10, vs, rfl, hl11⟩ := len_succ hl10
    obtain ⟨v11, vs, rfl, hl12⟩ := len_succ hl11
    obtain ⟨v12, vs, rfl, hl13⟩ := len_succ hl12
    obtain rfl := len_zero hl13
    have dd := hd 6 (by simp) _ rfl; simp only [List.getD_cons_zero, List.getD_cons_succ] at dd; obtain ⟨g, rfl, hi⟩ := dd
    clear hd hl hl1 hl2 hl3 hl4 hl5 hl6 hl7 hl8 hl9 hl10 hl11 hl12 hl13
    replace hK := hK.out
    simp only [puts, List.set_cons_zero, List.set_cons_succ, Act.put, List.setIfInBounds_toArray] at hK ⊢
    have hK' : Shut _ := hK
    clear hK
    go_simp
    go_at_call 30; refine (of_row _ _ [2] [2] _ hi (by omega) ofL_d).mono ?_; rintro e w2 ⟨a, n, c, rfl, hs, hb⟩
    (try go_wp2_with fail)
    exact hK'.out _ _ (hb) (step_call hR (hb)) (fun D hD => by cases hD; exact ⟨a, n, c, rfl, hs⟩)
  · refine ⟨[5, 7], by decide, fun vs w hl hR hd K hK => ?_⟩
    obtain ⟨v0, vs, rfl, hl1⟩ := len_succ hl
    obtain ⟨v1, vs, rfl, hl2⟩ := len_succ hl1
    obtain ⟨v2, vs, rfl, hl3⟩ := len_succ hl2
    obtain ⟨v3, vs, rfl, hl4⟩ := len_succ hl3
    obtain ⟨v4, vs, rfl, hl5⟩ := len_succ hl4
    obtain ⟨v5, vs, rfl, hl6⟩ := len_succ hl5
    obtain ⟨v6, vs, rfl, hl7⟩ := len_succ hl6
    obtain ⟨v7, vs, rfl, hl8⟩ := len_succ hl7
    obtain ⟨v8, vs, rfl, hl9⟩ := len_succ hl8
    obtain ⟨v9, vs, rfl, hl10⟩ := len_succ hl9
    obtain ⟨v10, vs, rfl, hl11⟩ := len_succ hl10
    obtain ⟨v11, vs, rfl, hl12⟩ := len_succ hl11
    obtain ⟨v12, vs, rfl, hl13⟩ := len_succ hl12
    obtain rfl := len_zero hl13
    have dd := hd 5 (by simp) _ rfl; simp only [List.getD_cons_zero, List.getD_cons_succ] at dd; obtain ⟨a, n, c, rfl, hs⟩ := dd
    have dd := hd 7 (by simp) _ rfl; simp only [List.getD_cons_zero, List.getD_cons_succ] at dd; obtain ⟨b, m, d, rfl, ht⟩ := dd
    clear hd hl hl1 hl2 hl3 hl4 hl5 hl6 hl7 hl8 hl9 hl10 hl11 hl12 hl13
    replace hK := hK.out
    simp only [puts, List.set_cons_zero, List.set_cons_succ, Act.put, List.setIfInBounds_toArray] at hK ⊢
    have hK' : Shut _ := hK
    clear hK
    go_simp
    (try go_wp2_with fail)
    exact hK'.out _ _ (Below.refl _ _) (hR) (fun D hD => by cases hD; exact ⟨a, n, c, b, m, d, rfl, hs, ht⟩)
  · refine ⟨[], by decide, fun vs w hl hR hd K hK => ?_⟩
    obtain ⟨v0, vs, rfl, hl1⟩ := len_succ hl
    obtain ⟨v1, vs, rfl, hl2⟩ := len_succ hl1
    obtain ⟨v2, vs, rfl, hl3⟩ := len_succ hl2
    obtain ⟨v3, vs, rfl, hl4⟩ := len_succ hl3
    obtain ⟨v4, vs, rfl, hl5⟩ := len_succ hl4
    obtain ⟨v5, vs, rfl, hl6⟩ := len_succ hl5
    obtain ⟨v6, vs, rfl, hl7⟩ := len_succ hl6
    obtain ⟨v7, vs, rfl, hl8⟩ := len_succ hl7
    obtain ⟨v8, vs, rfl, hl9⟩ := len_succ hl8
    obtain ⟨v9, vs, rfl, hl10⟩ := len_succ hl9
    obtain ⟨v10, vs, rfl, hl11⟩ := len_succ hl10
    obtain ⟨v11, vs, rfl, hl12⟩ := len_succ hl11
    obtain ⟨v12, vs, rfl, hl13⟩ := len_succ hl12
    obtain rfl := len_zero hl13
    clear hd hl hl1 hl2 hl3 hl4 hl5 hl6 hl7 hl8 hl9 hl10 hl11 hl12 hl13
    replace hK := hK.out
    simp only [puts, List.set_cons_zero, List.set_cons_succ, Act.put, List.setIfInBounds_toArray] at hK ⊢
    have hK' : Shut _ := hK
    clear hK
    have r2 := (hR.cell (p := ⟨w2.heap.size, 0, none⟩) hz2).trans r2; have r3 := (hR.cell (p := ⟨w2.heap.size, 1, none⟩) hz2).trans r3
    go_simp
    (try go_wp2_with fail)
    exact hK'.out _ _ (Below.refl _ _) (hR) (fun D hD => by cases hD; rfl)
  · refine ⟨[2, 3, 8, 9], by decide, fun vs w hl hR hd K hK => ?_⟩
    obtain ⟨v0, vs, rfl, hl1⟩ := len_succ hl
    obtain ⟨v1, vs, rfl, hl2⟩ := len_succ hl1
    obtain ⟨v2, vs, rfl, hl3⟩ := len_succ hl2
    obtain ⟨v3, vs, rfl, hl4⟩ := len_succ hl3
    obtain ⟨v4, vs, rfl, hl5⟩ := len_succ hl4
    obtain ⟨v5, vs, rfl, hl6⟩ := len_succ hl5
    obtain ⟨v6, vs, rfl, hl7⟩ := len_succ hl6
    obtain ⟨v7, vs, rfl, hl8⟩ := len_succ hl7
    obtain ⟨v8, vs, rfl, hl9⟩ := len_succ hl8
    obtain ⟨v9, vs, rfl, hl10⟩ := len_succ hl9
    obtain ⟨v10, vs, rfl, hl11⟩ := len_succ hl10
    obtain ⟨v11, vs, rfl, hl12⟩ := len_succ hl11
    obtain ⟨v12, vs, rfl, hl13⟩ := len_succ hl12
    obtain rfl := len_zero hl13
    have dd := hd 2 (by simp) _ rfl; simp only [List.getD_cons_zero, List.getD_cons_succ] at dd; obtain ⟨a, n, c, rfl, hs⟩ := dd
    have dd := hd 3 (by simp) _ rfl; simp only [List.getD_cons_zero, List.getD_cons_succ] at dd; obtain rfl := dd
    have dd := hd 8 (by simp) _ rfl; simp only [List.getD_cons_zero, List.getD_cons_succ] at dd; obtain ⟨p, q, r, s, t, u, rfl, hc⟩ := dd
    have dd := hd 9 (by simp) _ rfl; simp only [List.getD_cons_zero, List.getD_cons_succ] at dd; obtain rfl := dd
    clear hd hl hl1 hl2 hl3 hl4 hl5 hl6 hl7 hl8 hl9 hl10 hl11 hl12 hl13
    replace hK := hK.out
    simp only [puts, List.set_cons_zero, List.set_cons_succ, Act.put, List.setIfInBounds_toArray] at hK ⊢
    have hK' : Shut _ := hK
    clear hK
    go_simp
    (try go_wp2_with fail)
    exact hK'.out _ _ ((Below.refl _ _).alloc (Nat.le_refl _) _) (step_call hR ((Below.refl _ _).alloc (Nat.le_refl _) _)) (fun D hD => by cases hD; exact ⟨_, rfl, cs_lit w _ [⟨a, n, c, none, 0, 0⟩, ⟨a2, n2, c2, none, 0, 0⟩, ⟨p, q, r, s, t, u⟩, ⟨a2, n2, c2, none, 0, 0⟩] _ 4 rfl rfl (by omega) (AllC.append (AllC.one (x := ([1, 2], [])) ⟨hs, Bs.nil _⟩) (AllC.append (AllC.one (hc2.below hR)) (AllC.append (AllC.one hc) (AllC.one (hc2.below hR)))))⟩)
  · refine ⟨[10], by decide, fun vs w hl hR hd K hK => ?_⟩
    obtain ⟨v0, vs, rfl, hl1⟩ := len_succ hl
    obtain ⟨v1, vs, rfl, hl2⟩ := len_succ hl1
    obtain ⟨v2, vs, rfl, hl3⟩ := len_succ hl2
    obtain ⟨v3, vs, rfl, hl4⟩ := len_succ hl3
    obtain ⟨v4, vs, rfl, hl5⟩ := len_succ hl4
    obtain ⟨v5, vs, rfl, hl6⟩ := len_succ hl5
    obtain ⟨v6, vs, rfl, hl7⟩ := len_succ hl6
    obtain ⟨v7, vs, rfl, hl8⟩ := len_succ hl7
    obtain ⟨v8, vs, rfl, hl9⟩ := len_succ hl8
    obtain ⟨v9, vs, rfl, hl10⟩ := len_succ hl9
    obtain ⟨v10, vs, rfl, hl11⟩ := len_succ hl10
    obtain ⟨v11, vs, rfl, hl12⟩ := len_succ hl11
    obtain ⟨v12, vs, rfl, hl13⟩ := len_succ hl12
    obtain rfl := len_zero hl13
    have dd := hd 10 (by simp) _ rfl; simp only [List.getD_cons_zero, List.getD_cons_succ] at dd; obtain ⟨g, rfl, hcs⟩ := dd
    clear hd hl hl1 hl2 hl3 hl4 hl5 hl6 hl7 hl8 hl9 hl10 hl11 hl12 hl13
    replace hK := hK.out
    simp only [puts, List.set_cons_zero, List.set_cons_succ, Act.put, List.setIfInBounds_toArray] at hK ⊢
    have hK' : Shut _ := hK
    clear hK
    go_simp
    go_at_call 43; refine (simple_c _ _ _ hcs (HW.out.below (hB.trans (hR.mono hB.size))).tz).mono ?_; rintro e w2 ⟨a, c, rfl, hs, hb⟩
    (try go_wp2_with fail)
    exact hK'.out _ _ (hb) (step_call hR (hb)) (fun D hD => by cases hD; exact ⟨a, c, rfl, hs⟩)
  · refine ⟨[11], by decide, fun vs w hl hR hd K hK => ?_⟩
    obtain ⟨v0, vs, rfl, hl1⟩ := len_succ hl
    obtain ⟨v1, vs, rfl, hl2⟩ := len_succ hl1
    obtain ⟨v2, vs, rfl, hl3⟩ := len_succ hl2
    obtain ⟨v3, vs, rfl, hl4⟩ := len_succ hl3
    obtain ⟨v4, vs, rfl, hl5⟩ := len_succ hl4
    obtain ⟨v5, vs, rfl, hl6⟩ := len_succ hl5
    obtain ⟨v6, vs, rfl, hl7⟩ := len_succ hl6
    obtain ⟨v7, vs, rfl, hl8⟩ := len_succ hl7
    obtain ⟨v8, vs, rfl, hl9⟩ := len_succ hl8
    obtain ⟨v9, vs, rfl, hl10⟩ := len_succ hl9
    obtain ⟨v10, vs, rfl, hl11⟩ := len_succ hl10
    obtain ⟨v11, vs, rfl, hl12⟩ := len_succ hl11
    obtain ⟨v12, vs, rfl, hl13⟩ := len_succ hl12
    obtain rfl := len_zero hl13
    have dd := hd 11 (by simp) _ rfl; simp only [List.getD_cons_zero, List.getD_cons_succ] at dd; obtain ⟨a, c, rfl, hs⟩ := dd
    clear hd hl hl1 hl2 hl3 hl4 hl5 hl6 hl7 hl8 hl9 hl10 hl11 hl12 hl13
    replace hK := hK.out
    simp only [puts, List.set_cons_zero, List.set_cons_succ, Act.put, List.setIfInBounds_toArray] at hK ⊢
    have hK' : Shut _ := hK
    clear hK
    go_simp
    (try go_wp2_with fail)
    exact hK'.out _ _ (Below.refl _ _) (hR) (fun D hD => by cases hD; exact ⟨a, c, rfl, hs⟩)
  · intro vs w6 hl hR hd
    obtain ⟨v0, vs, rfl, hl1⟩ := len_succ hl
    obtain ⟨v1, vs, rfl, hl2⟩ := len_succ hl1
    obtain ⟨v2, vs, rfl, hl3⟩ := len_succ hl2
    obtain ⟨v3, vs, rfl, hl4⟩ := len_succ hl3
    obtain ⟨v4, vs, rfl, hl5⟩ := len_succ hl4
    obtain ⟨v5, vs, rfl, hl6⟩ := len_succ hl5
    obtain ⟨v6, vs, rfl, hl7⟩ := len_succ hl6
    obtain ⟨v7, vs, rfl, hl8⟩ := len_succ hl7
    obtain ⟨v8, vs, rfl, hl9⟩ := len_succ hl8
    obtain ⟨v9, vs, rfl, hl10⟩ := len_succ hl9
    obtain ⟨v10, vs, rfl, hl11⟩ := len_succ hl10
    obtain ⟨v11, vs, rfl, hl12⟩ := len_succ hl11
    obtain ⟨v12, vs, rfl, hl13⟩ := len_succ hl12
    obtain rfl := len_zero hl13
    have dd := hd 12 _ rfl; simp only [List.getD_cons_zero, List.getD_cons_succ] at dd; obtain ⟨a7, c7, rfl, hs7⟩ := dd
    clear hd hl hl1 hl2 hl3 hl4 hl5 hl6 hl7 hl8 hl9 hl10 hl11 hl12 hl13
    simp only [puts, List.set_cons_zero, List.set_cons_succ, Act.put, List.setIfInBounds_toArray]
    replace hA := hA.below hR
    replace hc := hc.below hR
    replace hA2 := hA2.below hR
    replace hc2 := hc2.below hR
    replace hA3 := hA3.below hR
    replace hc3 := hc3.below hR
    replace hm4 := hm4.below hR
    replace hm5 := hm5.below hR
    replace hB := step_call hB hR
    clear hR r2 r3 hz2
    go_wp2_with fail
    refine region_slots [39, 40, 41, 42, 43, 44, 38, 45, 46, 8, 9]
      [fun v w => v = .agg #[.slice a2 n2 c2, .slice none 0 0],
       fun v w => v = .agg #[.slice none 0 0, .slice a3 n3 c3],
       fun v w => ∃ g, v = .slice (some ⟨g, 0, none⟩) 2 2 ∧ Cs w (some ⟨g, 0, none⟩) 2 2 [([1], []), ([], [2])],
       fun v w => ∃ g, v = .slice (some ⟨g, 0, none⟩) 3 3 ∧ Iw w (some ⟨g, 0, none⟩) 3 3 [1, 2, 3],
       fun v w => ∃ a n c, v = .agg #[.slice a n c] ∧ Bs w a n c [1, 2, 3],
       fun v w => v = .tuple #[.int .i64 6, .int .i64 0],
       fun v w => v = .tuple #[.int .i64 6, .int .i64 0],
       fun v w => v = .int .i64 6,
       fun v w => v = .int .i64 0,
       fun v w => v = .int .i64 6,
       fun v w => v = .int .i64 0]
      (fun w => Below w6.heap.size w6 w) (fun w w' => Below w.heap.size w w') (by kernel_rfl) (by kernel_rfl) rfl [undef, undef, undef, undef, undef, undef, undef, undef, undef, undef, undef] (by simp only [puts, List.set_cons_zero, List.set_cons_succ, Act.put, List.setIfInBounds_toArray]) rfl ((Below.refl _ _).drew) ?_ ⟨?_, ?_, ?_, ?_, ?_, ?_, ?_, ?_, ?_, ?_, ?_, trivial⟩ ?_
    · intro j D hj v w w' hb hD
      match j, hj with
      | 0, hj => cases hj; exact hD
      | 1, hj => cases hj; exact hD
      | 2, hj => cases hj; obtain ⟨g, rfl, h⟩ := hD; exact ⟨g, rfl, h.below hb⟩
      | 3, hj => cases hj; obtain ⟨g, rfl, h⟩ := hD; exact ⟨g, rfl, h.below hb⟩
      | 4, hj => cases hj; obtain ⟨a, n, c, rfl, h⟩ := hD; exact ⟨a, n, c, rfl, h.below hb⟩
      | 5, hj => cases hj; exact hD
      | 6, hj => cases hj; exact hD
      | 7, hj => cases hj; exact hD
      | 8, hj => cases hj; exact hD
      | 9, hj => cases hj; exact hD
      | 10, hj => cases hj; exact hD
      | j + 11, hj => cases hj
    · refine ⟨[], by decide, fun vs w hl hR hd K hK => ?_⟩
      obtain ⟨v0, vs, rfl, hl1⟩ := len_succ hl
      obtain ⟨v1, vs, rfl, hl2⟩ := len_succ hl1
      obtain ⟨v2, vs, rfl, hl3⟩ := len_succ hl2
      obtain ⟨v3, vs, rfl, hl4⟩ := len_succ hl3
      obtain ⟨v4, vs, rfl, hl5⟩ := len_succ hl4
      obtain ⟨v5, vs, rfl, hl6⟩ := len_succ hl5
      obtain ⟨v6, vs, rfl, hl7⟩ := len_succ hl6
      obtain ⟨v7, vs, rfl, hl8⟩ := len_succ hl7
      obtain ⟨v8, vs, rfl, hl9⟩ := len_succ hl8
      obtain ⟨v9, vs, rfl, hl10⟩ := len_succ hl9
      obtain ⟨v10, vs, rfl, hl11⟩ := len_succ hl10
      obtain rfl := len_zero hl11
      clear hd hl hl1 hl2 hl3 hl4 hl5 hl6 hl7 hl8 hl9 hl10 hl11
      replace hK := hK.out
      simp only [puts, List.set_cons_zero, List.set_cons_succ, Act.put, List.setIfInBounds_toArray] at hK ⊢
      have hK' : Shut _ := hK
      clear hK
      have rr := hA2.below hR; have r2 := rr.1; have r3 := rr.2.1; clear rr
      go_simp
      (try go_wp2_with fail)
      exact hK'.out _ _ (Below.refl _ _) (hR) (fun D hD => by cases hD; rfl)
    · refine ⟨[], by decide, fun vs w hl hR hd K hK => ?_⟩
      obtain ⟨v0, vs, rfl, hl1⟩ := len_succ hl
      obtain ⟨v1, vs, rfl, hl2⟩ := len_succ hl1
      obtain ⟨v2, vs, rfl, hl3⟩ := len_succ hl2
      obtain ⟨v3, vs, rfl, hl4⟩ := len_succ hl3
      obtain ⟨v4, vs, rfl, hl5⟩ := len_succ hl4
      obtain ⟨v5, vs, rfl, hl6⟩ := len_succ hl5
      obtain ⟨v6, vs, rfl, hl7⟩ := len_succ hl6
      obtain ⟨v7, vs, rfl, hl8⟩ := len_succ hl7
      obtain ⟨v8, vs, rfl, hl9⟩ := len_succ hl8
      obtain ⟨v9, vs, rfl, hl10⟩ := len_succ hl9
      obtain ⟨v10, vs, rfl, hl11⟩ := len_succ hl10
      obtain rfl := len_zero hl11
      clear hd hl hl1 hl2 hl3 hl4 hl5 hl6 hl7 hl8 hl9 hl10 hl11
      replace hK := hK.out
      simp only [puts, List.set_cons_zero, List.set_cons_succ, Act.put, List.setIfInBounds_toArray] at hK ⊢
      have hK' : Shut _ := hK
      clear hK
      have rr := hA3.below hR; have r2 := rr.1; have r3 := rr.2.1; clear rr
      go_simp
      (try go_wp2_with fail)
      exact hK'.out _ _ (Below.refl _ _) (hR) (fun D hD => by cases hD; rfl)
    · refine ⟨[0, 1], by decide, fun vs w hl hR hd K hK => ?_⟩
      obtain ⟨v0, vs, rfl, hl1⟩ := len_succ hl
      obtain ⟨v1, vs, rfl, hl2⟩ := len_succ hl1
      obtain ⟨v2, vs, rfl, hl3⟩ := len_succ hl2
      obtain ⟨v3, vs, rfl, hl4⟩ := len_succ hl3
      obtain ⟨v4, vs, rfl, hl5⟩ := len_succ hl4
      obtain ⟨v5, vs, rfl, hl6⟩ := len_succ hl5
      obtain ⟨v6, vs, rfl, hl7⟩ := len_succ hl6
      obtain ⟨v7, vs, rfl, hl8⟩ := len_succ hl7
      obtain ⟨v8, vs, rfl, hl9⟩ := len_succ hl8
      obtain ⟨v9, vs, rfl, hl10⟩ := len_succ hl9
      obtain ⟨v10, vs, rfl, hl11⟩ := len_succ hl10
      obtain rfl := len_zero hl11
      have dd := hd 0 (by simp) _ rfl; simp only [List.getD_cons_zero, List.getD_cons_succ] at dd; obtain rfl := dd
      have dd := hd 1 (by simp) _ rfl; simp only [List.getD_cons_zero, List.getD_cons_succ] at dd; obtain rfl := dd
      clear hd hl hl1 hl2 hl3 hl4 hl5 hl6 hl7 hl8 hl9 hl10 hl11
      replace hK := hK.out
      simp only [puts, List.set_cons_zero, List.set_cons_succ, Act.put, List.setIfInBounds_toArray] at hK ⊢
      have hK' : Shut _ := hK
      clear hK
      go_simp
      (try go_wp2_with fail)
      exact hK'.out _ _ ((Below.refl _ _).alloc (Nat.le_refl _) _) (step_call hR ((Below.refl _ _).alloc (Nat.le_refl _) _)) (fun D hD => by cases hD; exact ⟨_, rfl, cs_lit w _ [⟨a2, n2, c2, none, 0, 0⟩, ⟨none, 0, 0, a3, n3, c3⟩] _ 2 rfl rfl (by omega) (AllC.append (AllC.one (hc2.below hR)) (AllC.one (hc3.below hR)))⟩)
    · refine ⟨[], by decide, fun vs w hl hR hd K hK => ?_⟩
      obtain ⟨v0, vs, rfl, hl1⟩ := len_succ hl
      obtain ⟨v1, vs, rfl, hl2⟩ := len_succ hl1
      obtain ⟨v2, vs, rfl, hl3⟩ := len_succ hl2
      obtain ⟨v3, vs, rfl, hl4⟩ := len_succ hl3
      obtain ⟨v4, vs, rfl, hl5⟩ := len_succ hl4
      obtain ⟨v5, vs, rfl, hl6⟩ := len_succ hl5
      obtain ⟨v6, vs, rfl, hl7⟩ := len_succ hl6
      obtain ⟨v7, vs, rfl, hl8⟩ := len_succ hl7
      obtain ⟨v8, vs, rfl, hl9⟩ := len_succ hl8
      obtain ⟨v9, vs, rfl, hl10⟩ := len_succ hl9
      obtain ⟨v10, vs, rfl, hl11⟩ := len_succ hl10
      obtain rfl := len_zero hl11
      clear hd hl hl1 hl2 hl3 hl4 hl5 hl6 hl7 hl8 hl9 hl10 hl11
      replace hK := hK.out
      simp only [puts, List.set_cons_zero, List.set_cons_succ, Act.put, List.setIfInBounds_toArray] at hK ⊢
      have hK' : Shut _ := hK
      clear hK
      go_simp
      (try go_wp2_with fail)
      exact hK'.out _ _ ((Below.refl _ _).alloc (Nat.le_refl _) _) (step_call hR ((Below.refl _ _).alloc (Nat.le_refl _) _)) (fun D hD => by cases hD; exact ⟨_, rfl, iw_lit w _ [1, 2, 3] 3 rfl rfl (by omega)⟩)
    · refine ⟨[3], by decide, fun vs w hl hR hd K hK => ?_⟩
      obtain ⟨v0, vs, rfl, hl1⟩ := len_succ hl
      obtain ⟨v1, vs, rfl, hl2⟩ := len_succ hl1
      obtain ⟨v2, vs, rfl, hl3⟩ := len_succ hl2
      obtain ⟨v3, vs, rfl, hl4⟩ := len_succ hl3
      obtain ⟨v4, vs, rfl, hl5⟩ := len_succ hl4
      obtain ⟨v5, vs, rfl, hl6⟩ := len_succ hl5
      obtain ⟨v6, vs, rfl, hl7⟩ := len_succ hl6
      obtain ⟨v7, vs, rfl, hl8⟩ := len_succ hl7
      obtain ⟨v8, vs, rfl, hl9⟩ := len_succ hl8
      obtain ⟨v9, vs, rfl, hl10⟩ := len_succ hl9
      obtain ⟨v10, vs, rfl, hl11⟩ := len_succ hl10
      obtain rfl := len_zero hl11
      have dd := hd 3 (by simp) _ rfl; simp only [List.getD_cons_zero, List.getD_cons_succ] at dd; obtain ⟨g, rfl, hi⟩ := dd
      clear hd hl hl1 hl2 hl3 hl4 hl5 hl6 hl7 hl8 hl9 hl10 hl11
      replace hK := hK.out
      simp only [puts, List.set_cons_zero, List.set_cons_succ, Act.put, List.setIfInBounds_toArray] at hK ⊢
      have hK' : Shut _ := hK
      clear hK
      go_simp
      go_at_call 30; refine (of_row _ _ [1, 2, 3] [1, 2, 3] _ hi (by omega) ofL_123).mono ?_; rintro e w2 ⟨a, n, c, rfl, hs, hb⟩
      (try go_wp2_with fail)
      exact hK'.out _ _ (hb) (step_call hR (hb)) (fun D hD => by cases hD; exact ⟨a, n, c, rfl, hs⟩)
    · refine ⟨[2, 4], by decide, fun vs w hl hR hd K hK => ?_⟩
      obtain ⟨v0, vs, rfl, hl1⟩ := len_succ hl
      obtain ⟨v1, vs, rfl, hl2⟩ := len_succ hl1
      obtain ⟨v2, vs, rfl, hl3⟩ := len_succ hl2
      obtain ⟨v3, vs, rfl, hl4⟩ := len_succ hl3
      obtain ⟨v4, vs, rfl, hl5⟩ := len_succ hl4
      obtain ⟨v5, vs, rfl, hl6⟩ := len_succ hl5
      obtain ⟨v6, vs, rfl, hl7⟩ := len_succ hl6
      obtain ⟨v7, vs, rfl, hl8⟩ := len_succ hl7
      obtain ⟨v8, vs, rfl, hl9⟩ := len_succ hl8
      obtain ⟨v9, vs, rfl, hl10⟩ := len_succ hl9
      obtain ⟨v10, vs, rfl, hl11⟩ := len_succ hl10
      obtain rfl := len_zero hl11
      have dd := hd 2 (by simp) _ rfl; simp only [List.getD_cons_zero, List.getD_cons_succ] at dd; obtain ⟨g, rfl, hcs⟩ := dd
      have dd := hd 4 (by simp) _ rfl; simp only [List.getD_cons_zero, List.getD_cons_succ] at dd; obtain ⟨a, n, c, rfl, hs⟩ := dd
      clear hd hl hl1 hl2 hl3 hl4 hl5 hl6 hl7 hl8 hl9 hl10 hl11
      replace hK := hK.out
      simp only [puts, List.set_cons_zero, List.set_cons_succ, Act.put, List.setIfInBounds_toArray] at hK ⊢
      have hK' : Shut _ := hK
      clear hK
      go_simp
      go_at_call 33; refine (count_c _ _ _ _ _ _ hcs hs (HW.out.below (step_call hB hR)).tz).mono ?_; rintro e w2 ⟨rfl, hb⟩
      (try go_wp2_with fail)
      exact hK'.out _ _ (hb) (step_call hR (hb)) (fun D hD => by cases hD; rfl)
    · refine ⟨[5], by decide, fun vs w hl hR hd K hK => ?_⟩
      obtain ⟨v0, vs, rfl, hl1⟩ := len_succ hl
      obtain ⟨v1, vs, rfl, hl2⟩ := len_succ hl1
      obtain ⟨v2, vs, rfl, hl3⟩ := len_succ hl2
      obtain ⟨v3, vs, rfl, hl4⟩ := len_succ hl3
      obtain ⟨v4, vs, rfl, hl5⟩ := len_succ hl4
      obtain ⟨v5, vs, rfl, hl6⟩ := len_succ hl5
      obtain ⟨v6, vs, rfl, hl7⟩ := len_succ hl6
      obtain ⟨v7, vs, rfl, hl8⟩ := len_succ hl7
      obtain ⟨v8, vs, rfl, hl9⟩ := len_succ hl8
      obtain ⟨v9, vs, rfl, hl10⟩ := len_succ hl9
      obtain ⟨v10, vs, rfl, hl11⟩ := len_succ hl10
      obtain rfl := len_zero hl11
      have dd := hd 5 (by simp) _ rfl; simp only [List.getD_cons_zero, List.getD_cons_succ] at dd; obtain rfl := dd
      clear hd hl hl1 hl2 hl3 hl4 hl5 hl6 hl7 hl8 hl9 hl10 hl11
      replace hK := hK.out
      simp only [puts, List.set_cons_zero, List.set_cons_succ, Act.put, List.setIfInBounds_toArray] at hK ⊢
      have hK' : Shut _ := hK
      clear hK
      go_simp
      (try go_wp2_with fail)
      exact hK'.out _ _ (Below.refl _ _) (hR) (fun D hD => by cases hD; rfl)
    · refine ⟨[6], by decide, fun vs w hl hR hd K hK => ?_⟩
      obtain ⟨v0, vs, rfl, hl1⟩ := len_succ hl
      obtain ⟨v1, vs, rfl, hl2⟩ := len_succ hl1
      obtain ⟨v2, vs, rfl, hl3⟩ := len_succ hl2
      obtain ⟨v3, vs, rfl, hl4⟩ := len_succ hl3
      obtain ⟨v4, vs, rfl, hl5⟩ := len_succ hl4
      obtain ⟨v5, vs, rfl, hl6⟩ := len_succ hl5
      obtain ⟨v6, vs, rfl, hl7⟩ := len_succ hl6
      obtain ⟨v7, vs, rfl, hl8⟩ := len_succ hl7
      obtain ⟨v8, vs, rfl, hl9⟩ := len_succ hl8
      obtain ⟨v9, vs, rfl, hl10⟩ := len_succ hl9
      obtain ⟨v10, vs, rfl, hl11⟩ := len_succ hl10
      obtain rfl := len_zero hl11
      have dd := hd 6 (by simp) _ rfl; simp only [List.getD_cons_zero, List.getD_cons_succ] at dd; obtain rfl := dd
      clear hd hl hl1 hl2 hl3 hl4 hl5 hl6 hl7 hl8 hl9 hl10 hl11
      replace hK := hK.out
      simp only [puts, List.set_cons_zero, List.set_cons_succ, Act.put, List.setIfInBounds_toArray] at hK ⊢
      have hK' : Shut _ := hK
      clear hK
      go_simp
      (try go_wp2_with fail)
      exact hK'.out _ _ (Below.refl _ _) (hR) (fun D hD => by cases hD; rfl)
    · refine ⟨[6], by decide, fun vs w hl hR hd K hK => ?_⟩
      obtain ⟨v0, vs, rfl, hl1⟩ := len_succ hl
      obtain ⟨v1, vs, rfl, hl2⟩ := len_succ hl1
      obtain ⟨v2, vs, rfl, hl3⟩ := len_succ hl2
      obtain ⟨v3, vs, rfl, hl4⟩ := len_succ hl3
      obtain ⟨v4, vs, rfl, hl5⟩ := len_succ hl4
      obtain ⟨v5, vs, rfl, hl6⟩ := len_succ hl5
      obtain ⟨v6, vs, rfl, hl7⟩ := len_succ hl6
      obtain ⟨v7, vs, rfl, hl8⟩ := len_succ hl7
      obtain ⟨v8, vs, rfl, hl9⟩ := len_succ hl8
      obtain ⟨v9, vs, rfl, hl10⟩ := len_succ hl9
      obtain ⟨v10, vs, rfl, hl11⟩ := len_succ hl10
      obtain rfl := len_zero hl11
      have dd := hd 6 (by simp) _ rfl; simp only [List.getD_cons_zero, List.getD_cons_succ] at dd; obtain rfl := dd
      clear hd hl hl1 hl2 hl3 hl4 hl5 hl6 hl7 hl8 hl9 hl10 hl11
      replace hK := hK.out
      simp only [puts, List.set_cons_zero, List.set_cons_succ, Act.put, List.setIfInBounds_toArray] at hK ⊢
      have hK' : Shut _ := hK
      clear hK
      go_simp
      (try go_wp2_with fail)
      exact hK'.out _ _ (Below.refl _ _) (hR) (fun D hD => by cases hD; rfl)
    · refine ⟨[7], by decide, fun vs w hl hR hd K hK => ?_⟩
      obtain ⟨v0, vs, rfl, hl1⟩ := len_succ hl
      obtain ⟨v1, vs, rfl, hl2⟩ := len_succ hl1
      obtain ⟨v2, vs, rfl, hl3⟩ := len_succ hl2
      obtain ⟨v3, vs, rfl, hl4⟩ := len_succ hl3
      obtain ⟨v4, vs, rfl, hl5⟩ := len_succ hl4
      obtain ⟨v5, vs, rfl, hl6⟩ := len_succ hl5
      obtain ⟨v6, vs, rfl, hl7⟩ := len_succ hl6
      obtain ⟨v7, vs, rfl, hl8⟩ := len_succ hl7
      obtain ⟨v8, vs, rfl, hl9⟩ := len_succ hl8
      obtain ⟨v9, vs, rfl, hl10⟩ := len_succ hl9
      obtain ⟨v10, vs, rfl, hl11⟩ := len_succ hl10
      obtain rfl := len_zero hl11
      have dd := hd 7 (by simp) _ rfl; simp only [List.getD_cons_zero, List.getD_cons_succ] at dd; obtain rfl := dd
      clear hd hl hl1 hl2 hl3 hl4 hl5 hl6 hl7 hl8 hl9 hl10 hl11
      replace hK := hK.out
      simp only [puts, List.set_cons_zero, List.set_cons_succ, Act.put, List.setIfInBounds_toArray] at hK ⊢
      have hK' : Shut _ := hK
      clear hK
      go_simp
      (try go_wp2_with fail)
      exact hK'.out _ _ (Below.refl _ _) (hR) (fun D hD => by cases hD; rfl)
    · refine ⟨[8], by decide, fun vs w hl hR hd K hK => ?_⟩
      obtain ⟨v0, vs, rfl, hl1⟩ := len_succ hl
      obtain ⟨v1, vs, rfl, hl2⟩ := len_succ hl1
      obtain ⟨v2, vs, rfl, hl3⟩ := len_succ hl2
      obtain ⟨v3, vs, rfl, hl4⟩ := len_succ hl3
      obtain ⟨v4, vs, rfl, hl5⟩ := len_succ hl4
      obtain ⟨v5, vs, rfl, hl6⟩ := len_succ hl5
      obtain ⟨v6, vs, rfl, hl7⟩ := len_succ hl6
      obtain ⟨v7, vs, rfl, hl8⟩ := len_succ hl7
      obtain ⟨v8, vs, rfl, hl9⟩ := len_succ hl8
      obtain ⟨v9, vs, rfl, hl10⟩ := len_succ hl9
      obtain ⟨v10, vs, rfl, hl11⟩ := len_succ hl10
      obtain rfl := len_zero hl11
      have dd := hd 8 (by simp) _ rfl; simp only [List.getD_cons_zero, List.getD_cons_succ] at dd; obtain rfl := dd
      clear hd hl hl1 hl2 hl3 hl4 hl5 hl6 hl7 hl8 hl9 hl10 hl11
      replace hK := hK.out
      simp only [puts, List.set_cons_zero, List.set_cons_succ, Act.put, List.setIfInBounds_toArray] at hK ⊢
      have hK' : Shut _ := hK
      clear hK
      go_simp
      (try go_wp2_with fail)
      exact hK'.out _ _ (Below.refl _ _) (hR) (fun D hD => by cases hD; rfl)
    · intro vs w7 hl hR hd
      obtain ⟨v0, vs, rfl, hl1⟩ := len_succ hl
      obtain ⟨v1, vs, rfl, hl2⟩ := len_succ hl1
      obtain ⟨v2, vs, rfl, hl3⟩ := len_succ hl2
      obtain ⟨v3, vs, rfl, hl4⟩ := len_succ hl3
      obtain ⟨v4, vs, rfl, hl5⟩ := len_succ hl4
      obtain ⟨v5, vs, rfl, hl6⟩ := len_succ hl5
      obtain ⟨v6, vs, rfl, hl7⟩ := len_succ hl6
      obtain ⟨v7, vs, rfl, hl8⟩ := len_succ hl7
      obtain ⟨v8, vs, rfl, hl9⟩ := len_succ hl8
      obtain ⟨v9, vs, rfl, hl10⟩ := len_succ hl9
      obtain ⟨v10, vs, rfl, hl11⟩ := len_succ hl10
      obtain rfl := len_zero hl11
      have dd := hd 9 _ rfl; simp only [List.getD_cons_zero, List.getD_cons_succ] at dd; obtain rfl := dd
      have dd := hd 10 _ rfl; simp only [List.getD_cons_zero, List.getD_cons_succ] at dd; obtain rfl := dd
      clear hd hl hl1 hl2 hl3 hl4 hl5 hl6 hl7 hl8 hl9 hl10 hl11
      simp only [puts, List.set_cons_zero, List.set_cons_succ, Act.put, List.setIfInBounds_toArray]
      replace hA := hA.below hR
      replace hc := hc.below hR
      replace hm4 := hm4.below hR
      replace hm5 := hm5.below hR
      replace hs7 := hs7.below hR
      replace hB := step_call hB hR
      have HW7 := Lib.hid (HW.out.below hB)
      clear hR hA2 hc2 hA3 hc3
      obtain ⟨p4, o4, x1, x2, x3, x4, x5, x6, y1, y2, y3, y4, y5, y6, rfl, hp4, k0, k1, k2, k3, hx0, hx1⟩ := cs_two hm4
      obtain ⟨p5, o5, z1, z2, z3, z4, z5, z6, rfl, hp5, k4, k5, hy0⟩ := cs_one hm5
      obtain ⟨p6, o6, u1, u2, u3, u4, u5, u6, rfl, hp6, k6, k7, hz0⟩ := cs_one hs7
      have k8 := hA.1
      have k9 := hA.2.1
      have hA9 := hA.2.2
      have HS : Hid (∀ w', Below w7.heap.size w7 w' → w'.cell? ⟨p4, o4, none⟩ = some (.slice x1 x2 x3) ∧ w'.cell? ⟨p4, o4 + 1, none⟩ = some (.slice x4 x5 x6) ∧ w'.cell? ⟨p4, o4 + 2, none⟩ = some (.slice y1 y2 y3) ∧ w'.cell? ⟨p4, o4 + 3, none⟩ = some (.slice y4 y5 y6) ∧ w'.cell? ⟨p5, o5, none⟩ = some (.slice z1 z2 z3) ∧ w'.cell? ⟨p5, o5 + 1, none⟩ = some (.slice z4 z5 z6) ∧ w'.cell? ⟨p6, o6, none⟩ = some (.slice u1 u2 u3) ∧ w'.cell? ⟨p6, o6 + 1, none⟩ = some (.slice u4 u5 u6) ∧ w'.cell? ⟨w1.heap.size, 0, none⟩ = some (.slice a1 n1 c1) ∧ w'.cell? ⟨w1.heap.size, 1, none⟩ = some (.slice b1 m1 d1)) := fun w' hb =>
        ⟨(hb.cell (p := ⟨p4, _, none⟩) hp4).trans k0, (hb.cell (p := ⟨p4, _, none⟩) hp4).trans k1, (hb.cell (p := ⟨p4, _, none⟩) hp4).trans k2, (hb.cell (p := ⟨p4, _, none⟩) hp4).trans k3, (hb.cell (p := ⟨p5, _, none⟩) hp5).trans k4, (hb.cell (p := ⟨p5, _, none⟩) hp5).trans k5, (hb.cell (p := ⟨p6, _, none⟩) hp6).trans k6, (hb.cell (p := ⟨p6, _, none⟩) hp6).trans k7, (hb.cell (p := ⟨w1.heap.size, _, none⟩) hA9).trans k8, (hb.cell (p := ⟨w1.heap.size, _, none⟩) hA9).trans k9⟩
      have HBB := Lib.hid hB
      have hD : Below w7.heap.size w7 w7.drew := (Below.refl _ _).drew
      clear k0 k1 k2 k3 k4 k5 k6 k7 k8 k9 hA hm4 hm5 hs7 hB hp4 hp5 hp6 hA9
      go_wp2_with fail
      simp only [List.append_eq, List.cons_append, List.nil_append]
      go_region_held3 (fun w' => w'.cell? ⟨p4, o4, none⟩ = some (.slice x1 x2 x3) ∧ w'.cell? ⟨p4, o4 + 1, none⟩ = some (.slice x4 x5 x6) ∧ w'.cell? ⟨p4, o4 + 2, none⟩ = some (.slice y1 y2 y3) ∧ w'.cell? ⟨p4, o4 + 3, none⟩ = some (.slice y4 y5 y6) ∧ w'.cell? ⟨p5, o5, none⟩ = some (.slice z1 z2 z3) ∧ w'.cell? ⟨p5, o5 + 1, none⟩ = some (.slice z4 z5 z6) ∧ w'.cell? ⟨p6, o6, none⟩ = some (.slice u1 u2 u3) ∧ w'.cell? ⟨p6, o6 + 1, none⟩ = some (.slice u4 u5 u6) ∧ w'.cell? ⟨w1.heap.size, 0, none⟩ = some (.slice a1 n1 c1) ∧ w'.cell? ⟨w1.heap.size, 1, none⟩ = some (.slice b1 m1 d1))
        (first | exact HS.out _ hD | exact HS.out _ (hD.alloc hD.size _))
        (first
          | (go_at_call 30; (with_reducible refine (of_fg _ _ rfl).mono ?_); rintro e w10 ⟨a10, n10, c10, rfl, hs10, hb⟩; have hD := step_call hD (bel1 hb); clear hb)
          | (go_at_call 30; refine (of_row _ _ [1, 2] [1, 2] _ ((iw_lit w7 _ [1, 2] 2 rfl rfl (by omega)).below (Below.refl _ _).drew) (by omega) ofL_12).mono ?_; rintro e w8 ⟨a8, n8, c8, rfl, hs8, hb⟩; have hD := step_call (((Below.refl w7.heap.size w7).alloc (Nat.le_refl _) _).drew) hb; clear hb)
          | (go_at_call 17; (with_reducible refine (holds_c1 _ _ _ _ _ _ _ _ _ _ (hc.below hD) hs8).mono ?_); rintro e w9 ⟨rfl, hb⟩; have hD := step_call hD hb; clear hb; clear hs8)
          | (go_at_call 17; (with_reducible refine (holds_c2 _ _ _ _ _ _ _ _ _ _ (hc.below hD) hs10).mono ?_); rintro e w11 ⟨rfl, hb⟩; have hD := step_call hD hb; clear hb; clear hs10)
          | (go_at_call 32; (with_reducible refine (text_c1 _ _ _ _ _ _ _ (hx0.below hD) (HW7.out.below hD)).mono ?_); rintro e w12 ⟨rfl, hb⟩; have hD := step_call hD hb; clear hb)
          | (go_at_call 32; (with_reducible refine (text_c2 _ _ _ _ _ _ _ (hx1.below hD) (HW7.out.below hD)).mono ?_); rintro e w13 ⟨rfl, hb⟩; have hD := step_call hD hb; clear hb)
          | (go_at_call 32; (with_reducible refine (text_c2 _ _ _ _ _ _ _ (hy0.below hD) (HW7.out.below hD)).mono ?_); rintro e w14 ⟨rfl, hb⟩; have hD := step_call hD hb; clear hb)
          | (go_at_call 32; (with_reducible refine (text_c3 _ _ _ _ _ _ _ (hz0.below hD) (HW7.out.below hD)).mono ?_); rintro e w15 ⟨rfl, hb⟩; have hD := step_call hD hb; clear hb)
          | (go_at_call 56; (with_reducible refine (bytes_c _ _ _ _ _ _ _ (hc.below hD)).mono ?_); rintro e w16 ⟨b16, c16, rfl, hw16, hb⟩; have hD := step_call hD hb; clear hb)
          | (go_at_call 56; (with_reducible refine (bytes_c _ _ _ _ _ _ _ (hc.below (hD.alloc hD.size _))).mono ?_); rintro e w16 ⟨b16, c16, rfl, hw16, hb⟩; have hlw := (bw_lit4 _).below hb; have hD := step_call hD (bel1 hb); clear hb)
          | (go_at_call 55; (with_reducible refine (equal_lit _ _ _ hw16).mono ?_); rintro e w17 ⟨rfl, hb⟩; have hD := step_call hD (bel1 hb); clear hb)
          | (go_at_call 55; (with_reducible refine (equalB_any _ _ _ _ _ _ _ _ _ hw16 hlw).mono ?_); rintro e w17 ⟨rfl, hb⟩; have hD := step_call hD hb; clear hb hlw; simp only [decide_true]))
      all_goals

        go_wp2_with fail
        go_ret
        exact ⟨rfl, step_call HBB.out hD⟩
end Go.Proofs.YtadomogbakcokaaGreatDoor
