/- Contracts: Of, Or, Minus, Within. -/
import Derived.Test.YtgbonpmakahibaaDoorDaI
import Derived.Test.YtgbonpmakahibaaDoorDaG
namespace Go.Proofs.YtgbonpmakahibaaDoor.Dy
open Go.RowKit Go.PlainAid
set_option linter.unusedVariables false
set_option linter.unusedSimpArgs false
set_option maxHeartbeats 2000000

theorem new2 (w : World) (v1 v2 : Value) (T : TypeId) : (w.alloc (.cells #[v1, v2] T)).cell? ⟨w.heap.size, 0, none⟩ = some v1 ∧ (w.alloc (.cells #[v1, v2] T)).cell? ⟨w.heap.size, 1, none⟩ = some v2 := by constructor <;> simp
theorem ofP_err {w w' : World} {l : List (Int × Int)} {x : Int} (h : errL l = x) (hx : x ≠ 0) (hb : RowKit.Below w.heap.size w w') : OfP w l (.returned (.tuple #[.agg #[.slice none 0 0], .int .i64 x])) w' := by
  refine ⟨none, 0, 0, [], by rw [h], Ds.nil _ _ _ (by unfold maxLen; omega), can_nil, fun d => ?_, hb⟩
  rw [decide_eq_false (by rw [h]; exact hx)]; rfl
theorem ofP_ok {w w' : World} {l r : List (Int × Int)} {a : Option Addr} {n cap : Nat} (h : errL l = 0) (hd : Ds w' a n cap r) (hc : Can r) (hm : ∀ d, Dm r d = Dm l d) (hb : RowKit.Below w.heap.size w w') : OfP w l (.returned (.tuple #[.agg #[.slice a n cap], .int .i64 0])) w' := by
  refine ⟨a, n, cap, r, by rw [h], hd, hc, fun d => ?_, hb⟩
  rw [decide_eq_true h]; exact hm d
set_option maxRecDepth 100000 in
theorem of_any (a : Option Addr) (n cap : Nat) (l : List (Int × Int)) (w : World) (h : Ds w a n cap l) (hn : n ≤ 100000) :
    Calls Tryd.prog 14 #[.slice a n cap] w (OfP w l) := by
  have HJ : Hid (errL l = 0 → ∀ W, RowKit.Below w.heap.size w W → Calls Tryd.prog 46 #[.slice a n cap] W (SetP W (Dm l))) :=
    fun he W hb => join_any a n cap l W (h.below hb (Nat.le_refl _)) (errL_ok he) hn
  obtain ⟨hl, hc, hm, h4⟩ := h
  unfold maxLen at hm
  have H4 := Lib.hid h4
  have HL := Lib.hid hl
  clear h4 hl
  go_enter Tryd.func14, Tryd.ntmps14
  go_wp2_with fail
  go_loopw [8] (fun v wr => ∃ j : Nat, j ≤ n ∧ v = .int .i64 j ∧ Hid (errL l = errL (l.drop j)) ∧ RowKit.Below (w.heap.size + 1) (w.alloc (.cells #[.slice none 0 0] 26)) wr) (fun v _ => n - (intOf v).toNat)
  case atStart => exact ⟨0, by omega, rfl, rfl, RowKit.Below.refl _ _⟩
  case round =>
    obtain ⟨j, hj, rfl, hpre, hbel⟩ := hrel
    obtain ⟨k0, hbw⟩ := box1 hbel
    have hz := hbel.size
    have f0 : wr.frozen? ⟨w.heap.size, 0, none⟩ = false := (hbel.frozen (p := ⟨w.heap.size, 0, none⟩) (Nat.lt_succ_self _)).trans (new1 _ _ _).2
    simp only [World.size_alloc] at hz
    by_cases hjn : j < n
    · rcases H4.out with h0 | ⟨b, o, rfl, hb, hcell⟩
      · omega
      obtain ⟨⟨p1, p2⟩, hp⟩ : ∃ p, l[j]? = some p := ⟨_, List.getElem?_eq_getElem (by rw [HL.out]; exact hjn)⟩
      obtain ⟨c1, c2⟩ := hcell j _ hp
      have c1 := (hbw.cell (p := ⟨b, _, none⟩) hb).trans c1
      have c2 := (hbw.cell (p := ⟨b, _, none⟩) hb).trans c2
      dsimp only at c1 c2
      have hj0 : (0 : Int) ≤ (j : Int) := Int.natCast_nonneg _
      have hj1 : (j : Int) < (n : Int) := by omega
      have hb2 := hbel.alloc hz (.cells #[.int .i64 p1, .int .i64 p2] 60)
      have hbw2 := (hbw.alloc (by omega) (.cells #[.int .i64 p1, .int .i64 p2] 60)).setCell (p := ⟨w.heap.size, 0, none⟩) (Nat.le_refl _) (.slice none 0 0)
      have k1 : (wr.alloc (.cells #[.int .i64 p1, .int .i64 p2] 60)).cell? ⟨w.heap.size, 0, none⟩ = some (.slice none 0 0) := by
        rw [World.cell?_alloc_lt _ _ _ (show w.heap.size < wr.heap.size by omega)]; exact k0
      have f1 : (wr.alloc (.cells #[.int .i64 p1, .int .i64 p2] 60)).frozen? ⟨w.heap.size, 0, none⟩ = false := ((RowKit.Below.refl wr.heap.size wr).alloc (Nat.le_refl _) _).frozen (p := ⟨w.heap.size, 0, none⟩) (show w.heap.size < wr.heap.size by omega) |>.trans f0
      have cs := World.cell?_setCell_same _ _ (.slice none 0 0) k1
      have hcase : p1 < 0 ∨ (0 ≤ p1 ∧ 30000 < p1) ∨ (0 ≤ p1 ∧ p1 ≤ 30000 ∧ p2 < 0) ∨ (0 ≤ p1 ∧ p1 ≤ 30000 ∧ 0 ≤ p2 ∧ 30000 < p2) ∨ (0 ≤ p1 ∧ p1 ≤ 30000 ∧ 0 ≤ p2 ∧ p2 ≤ 30000 ∧ p2 < p1) ∨ (0 ≤ p1 ∧ p1 ≤ 30000 ∧ 0 ≤ p2 ∧ p2 ≤ 30000 ∧ p1 ≤ p2) := by omega
      have e2 : (p1 < 0 ∨ 30000 < p1 ∨ p2 < 0 ∨ 30000 < p2) → Hid (errL l = 2) := fun hh => by
        have e : errP (p1, p2) = 2 := by unfold errP; rw [if_pos (by dsimp only; omega)]
        exact (errL_here hpre.out hp (by rw [e]; omega)).trans e
      have e1 : (0 ≤ p1 ∧ p1 ≤ 30000 ∧ 0 ≤ p2 ∧ p2 ≤ 30000 ∧ p2 < p1) → Hid (errL l = 1) := fun hh => by
        have e : errP (p1, p2) = 1 := by unfold errP; rw [if_neg (by dsimp only; omega), if_pos (by dsimp only; omega)]
        exact (errL_here hpre.out hp (by rw [e]; omega)).trans e
      have e0 : (0 ≤ p1 ∧ p1 ≤ 30000 ∧ 0 ≤ p2 ∧ p2 ≤ 30000 ∧ p1 ≤ p2) → Hid (errL l = errL (l.drop (j + 1))) := fun hh => by
        have e : errP (p1, p2) = 0 := by unfold errP; rw [if_neg (by dsimp only; omega), if_neg (by dsimp only; omega)]
        show errL l = _
        rw [hpre.out, errL_step hp, if_pos e]
      clear hcell hp hpre
      rcases hcase with g | ⟨g1, g⟩ | ⟨g1, g2, g⟩ | ⟨g1, g2, g3, g⟩ | ⟨g1, g2, g3, g4, g⟩ | ⟨g1, g2, g3, g4, g⟩
      · have HE := e2 (by omega)
        clear e0 e1 e2
        go_wp2_with fail
        all_goals first | (exfalso; omega) | exact bodyPost_ret (v := .tuple #[.agg #[.slice none 0 0], .int .i64 2]) (by simp [results, Tryd.results14, go_sem, cs]) rfl (ofP_err HE.out (by omega) hbw2)
      · have HE := e2 (by omega)
        clear e0 e1 e2
        go_wp2_with fail
        all_goals first | (exfalso; omega) | exact bodyPost_ret (v := .tuple #[.agg #[.slice none 0 0], .int .i64 2]) (by simp [results, Tryd.results14, go_sem, cs]) rfl (ofP_err HE.out (by omega) hbw2)
      · have HE := e2 (by omega)
        clear e0 e1 e2
        go_wp2_with fail
        all_goals first | (exfalso; omega) | exact bodyPost_ret (v := .tuple #[.agg #[.slice none 0 0], .int .i64 2]) (by simp [results, Tryd.results14, go_sem, cs]) rfl (ofP_err HE.out (by omega) hbw2)
      · have HE := e2 (by omega)
        clear e0 e1 e2
        go_wp2_with fail
        all_goals first | (exfalso; omega) | exact bodyPost_ret (v := .tuple #[.agg #[.slice none 0 0], .int .i64 2]) (by simp [results, Tryd.results14, go_sem, cs]) rfl (ofP_err HE.out (by omega) hbw2)
      · have HE := e1 (by omega)
        clear e0 e1 e2
        go_wp2_with fail
        all_goals first | (exfalso; omega) | exact bodyPost_ret (v := .tuple #[.agg #[.slice none 0 0], .int .i64 1]) (by simp [results, Tryd.results14, go_sem, cs]) rfl (ofP_err HE.out (by omega) hbw2)
      · have HE := e0 (by omega)
        clear e0 e1 e2 cs hbw2 k1 f1
        go_wp2_with fail
        all_goals first | (exfalso; omega) | skip
        go_roundw
        case rel => exact ⟨j + 1, by omega, by go_num, HE.out, hb2⟩
        case measure => simp [intOf]; omega
    · obtain rfl : j = n := by omega
      have HE : Hid (errL l = 0) := by
        have := hpre.out
        rw [List.drop_of_length_le (by rw [HL.out]; exact Nat.le_refl _)] at this
        exact this
      clear hpre
      go_wp2_with (go_at_call 46; refine (HJ.out HE.out _ hbw).mono ?_; rintro e w2 ⟨a2, n2, c2, us, rfl, hs2, hc2, hm2, hb2⟩; have HS2 := Lib.hid hs2; have HC2 := Lib.hid hc2; have HM2 := Lib.hid hm2; clear hs2 hc2 hm2; have k2 := (hb2.cell (p := ⟨w.heap.size, 0, none⟩) (show w.heap.size < wr.heap.size by omega)).trans k0; have f2 := (hb2.frozen (p := ⟨w.heap.size, 0, none⟩) (show w.heap.size < wr.heap.size by omega)).trans f0)
      have cs := World.cell?_setCell_same w2 ⟨w.heap.size, 0, none⟩ (.slice a2 n2 c2) k2
      refine bodyPost_ret (v := .tuple #[.agg #[.slice a2 n2 c2], .int .i64 0]) (by simp [results, Tryd.results14, go_sem, cs]) rfl ?_
      exact ofP_ok HE.out (HS2.out.set k2 (by intro x e; cases e)) HC2.out HM2.out ((hbw.trans (hb2.mono (by omega))).setCell (Nat.le_refl _) _)

theorem or_any (a b : Option Addr) (n m ca cb : Nat) (l r : List (Int × Int)) (w : World) (ha : Ds w a n ca l) (hb : Ds w b m cb r) (hl : Can l) (hr : Can r) :
    Calls Tryd.prog 24 #[.agg #[.slice a n ca], .agg #[.slice b m cb]] w (SetP w fun d => Dm l d || Dm r d) := by
  have hn : n ≤ 15001 := by rw [← ha.1]; exact can_len hl
  have hm : m ≤ 15001 := by rw [← hb.1]; exact can_len hr
  have HA := Lib.hid ha
  have HB := Lib.hid hb
  have HO : Hid (∀ x ∈ l ++ r, Okp x) := fun x hx => by
    rcases List.mem_append.1 hx with hx | hx
    · exact hl.1 x hx
    · exact hr.1 x hx
  have HL : Hid ((l ++ r).length ≤ 100000) := by
    show _ ≤ _
    rw [List.length_append, ha.1, hb.1]; omega
  have HD : Hid (∀ d, Dm (l ++ r) d = (Dm l d || Dm r d)) := fun d => dm_append l r d
  clear ha hb hl hr
  generalize hlr : l ++ r = lr at HO HL HD
  have HLR := Lib.hid hlr
  clear hlr
  have hB0 := ((((RowKit.Below.refl w.heap.size w).alloc (Nat.le_refl _) (.cells #[.slice a n ca] 26)).alloc (by simp) (.cells #[.slice b m cb] 26)).alloc (by simp; omega) (.cells #[.slice none 0 0] 26)).alloc (by simp; omega) (.cells #[.slice a n ca, .slice b m cb] 24)
  have z3 : (((w.alloc (.cells #[.slice a n ca] 26)).alloc (.cells #[.slice b m cb] 26)).alloc (.cells #[.slice none 0 0] 26)).heap.size = w.heap.size + 1 + 1 + 1 := by simp
  have c3 : ∀ v1 v2 T, ((((w.alloc (.cells #[.slice a n ca] 26)).alloc (.cells #[.slice b m cb] 26)).alloc (.cells #[.slice none 0 0] 26)).alloc (.cells #[v1, v2] T)).cell? ⟨w.heap.size + 1 + 1 + 1, 0, none⟩ = some v1 ∧ ((((w.alloc (.cells #[.slice a n ca] 26)).alloc (.cells #[.slice b m cb] 26)).alloc (.cells #[.slice none 0 0] 26)).alloc (.cells #[v1, v2] T)).cell? ⟨w.heap.size + 1 + 1 + 1, 1, none⟩ = some v2 := fun v1 v2 T => by rw [← z3]; exact new2 _ v1 v2 T
  have hCC := concat_any (w.heap.size + 1 + 1 + 1) a b n m ca cb l r _ (by rw [World.size_alloc, z3]; omega) (c3 (.slice a n ca) (.slice b m cb) 24).1 (c3 (.slice a n ca) (.slice b m cb) 24).2 (HA.out.below hB0 (Nat.le_refl _)) (HB.out.below hB0 (Nat.le_refl _)) (by omega) (by omega)
  rw [HLR.out] at hCC
  have HCC := Lib.hid hCC
  clear hCC c3 z3
  go_enter Tryd.func24, Tryd.ntmps24
  go_wp2_with (first
    | (go_at_call 49; (with_reducible refine HCC.out.mono ?_); rintro e w1 ⟨v1, rfl, hb1, hown1⟩; obtain ⟨a1, n1, c1, rfl, hn1, hd1⟩ := hown1.dn; have HD1 := Lib.hid hd1; have HN1 := Lib.hid hn1; clear hd1 hown1 hn1)
    | (go_at_call 46; refine (join_any _ _ _ _ _ HD1.out HO.out (by rw [HN1.out]; exact HL.out)).mono ?_; rintro e w2 ⟨a2, n2, c2, us, rfl, hs2, hc2, hm2, hb2⟩; have HS2 := Lib.hid hs2; have HC2 := Lib.hid hc2; have HM2 := Lib.hid hm2; clear hs2 hc2 hm2; have hB := box3 (((bel1 hb1).mono (by simp)).trans (hb2.mono (by have := hb1.size; simp at this; omega))); obtain ⟨-, -, k2, f2, -, hbw⟩ := hB))
  have cs := World.cell?_setCell_same w2 ⟨w.heap.size + 1 + 1, 0, none⟩ (.slice a2 n2 c2) k2
  refine bodyPost_ret (v := .agg #[.slice a2 n2 c2]) (by simp [results, Tryd.results24, go_sem, cs]) rfl ?_
  exact ⟨a2, n2, c2, us, rfl, HS2.out.set k2 (by intro x e; cases e), HC2.out, fun d => (HM2.out d).trans (HD.out d), hbw.setCell (by simp; omega) _⟩

theorem minus_any (a b : Option Addr) (n m ca cb : Nat) (l r : List (Int × Int)) (w : World) (ha : Ds w a n ca l) (hb : Ds w b m cb r) (hl : Can l) (hr : Can r) :
    Calls Tryd.prog 26 #[.agg #[.slice a n ca], .agg #[.slice b m cb]] w (SetP w fun d => Dm l d && !Dm r d) := by
  have HA := Lib.hid ha
  have HB := Lib.hid hb
  have HCL := Lib.hid hl
  have HCR := Lib.hid hr
  have HDI : Hid (∀ d, (Dm l d && (inD d && !Dm r d)) = (Dm l d && !Dm r d)) := fun d => by
    cases h : Dm l d with
    | false => rfl
    | true => rw [inD_iff.2 (hl.day h)]; rfl
  clear ha hb hl hr
  have hE := (RowKit.Below.refl (w.heap.size + 3) (((w.alloc (.cells #[.slice a n ca] 26)).alloc (.cells #[.slice b m cb] 26)).alloc (.cells #[.slice none 0 0] 26))).drew
  have hzz : w.heap.size + 3 ≤ (((w.alloc (.cells #[.slice a n ca] 26)).alloc (.cells #[.slice b m cb] 26)).alloc (.cells #[.slice none 0 0] 26)).heap.size := by simp
  obtain ⟨q1, q2, q3, f3, -, hD⟩ := box3 hE
  go_enter Tryd.func26, Tryd.ntmps26
  go_wp2_with fail
  go_region_held3 (fun w' => w'.cell? ⟨w.heap.size, 0, none⟩ = some (.slice a n ca) ∧ w'.cell? ⟨w.heap.size + 1, 0, none⟩ = some (.slice b m cb))
    (first | exact ⟨q1, q2⟩ | exact ⟨(World.cell?_setCell_other _ _ _ _ (fun e => by injection e with e1; omega)).trans q1, (World.cell?_setCell_other _ _ _ _ (fun e => by injection e with e1; omega)).trans q2⟩)
    (first
      | (go_at_call 27; (with_reducible refine (not_any _ _ _ _ _ (HB.out.below hD (Nat.le_refl _)) HCR.out).mono ?_); rintro e w1 ⟨a1, n1, c1, us, rfl, hs1, hc1, hm1, hb1⟩; have hE := hE.trans (hb1.mono hzz); have hz1 := Nat.le_trans hzz hb1.size; clear q1 q2 q3 f3 hD; obtain ⟨q1, q2, q3, f3, -, hD⟩ := box3 hE; have HS1 := Lib.hid hs1; have HC1 := Lib.hid hc1; have HM1 := Lib.hid hm1; clear hs1 hc1 hm1 hb1)
      | (go_at_call 25; (with_reducible refine (and_any _ _ _ _ _ _ _ _ _ (HA.out.below hD (Nat.le_refl _)) HS1.out HCL.out HC1.out).mono ?_); rintro e w2 ⟨a2, n2, c2, vs, rfl, hs2, hc2, hm2, hb2⟩; have hE := hE.trans (hb2.mono hz1); clear q1 q2 q3 f3 hD; obtain ⟨q1, q2, q3, f3, -, hD⟩ := box3 hE; have HS2 := Lib.hid hs2; have HC2 := Lib.hid hc2; have HM2 := Lib.hid hm2; clear hs2 hc2 hm2 hb2))
  go_wp2_with fail
  have cs := World.cell?_setCell_same w2 ⟨w.heap.size + 1 + 1, 0, none⟩ (.slice a2 n2 c2) q3
  refine bodyPost_ret (v := .agg #[.slice a2 n2 c2]) (by simp [results, Tryd.results26, go_sem, cs]) rfl ?_
  exact ⟨a2, n2, c2, vs, rfl, HS2.out.set q3 (by intro x e; cases e), HC2.out, fun d => by rw [HM2.out d, HM1.out d]; exact HDI.out d, hD.setCell (by simp; omega) _⟩

theorem within_any (a b : Option Addr) (n m ca cb : Nat) (l r : List (Int × Int)) (w : World) (ha : Ds w a n ca l) (hb : Ds w b m cb r) (hl : Can l) (hr : Can r) (x : Bool) (hx : x = true ↔ ∀ d, Dm l d = true → Dm r d = true) :
    Calls Tryd.prog 22 #[.agg #[.slice a n ca], .agg #[.slice b m cb]] w fun e w' => e = .returned (.bool x) ∧ RowKit.Below w.heap.size w w' := by
  have HM := Lib.hid (fun W (hw : RowKit.Below w.heap.size w W) => minus_any a b n m ca cb l r W (ha.below hw (Nat.le_refl _)) (hb.below hw (Nat.le_refl _)) hl hr)
  have HX := Lib.hid hx
  clear ha hb hl hr hx
  go_enter Tryd.func22, Tryd.ntmps22
  go_wp2_with (first
    | (go_at_call 26; (with_reducible refine (HM.out _ (((RowKit.Below.refl _ w).alloc (Nat.le_refl _) _).alloc (by simp) _)).mono ?_); rintro e w1 ⟨a1, n1, c1, us, rfl, hs1, hc1, hm1, hb1⟩; have hd := hs1.1; have HD1 := Lib.hid hd; have HC1 := Lib.hid hc1; have HM1 := Lib.hid hm1; clear hs1 hc1 hm1 hd)
    | (go_at_call 17; (with_reducible refine (empty_any _ _ _ _).mono ?_); rintro e w2 ⟨rfl, hb2⟩))
  go_ret
  have hX : decide (n1 = 0) = x := by
    apply bool_ext
    rw [decide_eq_true_iff, HX.out]
    have hlen := HD1.out
    constructor
    · intro h0 d h1
      have e := (can_eq_nil HC1.out).1 (List.eq_nil_of_length_eq_zero (by omega)) d
      rw [HM1.out d, h1] at e
      simpa using e
    · intro h1
      have : us = [] := (can_eq_nil HC1.out).2 fun d => by
        rw [HM1.out d]
        cases h2 : Dm l d with
        | false => rfl
        | true => rw [h1 d h2]; rfl
      rw [← hlen, this]; rfl
  exact ⟨retB hX, (bel2 hb1).trans (hb2.mono (by have := (bel2 hb1).size; omega))⟩
end Go.Proofs.YtgbonpmakahibaaDoor.Dy
