/- The walk of DaysCompares. -/
import Derived.Test.YtgbonpmakahibaaDoorDaV
import Derived.Deep.DeepCutAuto
import Derived.Deep.CutBlock
namespace Go.Proofs.YtgbonpmakahibaaDoor.Dy
open Go.RowKit Go.PlainAid
set_option linter.unusedVariables false
set_option linter.unusedSimpArgs false
set_option maxHeartbeats 40000000

theorem eq_within {l r : List (Int × Int)} (h : Can l) (k : Can r) {x y : Bool} (hx : x = true ↔ ∀ d, Dm l d = true → Dm r d = true) (hy : y = true ↔ ∀ d, Dm r d = true → Dm l d = true) : decide (l = r) = (x && y) := by
  apply bool_ext
  rw [decide_eq_true_iff, Bool.and_eq_true, hx, hy]
  constructor
  · rintro rfl; exact ⟨fun d h => h, fun d h => h⟩
  · rintro ⟨h1, h2⟩
    exact can_ext h k fun d => bool_ext ⟨h1 d, h2 d⟩
theorem all_step {l r : List (Int × Int)} {k : Nat} {x : Bool} (h : x = true ↔ ∀ d : Int, 0 ≤ d → d < k → Dm l d = true → Dm r d = true) {p q : Bool} (hp : Dm l k = p) (hq : Dm r k = q) :
    (x && (!p || q)) = true ↔ ∀ d : Int, 0 ≤ d → d < ((k + 1 : Nat) : Int) → Dm l d = true → Dm r d = true := by
  rw [Bool.and_eq_true, h]
  constructor
  · rintro ⟨h1, h2⟩ d h3 h4 h5
    by_cases hd : d = k
    · subst hd
      rw [hp] at h5
      rw [hq]
      subst h5
      simpa using h2
    · exact h1 d h3 (by omega) h5
  · intro h1
    refine ⟨fun d h2 h3 => h1 d h2 (by omega), ?_⟩
    have := h1 k (by omega) (by omega)
    rw [hp, hq] at this
    cases p
    · rfl
    · simpa using this
theorem all_end {l r : List (Int × Int)} (hl : Can l) {k : Nat} (hk : k = 30001) {x : Bool} (h : x = true ↔ ∀ d : Int, 0 ≤ d → d < k → Dm l d = true → Dm r d = true) : x = true ↔ ∀ d, Dm l d = true → Dm r d = true := by
  rw [h]
  constructor
  · intro h1 d h2
    have := hl.day h2
    exact h1 d this.1 (by omega) h2
  · intro h1 d _ _ h2; exact h1 d h2

def AllB (x : Bool) (l r : List (Int × Int)) : Prop := x = true ↔ ∀ d, Dm l d = true → Dm r d = true
theorem within_t (a b : Option Addr) (n m ca cb : Nat) (l r : List (Int × Int)) (w : World) (ha : Ds w a n ca l) (hb : Ds w b m cb r) (hl : Can l) (hr : Can r) (x : Bool) (hx : AllB x l r) :
    Calls Tryd.prog 22 #[.agg #[.slice a n ca], .agg #[.slice b m cb]] w fun e w' => e = .returned (.bool x) ∧ RowKit.Below w.heap.size w w' := within_any a b n m ca cb l r w ha hb hl hr x hx
set_option maxRecDepth 100000 in
theorem daysCompares_walk (a b : Option Addr) (n m ca cb : Nat) (zs xs : List (Nat × Nat)) (s : Int) (w : World) (hP : Pow10 w) (h : Us w a n ca zs) (h2 : Us w b m cb xs) (hs0 : 0 ≤ s) (hs1 : s ≤ 255) (hsz : m * 4 ≤ 140737488351232) :
    Calls Tryd.prog 5 #[.slice a n ca, .slice b m cb, .int .u8 s] w fun e w' => e = .returned (.bool true) ∧ RowKit.Below w.heap.size w w' := by
  have HP := Lib.hid hP
  have HUA := Lib.hid h
  have HUB := Lib.hid h2
  have HZU := Lib.hid h.u16s
  have HXU := Lib.hid h2.u16s
  have HZL := Lib.hid h.1
  have hncap : n ≤ ca := h.2.1
  have hcap : ca ≤ 9223372036854775807 := h.2.2.1
  have hAt : a = none ∧ n = 0 ∧ ca = 0 ∨ ∃ b o, a = some ⟨b, o, none⟩ := by
    rcases h.2.2.2 with h4 | ⟨b, o, h4, _⟩
    · exact .inl h4
    · exact .inr ⟨b, o, h4⟩
  clear hP h h2
  have tk0 : Hid True := trivial
  go_enter Tryd.func5, Tryd.ntmps5
  go_upto_block 0 with (first
    | (go_at_call 9; (with_reducible refine (awake_any _ HP.out).mono ?_); rintro e w1 ⟨rfl, hB1⟩))
  go_cut [1] (fun s1 wx => ∃ (b' : Option Addr) (m' cb' : Nat) (l' : List (Nat × Nat)), s1 = .slice b' m' cb' ∧ Us wx b' m' cb' l' ∧ RowKit.Below w.heap.size w wx)
  case first =>
    by_cases h0 : s % 4 = 0
    · have hb0 : (s % 4 == 0) = true := by rw [h0]; rfl
      have h0' := Lib.hid h0
      clear h0
      go_wp2_with fail
      go_meet
      exact ⟨_, _, _, _, rfl, HUA.out.below hB1 (Nat.le_refl _), hB1⟩
    · have hb0 : (s % 4 == 0) = false := beq_eq_false_iff_ne.2 h0
      by_cases h1 : s % 4 = 1
      · have hb1 : (s % 4 == 1) = true := by rw [h1]; rfl
        have h1' := Lib.hid h1
        obtain ⟨i0, hi, hz0, hz1, hz2⟩ := info_parts infoU2
        have hown0 : Ou 58 (w1.alloc (.cells #[] 58)) w1.heap.size (.slice (some ⟨w1.heap.size, 0, none⟩) 0 0) [] := World.ownsRow_made w1 #[] 0 (Nat.le_refl _) (by decide) rfl
        have hB2 := hB1.alloc hB1.size (.cells #[] 58)
        have hz2' : w.heap.size ≤ (w1.alloc (.cells #[] 58)).heap.size := hB2.size
        have HU := Lib.hid (fun k hk => (HUA.out.below hB2 (Nat.le_refl _)).take k hk)
        have HX := Lib.hid (fun W (hb : RowKit.Below w.heap.size w W) => HUB.out.below hb (Nat.le_refl _))
        clear h0 h1 HUA HUB
        rcases hAt with ⟨rfl, rfl, rfl⟩ | ⟨b2, o2, rfl⟩
        · go_wp2_with (first
            | (at_builtin; refine wpList_append_us rfl (.tmp 25) (.tmp 30) 22 58 rfl Tryd.underlying22 w1.heap.size i0 hi hz0 hz1 hz2 _ _ rfl hown0 _ 0 _ _ rfl (HU.out 0 (by omega)) (by simp) (by simp) ?_; intro v4 w4 ho4 hg4; have hB4 := hB2.grown hg4 hz2' (fun b hb => by cases hb; exact hB1.size); have hz4 : w1.heap.size ≤ w4.heap.size := (by have := hg4.size; simp at this; omega); have HX4 := Lib.hid (HX.out _ hB4); have HL4 : Hid (([] ++ zs.take 0).length = 0) := (by show _ = _; rw [List.nil_append, List.length_take, HZL.out]; omega); clear hg4)
            | (at_builtin; refine wpList_append_us rfl (.tmp 31) (.tmp 32) 22 58 rfl Tryd.underlying22 w1.heap.size i0 hi hz0 hz1 hz2 _ _ rfl ho4 _ m _ _ rfl HX4.out (by rw [HL4.out]; omega) hz4 ?_; intro v5 w5 ho5 hg5; have hB5 := hB4.grown hg5 hB4.size (fun b hb => Nat.le_trans hB1.size (World.ownsRow.lt ho4 b hb).1); clear hg5))
          obtain ⟨a5, c5, rfl, hu5⟩ := us_owned ho5 rfl (fun p hp => by
            rcases List.mem_append.1 hp with hp | hp
            · have := List.mem_of_mem_take (List.mem_append.1 hp |>.resolve_left (by simp)); exact HZU.out p this
            · exact HXU.out p hp)
          go_meet
          exact ⟨_, _, _, _, rfl, hu5, hB5⟩
        · go_wp2_with (first
            | (at_builtin; refine wpList_append_us rfl (.tmp 25) (.tmp 30) 22 58 rfl Tryd.underlying22 w1.heap.size i0 hi hz0 hz1 hz2 _ _ rfl hown0 _ (min (n : Int) 4).toNat _ _ rfl (HU.out (min (n : Int) 4).toNat (by omega)) (by simp; omega) (by simp) ?_; intro v4 w4 ho4 hg4; have hB4 := hB2.grown hg4 hz2' (fun b hb => by cases hb; exact hB1.size); have hz4 : w1.heap.size ≤ w4.heap.size := (by have := hg4.size; simp at this; omega); have HX4 := Lib.hid (HX.out _ hB4); have HL4 : Hid (([] ++ zs.take (min (n : Int) 4).toNat).length = (min (n : Int) 4).toNat) := (by show _ = _; rw [List.nil_append, List.length_take, HZL.out]; omega); clear hg4)
            | (at_builtin; refine wpList_append_us rfl (.tmp 31) (.tmp 32) 22 58 rfl Tryd.underlying22 w1.heap.size i0 hi hz0 hz1 hz2 _ _ rfl ho4 _ m _ _ rfl HX4.out (by rw [HL4.out]; omega) hz4 ?_; intro v5 w5 ho5 hg5; have hB5 := hB4.grown hg5 hB4.size (fun b hb => Nat.le_trans hB1.size (World.ownsRow.lt ho4 b hb).1); clear hg5))
          obtain ⟨a5, c5, rfl, hu5⟩ := us_owned ho5 rfl (fun p hp => by
            rcases List.mem_append.1 hp with hp | hp
            · have := List.mem_of_mem_take (List.mem_append.1 hp |>.resolve_left (by simp)); exact HZU.out p this
            · exact HXU.out p hp)
          go_meet
          exact ⟨_, _, _, _, rfl, hu5, hB5⟩
      · have hb1 : (s % 4 == 1) = false := beq_eq_false_iff_ne.2 h1
        go_wp2_with fail
        go_meet
        exact ⟨_, _, _, _, rfl, HUB.out.below hB1 (Nat.le_refl _), hB1⟩
  case rest =>
    obtain ⟨b', m', cb', l', rfl, hu', hbx⟩ := hcut
    have HMA := Lib.hid (make_any a n ca zs wc (HUA.out.below hbx (Nat.le_refl _)))
    have HMB := Lib.hid (fun W (hb : RowKit.Below wc.heap.size wc W) => make_any b' m' cb' l' W (hu'.below hb (Nat.le_refl _)))
    clear hu' HUA HUB hAt
    go_wp2_with (first
      | (go_at_call 10; clear tk0; (with_reducible refine HMA.out.mono ?_); rintro e w2 ⟨aA, nA, cA, LA1, gA, rfl, hd2, hc2, hf2, hb2⟩; have HSA2 := Lib.hid hd2; have HFA2 := Lib.hid hf2; have HCA := Lib.hid hc2; have hG2 := (RowKit.Below.refl w2.heap.size w2).alloc (Nat.le_refl _) (.cells #[.slice aA nA cA] 26); have hBB2 := hb2.trans (hG2.mono hb2.size); have tk1 : Hid True := trivial; clear hd2 hc2 hf2)
      | (go_at_call 10; clear tk1; (with_reducible refine (HMB.out _ hBB2).mono ?_); rintro e w3 ⟨aB, nB, cB, LB1, gB, rfl, hd3, hc3, hf3, hb3⟩; have HSB2 := Lib.hid hd3; have HFB2 := Lib.hid hf3; have HCB := Lib.hid hc3; have hB3 := hBB2.trans (hb3.mono hBB2.size); obtain ⟨r3, hG3⟩ := box1s hb3; have zz3 : w2.heap.size < w3.heap.size := (by have := hb3.size; simp at this; omega); have tk2 : Hid True := trivial; clear hd3 hc3 hb3 hf3))
    have hJ := (RowKit.Below.refl w3.heap.size w3).alloc (Nat.le_refl _) (.cells #[.slice aB nB cB] 26)
    have z3 : w3.heap.size < (w3.alloc (.cells #[.slice aB nB cB] 26)).heap.size := by simp
    have z2 := Nat.lt_trans zz3 z3
    have q2 : (w3.alloc (.cells #[.slice aB nB cB] 26)).cell? ⟨w3.heap.size, 0, none⟩ = some (.slice aB nB cB) := (new1 w3 _ _).1
    have q1 := (hJ.cell (p := ⟨w2.heap.size, 0, none⟩) zz3).trans r3
    have HSA := Lib.hid (HSA2.out.below (hG3.trans (hJ.mono hG3.size)) (Nat.le_refl _))
    have HSB := Lib.hid (HSB2.out.below hJ (Nat.le_refl _))
    have HFA := Lib.hid (HFA2.out.below (hG3.trans (hJ.mono hG3.size)) HFA2.out.1)
    have HFB := Lib.hid (HFB2.out.below hJ HFB2.out.1)
    have hBW := (hbx.trans (hB3.mono hbx.size)).trans (hJ.mono (by have h1 := hbx.size; have h2 := hB3.size; omega))
    clear HSA2 HSB2 HFA2 HFB2 hG2 hBB2 r3 hG3 hB3 hJ
    go_loop [13, 14, 54] (fun v13 v14 v54 => ∃ (k : Nat) (x y : Bool), k ≤ 30001 ∧ v54 = .int .i64 k ∧ v13 = .bool x ∧ v14 = .bool y ∧ Hid (x = true ↔ ∀ d : Int, 0 ≤ d → d < k → Dm LA1 d = true → Dm LB1 d = true) ∧ Hid (y = true ↔ ∀ d : Int, 0 ≤ d → d < k → Dm LB1 d = true → Dm LA1 d = true)) (fun _ _ v => 30001 - (intOf v).toNat)
    case atStart => exact ⟨0, true, true, by omega, rfl, rfl, rfl, iff_of_true rfl (fun d h0 h1 => by omega), iff_of_true rfl (fun d h0 h1 => by omega)⟩
    case round =>
      obtain ⟨k, x, y, hk, rfl, rfl, rfl, hx, hy⟩ := hrel
      have hk0 : (0 : Int) ≤ (k : Int) := Int.natCast_nonneg _
      by_cases hlt : k < 30001
      · have hk1 : (k : Int) < 30001 := by omega
        have A1 := HFA.out.2.1 k hlt
        have B1 := HFB.out.2.1 k hlt
        cases hA : Dm LA1 k <;> cases hB : Dm LB1 k <;> cases x <;> cases y
        all_goals
          have HX := Lib.hid (all_step hx.out hA hB)
          have HY := Lib.hid (all_step hy.out hB hA)
          rw [hA] at A1
          rw [hB] at B1
          clear hx hy hA hB
          go_wp2_with fail
          all_goals first | (exfalso; omega) | skip
          go_round
          case rel => exact ⟨k + 1, _, _, by omega, by go_num, rfl, rfl, HX.out, HY.out⟩
          case measure => simp [intOf]; omega
      · obtain rfl : k = 30001 := by omega
        have HX : Hid (AllB x LA1 LB1) := all_end HCA.out rfl hx.out
        have HY : Hid (AllB y LB1 LA1) := all_end HCB.out rfl hy.out
        have HE1 := Lib.hid (eq_within HCA.out HCB.out HX.out HY.out)
        have HE2 := Lib.hid (eq_within HCB.out HCA.out HY.out HX.out)
        obtain ⟨z, hz1, hz2⟩ : ∃ z : Bool, decide (nA = 0) = z ∧ (cntN (Dm LA1) 30001 == 0) = z := by
          refine ⟨_, rfl, ?_⟩
          rw [← len_cnt HCA.out]
          have hl := HSA.out.1
          by_cases h0 : nA = 0
          · have e : LA1 = [] := List.eq_nil_of_length_eq_zero (by omega)
            rw [e, h0]; rfl
          · rw [decide_eq_false h0]
            refine beq_eq_false_iff_ne.2 (fun e => ?_)
            cases hL : LA1 with
            | nil => rw [hL] at hl; exact h0 hl.symm
            | cons p l =>
              have hc := HCA.out
              rw [hL] at e hc
              have hp := hc.head
              have := (lenD_bounds hc.tail).1
              unfold Okp at hp
              rw [lenD_cons] at e
              omega
        have HZ1 := Lib.hid hz1
        obtain ⟨cn, hcn⟩ : ∃ c, cntN (Dm LA1) 30001 = c := ⟨_, rfl⟩
        have HCN := Lib.hid hcn
        rw [hcn] at hz2
        have hF := RowKit.Below.refl (w3.alloc (.cells #[.slice aB nB cB] 26)).heap.size (w3.alloc (.cells #[.slice aB nB cB] 26))
        have QA := Lib.hid (fun W (hb : RowKit.Below (w3.alloc (.cells #[.slice aB nB cB] 26)).heap.size (w3.alloc (.cells #[.slice aB nB cB] 26)) W) => (hb.cell (p := ⟨w2.heap.size, 0, none⟩) z2).trans q1)
        have QB := Lib.hid (fun W (hb : RowKit.Below (w3.alloc (.cells #[.slice aB nB cB] 26)).heap.size (w3.alloc (.cells #[.slice aB nB cB] 26)) W) => (hb.cell (p := ⟨w3.heap.size, 0, none⟩) z3).trans q2)
        have qa := QA.out _ hF
        have qb := QB.out _ hF
        clear hx hy hz1 hcn q1 q2
        cases x <;> cases y
        all_goals
          go_wp2_with (first
            | (go_at_call 22; clear tk2; (with_reducible refine (within_t _ _ _ _ _ _ _ _ _ (HSA.out.below hF (Nat.le_refl _)) (HSB.out.below hF (Nat.le_refl _)) HCA.out HCB.out _ HX.out).mono ?_); rintro e w4 ⟨rfl, hb⟩; have hF := hF.trans (hb.mono hF.size); have qa := QA.out _ hF; have qb := QB.out _ hF; clear hb; have tk3 : Hid True := trivial)
            | (go_at_call 22; clear tk3; (with_reducible refine (within_t _ _ _ _ _ _ _ _ _ (HSB.out.below hF (Nat.le_refl _)) (HSA.out.below hF (Nat.le_refl _)) HCB.out HCA.out _ HY.out).mono ?_); rintro e w4 ⟨rfl, hb⟩; have hF := hF.trans (hb.mono hF.size); have qa := QA.out _ hF; have qb := QB.out _ hF; clear hb; have tk4 : Hid True := trivial)
            | (go_at_call 18; clear tk4; (with_reducible refine (setEqual_any _ _ _ _ _ _ _ _ _ (HSA.out.below hF (Nat.le_refl _)) (HSB.out.below hF (Nat.le_refl _))).mono ?_); rw [HE1.out]; rintro e w4 ⟨rfl, hb⟩; have hF := hF.trans (hb.mono hF.size); have qa := QA.out _ hF; have qb := QB.out _ hF; clear hb; have tk5 : Hid True := trivial)
            | (go_at_call 18; clear tk5; (with_reducible refine (setEqual_any _ _ _ _ _ _ _ _ _ (HSB.out.below hF (Nat.le_refl _)) (HSA.out.below hF (Nat.le_refl _))).mono ?_); rw [HE2.out]; rintro e w4 ⟨rfl, hb⟩; have hF := hF.trans (hb.mono hF.size); have qa := QA.out _ hF; have qb := QB.out _ hF; clear hb; have tk6 : Hid True := trivial)
            | (go_at_call 17; clear tk6; (with_reducible refine (empty_any _ _ _ _).mono ?_); rw [HZ1.out]; rintro e w4 ⟨rfl, hb⟩; have hF := hF.trans (hb.mono hF.size); have qa := QA.out _ hF; have qb := QB.out _ hF; clear hb; have tk7 : Hid True := trivial)
            | (go_at_call 23; clear tk7; (with_reducible refine (rlen_any _ _ _ _ (HFA.out.fl.below hF (Nat.le_refl _))).mono ?_); rw [HCN.out]; rintro e w4 ⟨rfl, hb⟩; have hF := hF.trans (hb.mono hF.size); have qa := QA.out _ hF; have qb := QB.out _ hF; clear hb; have tk8 : Hid True := trivial))
          go_ret
          exact ⟨rfl, hBW.trans (hF.mono hBW.size)⟩
end Go.Proofs.YtgbonpmakahibaaDoor.Dy
