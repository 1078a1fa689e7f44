/- Contracts: slices.Equal of numbers and of bytes, few, is. -/
import Derived.Test.YtaekkpoknpnnbaaDoorBtT
namespace Go.Proofs.YtaekkpoknpnnbaaDoor
open Go.RowKit Go.PlainAid
set_option linter.unusedVariables false
set_option linter.unusedSimpArgs false
set_option maxHeartbeats 2000000

/-- The numbers of a list of naturals. -/
def cs (l : List Nat) : List Int := l.map (fun x : Nat => (x : Int))
theorem cs_inj : ∀ {l r : List Nat}, cs l = cs r → l = r
  | [], [], _ => rfl
  | [], _ :: _, h => by simp [cs] at h
  | _ :: _, [], h => by simp [cs] at h
  | x :: l, y :: r, h => by
    simp only [cs, List.map_cons, List.cons.injEq] at h
    rw [Int.ofNat_inj.1 h.1, cs_inj (l := l) (r := r) h.2]
theorem cs_dec (l r : List Nat) : decide (cs l = cs r) = decide (l = r) := by
  rw [decide_eq_decide]; exact ⟨cs_inj, fun h => by rw [h]⟩
theorem i64v_cs (l : List Nat) : l.map i64v = (cs l).map fun z => Value.int .i64 z := by simp [cs, i64v]
theorem cs_length (l : List Nat) : (cs l).length = l.length := by simp [cs]
theorem iw_of_i64 {w : World} {B k : Nat} {v : Value} {l : List Nat} (h : w.ownsRow B 3 1 v k (l.map i64v)) (hz : l.length = k) : ∃ a cap, v = .slice a k cap ∧ Iw w a k cap (cs l) := by
  rw [i64v_cs] at h
  exact iw_of_row h (by rw [cs_length]; exact hz)
theorem Iw.take {w : World} {a : Option Addr} {n cap : Nat} {zs : List Int} (h : Iw w a n cap zs) (m : Nat) : Iw w a (min n m) cap (zs.take m) := by
  obtain ⟨h1, h2, h3, h4⟩ := h
  refine ⟨by rw [List.length_take]; omega, by omega, h3, ?_⟩
  rcases h4 with ⟨h4, h5, h6⟩ | ⟨b, o, h4, h5, h6⟩
  · exact .inl ⟨h4, by omega, h6⟩
  · refine .inr ⟨b, o, h4, h5, fun j hj => ?_⟩
    rw [h6 j (by omega)]
    unfold zg
    rw [List.getD_eq_getElem?_getD, List.getD_eq_getElem?_getD, List.getElem?_take_of_lt (by omega)]

theorem equalI_any (a b : Option Addr) (n c m d : Nat) (xs ys : List Int) (w : World) (h : Iw w a n c xs) (k : Iw w b m d ys) :
    Calls Tryd.prog 21 #[.slice a n c, .slice b m d] w fun e w' => e = .returned (.bool (decide (xs = ys))) ∧ Below w.heap.size w w' := by
  obtain ⟨h1, h2, h3, h4⟩ := h
  obtain ⟨k1, k2, k3, k4⟩ := k
  by_cases hnm : n = m
  · by_cases h0 : n = 0
    · have hx : xs = [] := List.eq_nil_of_length_eq_zero (by omega)
      have hy : ys = [] := List.eq_nil_of_length_eq_zero (by omega)
      subst hx; subst hy; subst h0
      refine (Tryd.slices_Equal_int_empty a b c m d w (by omega)).mono ?_
      rintro e w' ⟨rfl, rfl⟩
      exact ⟨by rw [decide_eq_true hnm.symm]; simp, Below.refl _ _⟩
    · rcases h4 with ⟨_, h4, _⟩ | ⟨b1, o1, rfl, hb1, hc1⟩
      · exact absurd h4 h0
      · rcases k4 with ⟨_, k4, _⟩ | ⟨b2, o2, rfl, hb2, hc2⟩
        · exact absurd (hnm.trans k4) h0
        · refine (Tryd.slices_Equal_int b1 o1 n c b2 o2 m d xs ys w (by omega) (by omega) (by omega) (by omega) (fun j hj => hc1 j (by omega)) (fun j hj => hc2 j (by omega))).mono ?_
          rintro e w' ⟨rfl, q, rfl⟩
          refine ⟨?_, bdr (Below.refl _ _) q⟩
          rw [List.take_of_length_le (by omega), List.take_of_length_le (by omega)]
          apply ret_bool
          rw [Bool.eq_iff_iff, beq_iff_eq, decide_eq_true_iff]
  · refine (Tryd.slices_Equal_int_lens a b n c m d w hnm).mono ?_
    rintro e w' ⟨rfl, rfl⟩
    refine ⟨?_, Below.refl _ _⟩
    rw [decide_eq_false]
    clear h4 k4
    intro e
    have e2 := congrArg List.length e
    omega

theorem u8_ne {x y : Nat} (h : x ≠ y) : ((x : Int) != (y : Int)) = true := by
  rw [bne_iff_ne]; omega
set_option maxRecDepth 100000 in
theorem equalB_any (a b : Option Addr) (n c m d : Nat) (ps qs : List Nat) (w : World) (h : Bw w a n c ps) (k : Bw w b m d qs) :
    Calls Tryd.prog 28 #[.slice a n c, .slice b m d] w fun e w' => e = .returned (.bool (decide (ps = qs))) ∧ Below w.heap.size w w' := by
  obtain ⟨h1, h2, h3, _, h4⟩ := h
  obtain ⟨k1, k2, k3, _, k4⟩ := k
  by_cases hnm : n = m
  · subst hnm
    by_cases h0 : n = 0
    · have hx : ps = [] := List.eq_nil_of_length_eq_zero (by omega)
      have hy : qs = [] := List.eq_nil_of_length_eq_zero (by omega)
      have HX : Hid (decide (ps = qs) = true) := by rw [hx, hy]; exact decide_eq_true rfl
      clear h4 k4 h1 k1 hx hy
      subst h0
      go_enter Tryd.func28, Tryd.ntmps28
      go_wp2_with fail
      go_loopg [13] 0 (fun _ s13 wr => s13 = .int .i64 0 ∧ wr = w)
      case atStart => exact ⟨rfl, rfl⟩
      case round =>
        obtain ⟨rfl, rfl⟩ := hrel
        go_wp2_with fail
        go_ret
        exact ⟨ret_bool HX.out.symm, Below.refl _ _⟩
    · obtain ⟨b1, o1, rfl, hb1, hc1⟩ : ∃ b o, a = some ⟨b, o, none⟩ ∧ b < w.heap.size ∧ ∀ j, j < n → w.cell? ⟨b, o + j, none⟩ = some (.int .u8 (wd ps j : Nat)) := by
        rcases h4 with h4 | h4
        · exact absurd h4 h0
        · exact h4
      obtain ⟨b2, o2, rfl, hb2, hc2⟩ : ∃ b' o, b = some ⟨b', o, none⟩ ∧ b' < w.heap.size ∧ ∀ j, j < n → w.cell? ⟨b', o + j, none⟩ = some (.int .u8 (wd qs j : Nat)) := by
        rcases k4 with k4 | k4
        · exact absurd k4 h0
        · exact k4
      have H1 := Lib.hid h1
      have K1 := Lib.hid k1
      have HC1 := Lib.hid hc1
      have HC2 := Lib.hid hc2
      clear h4 k4 h1 k1 hc1 hc2
      go_enter Tryd.func28, Tryd.ntmps28
      go_wp2_with fail
      go_loopg [13] n (fun g s13 wr => ∃ k q : Nat, k ≤ n ∧ n - k ≤ g ∧ s13 = .int .i64 k ∧ wr = w.drewN q ∧ Hid (∀ j, j < k → wd ps j = wd qs j))
      case atStart => exact ⟨0, 0, Nat.zero_le _, by omega, rfl, rfl, fun j hj => absurd hj (Nat.not_lt_zero _)⟩
      case round =>
        obtain ⟨k, q, hk, hg, rfl, rfl, HE⟩ := hrel
        by_cases hlt : k < n
        · have g1 : w.cell? ⟨b1, o1 + k, none⟩ = some (.int .u8 (wd ps k : Nat)) := HC1.out k hlt
          have g2 : w.cell? ⟨b2, o2 + k, none⟩ = some (.int .u8 (wd qs k : Nat)) := HC2.out k hlt
          by_cases hxy : wd ps k = wd qs k
          · have HXY := Lib.hid hxy
            rw [← hxy] at g2
            clear hxy
            generalize wd ps k = x at g1 g2
            go_wp2_with fail
            go_region
            go_wp2_with fail
            go_roundg (n - (k + 1))
            case measure => omega
            case rel => exact ⟨k + 1, q + 1, by omega, by omega, by go_num, rfl, fun j hj => by
              by_cases e : j = k
              · subst e; exact HXY.out
              · exact HE.out j (by omega)⟩
          · have HXY := Lib.hid hxy
            have hne := u8_ne hxy
            clear hxy
            have HF : Hid (decide (ps = qs) = false) := decide_eq_false (fun e => HXY.out (by rw [e]))
            generalize wd ps k = x at g1 hne
            generalize wd qs k = y at g2 hne
            go_wp2_with fail
            go_region
            go_wp2_with fail
            go_ret
            exact ⟨ret_bool HF.out.symm, bdr (Below.refl _ _) (q + 1)⟩
        · have hkn : k = n := by omega
          have HT : Hid (decide (ps = qs) = true) := decide_eq_true (ext_of_wd (by rw [H1.out, K1.out]) fun j => by
            by_cases hj : j < k
            · exact HE.out j hj
            · rw [wd_out (by rw [H1.out]; omega), wd_out (by rw [K1.out]; omega)])
          clear hkn
          go_wp2_with fail
          go_ret
          exact ⟨ret_bool HT.out.symm, bdr (Below.refl _ _) q⟩
  · have HF : Hid (decide (ps = qs) = false) := decide_eq_false (fun e => hnm (by rw [← h1, ← k1, e]))
    have hnm' : ¬ (n : Int) = (m : Int) := by omega
    clear h4 k4 h1 k1 hnm
    go_enter Tryd.func28, Tryd.ntmps28
    go_wp2_with fail
    go_ret
    exact ⟨ret_bool HF.out.symm, Below.refl _ _⟩

theorem few_any (a : Option Addr) (n cap : Nat) (zs : List Int) (w : World) (h : Iw w a n cap zs) :
    Calls Tryd.prog 14 #[.slice a n cap] w fun e w' => e = .returned (.slice a (min n 60) cap) ∧ w' = w := by
  obtain ⟨h1, h2, h3, h4⟩ := h
  have h4' : a = none ∧ n = 0 ∧ cap = 0 ∨ ∃ b o, a = some ⟨b, o, none⟩ := by
    rcases h4 with h4 | ⟨b, o, h4, _⟩
    · exact .inl h4
    · exact .inr ⟨b, o, h4⟩
  clear h4 h1
  rcases h4' with ⟨rfl, rfl, rfl⟩ | ⟨b, o, rfl⟩
  · go_enter Tryd.func14, Tryd.ntmps14
    go_wp2_with fail
    go_ret
    exact ⟨rfl, rfl⟩
  · obtain ⟨m, hm⟩ : ∃ m : Nat, min (n : Int) 60 = m := ⟨min n 60, by omega⟩
    have HM : Hid (min n 60 = m) := by show _ = _; omega
    have hmc : m ≤ cap := by omega
    go_enter Tryd.func14, Tryd.ntmps14
    go_wp2_with fail
    rw [HM.out]
    go_ret
    exact ⟨rfl, rfl⟩

theorem is_any (a b : Option Addr) (n m cap dap : Nat) (l : List Nat) (zs : List Int) (w : World) (h : Bs w a n cap l) (k : Iw w b m dap zs) (hT : Tz w) :
    Calls Tryd.prog 15 #[.agg #[.slice a n cap], .slice b m dap] w fun e w' => e = .returned (.bool (decide (cs l = zs))) ∧ Below w.heap.size w w' := by
  have HL := Lib.hid (fun w' (hb : Below w.heap.size w w') => list_any a n cap l w' (h.below hb) (hT.below hb))
  have HN := Lib.hid (fun w' (hb : Below w.heap.size w w') => len_any a n cap l w' (h.below hb))
  have HE := Lib.hid (fun c d w' (hb : Below w.heap.size w w') (hi : Iw w' c l.length d (cs l)) => equalI_any c b l.length d m dap (cs l) zs w' hi (k.below hb))
  have HZ := Lib.hid k.1
  have hm : m ≤ 9223372036854775807 := by have := k.2.1; have := k.2.2.1; omega
  clear h k hT
  by_cases he : cs l = zs
  · have HD : Hid (decide (cs l = zs) = true) := decide_eq_true he
    have HM : Hid (l.length = m) := by show _ = _; rw [← HZ.out, ← he, cs_length]
    clear he
    go_enter Tryd.func15, Tryd.ntmps15
    go_wp2_with (first
      | (go_at_call 22; refine (HL.out _ (by go_grown)).mono ?_; rintro e w2 ⟨v, rfl, hr, hb2⟩; obtain ⟨c, d, rfl, hi⟩ := iw_of_i64 hr rfl; have hbw := bel1 hb2; have q0 := (hb2.cell (p := ⟨w.heap.size, 0, none⟩) (by simp)).trans (new1 w _ _).1; clear hr)
      | (go_at_call 21; refine (HE.out _ _ _ hbw hi).mono ?_; rintro e w3 ⟨rfl, hb3⟩; rw [HD.out]; have hbw3 := hbw.trans (hb3.mono hbw.size); go_loud (have q1 := (hb3.cell (p := ⟨w.heap.size, 0, none⟩) (show w.heap.size < w2.heap.size by have := hb2.size; rw [World.size_alloc] at this; omega)).trans q0))
      | (go_at_call 48; refine (HN.out _ hbw3).mono ?_; rintro e w4 ⟨rfl, hb4⟩; rw [HM.out]))
    go_ret
    exact ⟨ret_bool HD.out.symm, hbw3.trans (hb4.mono hbw3.size)⟩
  · have HD : Hid (decide (cs l = zs) = false) := decide_eq_false he
    clear he
    go_enter Tryd.func15, Tryd.ntmps15
    go_wp2_with (first
      | (go_at_call 22; refine (HL.out _ (by go_grown)).mono ?_; rintro e w2 ⟨v, rfl, hr, hb2⟩; obtain ⟨c, d, rfl, hi⟩ := iw_of_i64 hr rfl; have hbw := bel1 hb2; clear hr)
      | (go_at_call 21; refine (HE.out _ _ _ hbw hi).mono ?_; rintro e w3 ⟨rfl, hb3⟩; rw [HD.out]; have hbw3 := hbw.trans (hb3.mono hbw.size)))
    go_ret
    exact ⟨ret_bool HD.out.symm, hbw3⟩
end Go.Proofs.YtaekkpoknpnnbaaDoor
