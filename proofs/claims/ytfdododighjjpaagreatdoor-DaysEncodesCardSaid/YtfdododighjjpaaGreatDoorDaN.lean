/- Contracts: the law's Fit and Make. -/
import Derived.Test.YtfdododighjjpaaGreatDoorDaM
namespace Go.Proofs.YtfdododighjjpaaGreatDoor.Dy
open Go.RowKit Go.PlainAid
set_option linter.unusedVariables false
set_option linter.unusedSimpArgs false
set_option maxHeartbeats 2000000

/-- The slice of pairs of 16 bits. -/
def Us (w : World) (a : Option Addr) (n cap : Nat) (l : List (Nat × Nat)) : Prop :=
  l.length = n ∧ n ≤ cap ∧ cap ≤ 9223372036854775807 ∧ (a = none ∧ n = 0 ∧ cap = 0 ∨ ∃ b o, a = some ⟨b, o, none⟩ ∧ b < w.heap.size ∧
    ∀ j p, l[j]? = some p → (p.1 < 65536 ∧ p.2 < 65536) ∧ w.cell? ⟨b, o + j * 2, none⟩ = some (.int .u16 (p.1 : Nat)) ∧ w.cell? ⟨b, o + j * 2 + 1, none⟩ = some (.int .u16 (p.2 : Nat)))
theorem Us.below {w w' : World} {a : Option Addr} {n cap N : Nat} {l : List (Nat × Nat)} (h : Us w a n cap l) (hb : RowKit.Below N w w') (hN : w.heap.size ≤ N) : Us w' a n cap l := by
  obtain ⟨h1, h2, h3, h4⟩ := h
  refine ⟨h1, h2, h3, ?_⟩
  rcases h4 with h4 | ⟨b, o, ha, hlt, h5⟩
  · exact .inl h4
  · refine .inr ⟨b, o, ha, Nat.lt_of_lt_of_le hlt hb.size, fun j p hp => ?_⟩
    obtain ⟨c0, c1, c2⟩ := h5 j p hp
    exact ⟨c0, (hb.cell (p := ⟨b, _, none⟩) (Nat.lt_of_lt_of_le hlt hN)).trans c1, (hb.cell (p := ⟨b, _, none⟩) (Nat.lt_of_lt_of_le hlt hN)).trans c2⟩
def fitP (p : Nat × Nat) : Int × Int := (min (((p.1 % 30001 : Nat) : Int)) ((p.2 % 30001 : Nat) : Int), max (((p.1 % 30001 : Nat) : Int)) ((p.2 % 30001 : Nat) : Int))
def fitL (l : List (Nat × Nat)) : List (Int × Int) := (l.take 6).map fitP
theorem fit_ok (l : List (Nat × Nat)) : ∀ p ∈ fitL l, Okp p := by
  intro p hp
  obtain ⟨q, -, rfl⟩ := List.mem_map.1 hp
  unfold fitP Okp
  dsimp only
  omega
theorem fit_len (l : List (Nat × Nat)) : (fitL l).length ≤ 6 := by unfold fitL; simp; omega
set_option maxRecDepth 100000 in
theorem fit_any (a : Option Addr) (n cap : Nat) (l : List (Nat × Nat)) (w : World) (h : Us w a n cap l) :
    Calls Tryz.prog 43 #[.slice a n cap] w fun e w' => ∃ v', e = .returned v' ∧ RowKit.Below w.heap.size w w' ∧ Os 61 w' w.heap.size v' (fitL l) := by
  obtain ⟨i0, hi, hz0, hz1, hz2⟩ := info_parts infoPair
  obtain ⟨hl, hc, hm, h4⟩ := h
  have H4 := Lib.hid h4
  obtain ⟨L, eL⟩ : ∃ L, L = l.map fitP := ⟨_, rfl⟩
  have HEL := Lib.hid eL
  have HLL : Hid (L.length = n) := by show _ = _; rw [eL, List.length_map, hl]
  have HFL : Hid (fitL l = L.take 6) := by show _ = _; rw [eL]; unfold fitL; rw [List.map_take]
  have HL := Lib.hid hl
  clear h4 hl eL
  go_enter Tryz.func43, Tryz.ntmps43
  go_wp2_with fail
  go_loopw [3, 4] (fun v3 v4 wr => ∃ j : Nat, j ≤ n ∧ j ≤ 6 ∧ v4 = .int .i64 j ∧ Hid ((L.take j).length = j) ∧ Os 61 wr w.heap.size v3 (L.take j) ∧ RowKit.Below w.heap.size w wr) (fun _ v _ => 6 - (intOf v).toNat)
  case atStart => exact ⟨0, by omega, by omega, rfl, rfl, Os.nil _ _ _, RowKit.Below.refl _ _⟩
  case round =>
    obtain ⟨j, hj, hj6, rfl, htl, hown, hbel⟩ := hrel
    have hz := hbel.size
    have hj0 : (0 : Int) ≤ (j : Int) := Int.natCast_nonneg _
    by_cases hjn : j < n
    · have hj1 : (j : Int) < (n : Int) := by omega
      by_cases hj5 : j < 6
      · have hj2 : (j : Int) < 6 := by omega
        rcases H4.out with ⟨_, h0, _⟩ | ⟨b, o, rfl, hb, hcell⟩
        · omega
        obtain ⟨⟨x, y⟩, hp⟩ : ∃ p, l[j]? = some p := ⟨_, List.getElem?_eq_getElem (by rw [HL.out]; exact hjn)⟩
        obtain ⟨⟨hx, hy⟩, c1, c2⟩ := hcell j _ hp
        have c1 := (hbel.cell (p := ⟨b, _, none⟩) hb).trans c1
        have c2 := (hbel.cell (p := ⟨b, _, none⟩) hb).trans c2
        dsimp only at c1 c2 hx hy
        obtain ⟨X, eX⟩ : ∃ X, X = x % 30001 := ⟨_, rfl⟩
        obtain ⟨Y, eY⟩ : ∃ Y, Y = y % 30001 := ⟨_, rfl⟩
        have HTL : Hid ((L.take (j + 1)).length = j + 1) := by show _ = _; rw [List.length_take, HLL.out]; omega
        have e1 : IntKind.i64.wrap (x : Int) = x := by rw [IntKind.wrap_i64]; omega
        have e2 : IntKind.i64.wrap (y : Int) = y := by rw [IntKind.wrap_i64]; omega
        have e3 : Int.tmod (x : Int) 30001 = (X : Int) := by rw [Int.tmod_eq_emod_of_nonneg (by omega)]; omega
        have e4 : Int.tmod (y : Int) 30001 = (Y : Int) := by rw [Int.tmod_eq_emod_of_nonneg (by omega)]; omega
        have HT : Hid (L.take j ++ [(min (X : Int) (Y : Int), max (X : Int) (Y : Int))] = L.take (j + 1)) := by
          show _ = _
          rw [take_snoc' (x := fitP (x, y)) (by rw [HEL.out, List.getElem?_map, hp]; rfl), eX, eY]; rfl
        clear hcell hp eX eY
        go_wp2_with fail
        all_goals first | (exfalso; omega) | skip
        refine wp_region_noPanic ?_
        refine region_ord (S := fun w' => w'.cell? ⟨b, o + j * 2, none⟩ = some (.int .u16 (x : Nat)) ∧ w'.cell? ⟨b, o + j * 2 + 1, none⟩ = some (.int .u16 (y : Nat))) [0, 1, 2, 3, 4, 5, 6, 7, 8, 9, 10, 11, 12, 13, 14, 15] (by kernel_rfl) (by decide +kernel) (fun _ _ _ _ _ h => h) (⟨c1, c2⟩) (fun _ => ?_)
        repeat (first
          | (refine ord_skip rfl rfl rfl ?_; (try simp only [Act.put, List.setIfInBounds_toArray, List.set_cons_zero, List.set_cons_succ]))
          | (refine' ord_light (v := _) rfl rfl rfl (fun w' hSw => ?_) ?_; rotate_left; focus ((try dsimp only at hSw); go_simp <;> (with_reducible rfl)); (try simp only [Act.put, List.setIfInBounds_toArray, List.set_cons_zero, List.set_cons_succ]))
          | (refine ord_heavy rfl rfl (fun K hK => ?_); go_simp; (try go_wp2_with fail); refine hK.out _ _ (⟨c1, c2⟩) ?_; clear hK K; (try simp only [Act.put, List.setIfInBounds_toArray, List.set_cons_zero, List.set_cons_succ])))
        refine ord_nil (NoPanic.normal ?_)
        have hown1 := (Os.alloc hown (.cells #[.int .i64 (min (X : Int) (Y : Int)), .int .i64 (max (X : Int) (Y : Int))] 61)).drew
        have hb2 := (hbel.alloc hz (.cells #[.int .i64 (min (X : Int) (Y : Int)), .int .i64 (max (X : Int) (Y : Int))] 61)).drew
        clear e1 e2 e3 e4 c1 c2
        go_wp2_with (at_builtin; refine wpList_append_ds rfl (.tmp 31) (.tmp 39) 62 61 rfl Tryz.underlying62 w.heap.size i0 hi hz0 hz1 hz2 _ _ rfl hown1 _ 1 1 [(min (X : Int) (Y : Int), max (X : Int) (Y : Int))] rfl (Ds.one _ _ _ _ _ rfl) (by rw [htl.out]; omega) (by show w.heap.size ≤ (wr.alloc _).heap.size; rw [World.size_alloc]; exact Nat.le_succ_of_le hz) ?_)
        all_goals first | (exfalso; omega) | skip
        intro v4 w4 hown4 hgr4
        have hb4 := hb2.grown hgr4 (by show w.heap.size ≤ (wr.alloc _).heap.size; rw [World.size_alloc]; exact Nat.le_succ_of_le hz) (fun b hb => (hown.lt b hb).1)
        rw [HT.out] at hown4
        clear hgr4 hown1 hown hbel hb2
        go_wp2_with fail
        go_roundw
        case rel => exact ⟨j + 1, by omega, by omega, by go_num, HTL.out, hown4, hb4⟩
        case measure => simp [intOf]; omega
      · have HF : Hid (L.take j = fitL l) := by
          show _ = _
          obtain rfl : j = 6 := by omega
          exact HFL.out.symm
        have hj6' : ¬ (j : Int) < 6 := by omega
        go_wp2_with fail
        all_goals first | (exfalso; omega) | skip
        go_ret
        exact ⟨_, rfl, hbel, by rw [← HF.out]; exact hown⟩
    · have HF : Hid (L.take j = fitL l) := by
        show _ = _
        obtain rfl : j = n := by omega
        rw [HFL.out, List.take_of_length_le (by rw [HLL.out]; exact Nat.le_refl _), List.take_of_length_le (by rw [HLL.out]; exact hj6)]
      have hj1 : ¬ (j : Int) < (n : Int) := by omega
      go_wp2_with fail
      all_goals first | (exfalso; omega) | skip
      go_ret
      exact ⟨_, rfl, hbel, by rw [← HF.out]; exact hown⟩

theorem Fo.setO {w : World} {g : Nat} {S : Int → Bool} {p : Addr} {v u : Value} (h : Fo w g S) (hp : w.cell? p = some v) (hv : ∀ x : Bool, v ≠ .bool x) : Fo (w.setCell p u) g S := by
  obtain ⟨h1, h2, h3⟩ := h
  refine ⟨by simpa using h1, fun k hk => ?_, fun j => by rw [World.frozen?_setCell]; exact h3 j⟩
  rw [World.cell?_setCell_other]
  · exact h2 k hk
  · intro e
    rw [e, h2 k hk] at hp
    exact hv _ (Option.some.inj hp).symm
/-- What Make gives. -/
def MakeP (w : World) (e : Ending) (w' : World) : Prop :=
  ∃ a n c r g, e = .returned (.tuple #[.agg #[.slice a n c], .slice (some ⟨g, 0, none⟩) 30001 30001, .bool true]) ∧ Ds w' a n c r ∧ Can r ∧ Fo w' g (Dm r) ∧ RowKit.Below w.heap.size w w'
set_option maxRecDepth 100000 in
theorem make_any (a : Option Addr) (n cap : Nat) (l : List (Nat × Nat)) (w : World) (h : Us w a n cap l) :
    Calls Tryz.prog 12 #[.slice a n cap] w (MakeP w) := by
  have HU := Lib.hid h
  have HOK := Lib.hid (fit_ok l)
  have HE := Lib.hid (ok_errL (fit_ok l))
  have hln := fit_len l
  obtain ⟨F, hF⟩ : ∃ F, F = fitL l := ⟨_, rfl⟩
  have HFIT := Lib.hid (fun W (hb : RowKit.Below w.heap.size w W) => fit_any a n cap l W (h.below hb (Nat.le_refl _)))
  rw [← hF] at HOK HE hln HFIT
  clear h hF HU
  have hE := RowKit.Below.refl (w.heap.size + 1) (w.alloc (.cells #[.slice none 0 0] 25))
  obtain ⟨q0, hD0⟩ := box1 hE
  go_enter Tryz.func12, Tryz.ntmps12
  go_wp2_with (first
    | (go_at_call 43; (with_reducible refine (HFIT.out _ hD0).mono ?_); rintro e w1 ⟨v1, rfl, hb1, hown1⟩; obtain ⟨a1, n1, c1, rfl, hn1, hd1⟩ := hown1.dn; have HD1 := Lib.hid hd1; have HN1 := Lib.hid hn1; have hE1 := hE.trans (hb1.mono (by simp)); obtain ⟨q1, hD1⟩ := box1 hE1; clear hd1 hown1 hn1)
    | (go_at_call 27; (with_reducible refine (lspans_any _ _ _ _ _ HD1.out (by rw [HN1.out]; omega)).mono ?_); rintro e w2 ⟨v2, rfl, hb2, hown2⟩; obtain ⟨a2, n2, c2, rfl, hn2, hd2⟩ := hown2.dn; have HD2 := Lib.hid hd2; have HN2 := Lib.hid hn2; have hz1 := hE1.size; simp only [World.size_alloc] at hz1; have hE2 := hE1.trans (hb2.mono hz1); obtain ⟨q2, hD2⟩ := box1 hE2; clear hd2 hown2 hn2)
    | (go_at_call 24; (with_reducible refine (of_any _ _ _ _ _ HD2.out (by rw [HN2.out]; omega)).mono ?_); rintro e w3 ⟨a3, n3, c3, r, rfl, hd3, hc3, hm3, hb3⟩; have HD3 := Lib.hid hd3; have HC3 := Lib.hid hc3; have HM3 := Lib.hid hm3; have hz2 := hE2.size; simp only [World.size_alloc] at hz2; have hE3 := hE2.trans (hb3.mono hz2); obtain ⟨q3, hD3⟩ := box1 hE3; have HFF := Lib.hid (HD1.out.below (hb2.mono (Nat.le_refl _) |>.trans (hb3.mono hb2.size)) (Nat.le_refl _)); rw [HE.out]; have f3 : w3.frozen? ⟨w.heap.size, 0, none⟩ = false := ((hE3.frozen (p := ⟨w.heap.size, 0, none⟩) (Nat.lt_succ_self _)).trans (new1 _ _ _).2); clear hd3 hc3 hm3))
  have s3 := new1 w3 (.slice a3 n3 c3) 25
  have hb3' := ((RowKit.Below.refl w3.heap.size w3).alloc (Nat.le_refl _) (.cells #[.slice a3 n3 c3] 25)).drew
  have HOF := Lib.hid (rof_any a1 n1 c1 F (w3.alloc (.cells #[.slice a3 n3 c3] 25)).drew (HFF.out.below hb3' (Nat.le_refl _)) HOK.out)
  have s3' : (w3.alloc (.cells #[.slice a3 n3 c3] 25)).drew.cell? ⟨w3.heap.size, 0, none⟩ = some (.slice a3 n3 c3) := s3.1
  refine wp_region_noPanic ?_
  refine region_ord (S := fun w' => w'.cell? ⟨w3.heap.size, 0, none⟩ = some (.slice a3 n3 c3)) [0, 1, 3, 4, 2, 5, 6, 7] (by kernel_rfl) (by decide +kernel) (fun _ _ _ _ _ h => h) (s3') (fun _ => ?_)
  repeat (first
    | (refine ord_skip rfl rfl rfl ?_; (try simp only [Act.put, List.setIfInBounds_toArray, List.set_cons_zero, List.set_cons_succ]))
    | (refine' ord_light (v := _) rfl rfl rfl (fun w' hSw => ?_) ?_; rotate_left; focus ((try dsimp only at hSw); go_simp <;> (with_reducible rfl)); (try simp only [Act.put, List.setIfInBounds_toArray, List.set_cons_zero, List.set_cons_succ]))
    | (refine ord_heavy rfl rfl (fun K hK => ?_); go_simp; (go_at_call 35; (with_reducible refine HOF.out.mono ?_); rintro e w4 ⟨g, rfl, hfo, hb4⟩; have s4 := (hb4.cell (p := ⟨w3.heap.size, 0, none⟩) (by show w3.heap.size < (w3.alloc _).heap.size; simp)).trans s3'; have hlt : w.heap.size < w3.heap.size := (by have := hE3.size; simp at this; omega); have hb4' := hb3'.trans (hb4.mono (by show w3.heap.size ≤ (w3.alloc _).heap.size; simp)); have q4 := (hb4'.cell (p := ⟨w.heap.size, 0, none⟩) hlt).trans q3; have HFO := Lib.hid hfo; have hbw := hD3.trans (hb4'.mono hD3.size); have HD4 := Lib.hid (HD3.out.below hb4' (Nat.le_refl _)); have f4 := (hb4'.frozen (p := ⟨w.heap.size, 0, none⟩) hlt).trans f3; clear hfo); (try go_wp2_with fail); refine hK.out _ _ (by first | exact s4 | exact (World.cell?_setCell_other _ _ _ _ (fun e => by injection e with e1; omega)).trans s4) ?_; clear hK K; (try simp only [Act.put, List.setIfInBounds_toArray, List.set_cons_zero, List.set_cons_succ]))
    | (refine ord_heavy rfl rfl (fun K hK => ?_); go_simp; (try go_wp2_with fail); refine hK.out _ _ (by first | exact s4 | exact (World.cell?_setCell_other _ _ _ _ (fun e => by injection e with e1; omega)).trans s4) ?_; clear hK K; (try simp only [Act.put, List.setIfInBounds_toArray, List.set_cons_zero, List.set_cons_succ])))
  refine ord_nil (NoPanic.normal ?_)
  have cs := World.cell?_setCell_same w4 ⟨w.heap.size, 0, none⟩ (.slice a3 n3 c3) q4
  go_wp2_with fail
  refine bodyPost_ret (v := .tuple #[.agg #[.slice a3 n3 c3], .slice (some ⟨g, 0, none⟩) 30001 30001, .bool true]) (by simp [results, Tryz.results12, go_sem, cs]) rfl ?_
  exact ⟨a3, n3, c3, r, g, rfl, HD4.out.set q4 (by intro x e; cases e), HC3.out, (HFO.out.setO q4 (by intro x e; cases e)).congr (fun d _ _ => by rw [HM3.out d, decide_eq_true HE.out]), hbw.setCell (Nat.le_refl _) _⟩
end Go.Proofs.YtfdododighjjpaaGreatDoor.Dy
