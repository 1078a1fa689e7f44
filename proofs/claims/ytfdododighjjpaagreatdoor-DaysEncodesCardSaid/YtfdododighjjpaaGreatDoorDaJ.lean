/- Contracts: Of, Or, Minus, Within. -/
import Derived.Test.YtfdododighjjpaaGreatDoorDaI
import Derived.Test.YtfdododighjjpaaGreatDoorDaG
namespace Go.Proofs.YtfdododighjjpaaGreatDoor.Dy
open Go.RowKit Go.PlainAid
set_option linter.unusedVariables false
set_option linter.unusedSimpArgs false
set_option maxHeartbeats 2000000

theorem new2 (w : World) (v1 v2 : Value) (T : TypeId) : (w.alloc (.cells #[v1, v2] T)).cell? ⟨w.heap.size, 0, none⟩ = some v1 ∧ (w.alloc (.cells #[v1, v2] T)).cell? ⟨w.heap.size, 1, none⟩ = some v2 := by constructor <;> simp
theorem ofP_err {w w' : World} {l : List (Int × Int)} {x : Int} (h : errL l = x) (hx : x ≠ 0) (hb : RowKit.Below w.heap.size w w') : OfP w l (.returned (.tuple #[.agg #[.slice none 0 0], .int .i64 x])) w' := by
  refine ⟨none, 0, 0, [], by rw [h], Ds.nil _ _ _ (by unfold maxLen; omega), can_nil, fun d => ?_, hb⟩
  rw [decide_eq_false (by rw [h]; exact hx)]; rfl
theorem ofP_ok {w w' : World} {l r : List (Int × Int)} {a : Option Addr} {n cap : Nat} (h : errL l = 0) (hd : Ds w' a n cap r) (hc : Can r) (hm : ∀ d, Dm r d = Dm l d) (hb : RowKit.Below w.heap.size w w') : OfP w l (.returned (.tuple #[.agg #[.slice a n cap], .int .i64 0])) w' := by
  refine ⟨a, n, cap, r, by rw [h], hd, hc, fun d => ?_, hb⟩
  rw [decide_eq_true h]; exact hm d
set_option maxRecDepth 100000 in
theorem of_any (a : Option Addr) (n cap : Nat) (l : List (Int × Int)) (w : World) (h : Ds w a n cap l) (hn : n ≤ 100000) :
    Calls Tryz.prog 24 #[.slice a n cap] w (OfP w l) := by
  have HJ : Hid (errL l = 0 → ∀ W, RowKit.Below w.heap.size w W → Calls Tryz.prog 57 #[.slice a n cap] W (SetP W (Dm l))) :=
    fun he W hb => join_any a n cap l W (h.below hb (Nat.le_refl _)) (errL_ok he) hn
  obtain ⟨hl, hc, hm, h4⟩ := h
  unfold maxLen at hm
  have H4 := Lib.hid h4
  have HL := Lib.hid hl
  clear h4 hl
  go_enter Tryz.func24, Tryz.ntmps24
  go_wp2_with fail
  go_loopw [8] (fun v wr => ∃ j : Nat, j ≤ n ∧ v = .int .i64 j ∧ Hid (errL l = errL (l.drop j)) ∧ RowKit.Below (w.heap.size + 1) (w.alloc (.cells #[.slice none 0 0] 25)) wr) (fun v _ => n - (intOf v).toNat)
  case atStart => exact ⟨0, by omega, rfl, rfl, RowKit.Below.refl _ _⟩
  case round =>
    obtain ⟨j, hj, rfl, hpre, hbel⟩ := hrel
    obtain ⟨k0, hbw⟩ := box1 hbel
    have hz := hbel.size
    have f0 : wr.frozen? ⟨w.heap.size, 0, none⟩ = false := (hbel.frozen (p := ⟨w.heap.size, 0, none⟩) (Nat.lt_succ_self _)).trans (new1 _ _ _).2
    simp only [World.size_alloc] at hz
    by_cases hjn : j < n
    · rcases H4.out with h0 | ⟨b, o, rfl, hb, hcell⟩
      · omega
      obtain ⟨⟨p1, p2⟩, hp⟩ : ∃ p, l[j]? = some p := ⟨_, List.getElem?_eq_getElem (by rw [HL.out]; exact hjn)⟩
      obtain ⟨c1, c2⟩ := hcell j _ hp
      have c1 := (hbw.cell (p := ⟨b, _, none⟩) hb).trans c1
      have c2 := (hbw.cell (p := ⟨b, _, none⟩) hb).trans c2
      dsimp only at c1 c2
      have hj0 : (0 : Int) ≤ (j : Int) := Int.natCast_nonneg _
      have hj1 : (j : Int) < (n : Int) := by omega
      have hb2 := hbel.alloc hz (.cells #[.int .i64 p1, .int .i64 p2] 48)
      have hbw2 := (hbw.alloc (by omega) (.cells #[.int .i64 p1, .int .i64 p2] 48)).setCell (p := ⟨w.heap.size, 0, none⟩) (Nat.le_refl _) (.slice none 0 0)
      have k1 : (wr.alloc (.cells #[.int .i64 p1, .int .i64 p2] 48)).cell? ⟨w.heap.size, 0, none⟩ = some (.slice none 0 0) := by
        rw [World.cell?_alloc_lt _ _ _ (show w.heap.size < wr.heap.size by omega)]; exact k0
      have f1 : (wr.alloc (.cells #[.int .i64 p1, .int .i64 p2] 48)).frozen? ⟨w.heap.size, 0, none⟩ = false := ((RowKit.Below.refl wr.heap.size wr).alloc (Nat.le_refl _) _).frozen (p := ⟨w.heap.size, 0, none⟩) (show w.heap.size < wr.heap.size by omega) |>.trans f0
      have cs := World.cell?_setCell_same _ _ (.slice none 0 0) k1
      have hcase : p1 < 0 ∨ (0 ≤ p1 ∧ 30000 < p1) ∨ (0 ≤ p1 ∧ p1 ≤ 30000 ∧ p2 < 0) ∨ (0 ≤ p1 ∧ p1 ≤ 30000 ∧ 0 ≤ p2 ∧ 30000 < p2) ∨ (0 ≤ p1 ∧ p1 ≤ 30000 ∧ 0 ≤ p2 ∧ p2 ≤ 30000 ∧ p2 < p1) ∨ (0 ≤ p1 ∧ p1 ≤ 30000 ∧ 0 ≤ p2 ∧ p2 ≤ 30000 ∧ p1 ≤ p2) := by omega
      have e2 : (p1 < 0 ∨ 30000 < p1 ∨ p2 < 0 ∨ 30000 < p2) → Hid (errL l = 2) := fun hh => by
        have e : errP (p1, p2) = 2 := by unfold errP; rw [if_pos (by dsimp only; omega)]
        exact (errL_here hpre.out hp (by rw [e]; omega)).trans e
      have e1 : (0 ≤ p1 ∧ p1 ≤ 30000 ∧ 0 ≤ p2 ∧ p2 ≤ 30000 ∧ p2 < p1) → Hid (errL l = 1) := fun hh => by
        have e : errP (p1, p2) = 1 := by unfold errP; rw [if_neg (by dsimp only; omega), if_pos (by dsimp only; omega)]
        exact (errL_here hpre.out hp (by rw [e]; omega)).trans e
      have e0 : (0 ≤ p1 ∧ p1 ≤ 30000 ∧ 0 ≤ p2 ∧ p2 ≤ 30000 ∧ p1 ≤ p2) → Hid (errL l = errL (l.drop (j + 1))) := fun hh => by
        have e : errP (p1, p2) = 0 := by unfold errP; rw [if_neg (by dsimp only; omega), if_neg (by dsimp only; omega)]
        show errL l = _
        rw [hpre.out, errL_step hp, if_pos e]
      clear hcell hp hpre
      rcases hcase with g | ⟨g1, g⟩ | ⟨g1, g2, g⟩ | ⟨g1, g2, g3, g⟩ | ⟨g1, g2, g3, g4, g⟩ | ⟨g1, g2, g3, g4, g⟩
      · have HE := e2 (by omega)
        clear e0 e1 e2
        go_wp2_with fail
        all_goals first | (exfalso; omega) | exact bodyPost_ret (v := .tuple #[.agg #[.slice none 0 0], .int .i64 2]) (by simp [results, Tryz.results24, go_sem, cs]) rfl (ofP_err HE.out (by omega) hbw2)
      · have HE := e2 (by omega)
        clear e0 e1 e2
        go_wp2_with fail
        all_goals first | (exfalso; omega) | exact bodyPost_ret (v := .tuple #[.agg #[.slice none 0 0], .int .i64 2]) (by simp [results, Tryz.results24, go_sem, cs]) rfl (ofP_err HE.out (by omega) hbw2)
      · have HE := e2 (by omega)
        clear e0 e1 e2
        go_wp2_with fail
        all_goals first | (exfalso; omega) | exact bodyPost_ret (v := .tuple #[.agg #[.slice none 0 0], .int .i64 2]) (by simp [results, Tryz.results24, go_sem, cs]) rfl (ofP_err HE.out (by omega) hbw2)
      · have HE := e2 (by omega)
        clear e0 e1 e2
        go_wp2_with fail
        all_goals first | (exfalso; omega) | exact bodyPost_ret (v := .tuple #[.agg #[.slice none 0 0], .int .i64 2]) (by simp [results, Tryz.results24, go_sem, cs]) rfl (ofP_err HE.out (by omega) hbw2)
      · have HE := e1 (by omega)
        clear e0 e1 e2
        go_wp2_with fail
        all_goals first | (exfalso; omega) | exact bodyPost_ret (v := .tuple #[.agg #[.slice none 0 0], .int .i64 1]) (by simp [results, Tryz.results24, go_sem, cs]) rfl (ofP_err HE.out (by omega) hbw2)
      · have HE := e0 (by omega)
        clear e0 e1 e2 cs hbw2 k1 f1
        go_wp2_with fail
        all_goals first | (exfalso; omega) | skip
        go_roundw
        case rel => exact ⟨j + 1, by omega, by go_num, HE.out, hb2⟩
        case measure => simp [intOf]; omega
    · obtain rfl : j = n := by omega
      have HE : Hid (errL l = 0) := by
        have := hpre.out
        rw [List.drop_of_length_le (by rw [HL.out]; exact Nat.le_refl _)] at this
        exact this
      clear hpre
      go_wp2_with (go_at_call 57; refine (HJ.out HE.out _ hbw).mono ?_; rintro e w2 ⟨a2, n2, c2, us, rfl, hs2, hc2, hm2, hb2⟩; have HS2 := Lib.hid hs2; have HC2 := Lib.hid hc2; have HM2 := Lib.hid hm2; clear hs2 hc2 hm2; have k2 := (hb2.cell (p := ⟨w.heap.size, 0, none⟩) (show w.heap.size < wr.heap.size by omega)).trans k0; have f2 := (hb2.frozen (p := ⟨w.heap.size, 0, none⟩) (show w.heap.size < wr.heap.size by omega)).trans f0)
      have cs := World.cell?_setCell_same w2 ⟨w.heap.size, 0, none⟩ (.slice a2 n2 c2) k2
      refine bodyPost_ret (v := .tuple #[.agg #[.slice a2 n2 c2], .int .i64 0]) (by simp [results, Tryz.results24, go_sem, cs]) rfl ?_
      exact ofP_ok HE.out (HS2.out.set k2 (by intro x e; cases e)) HC2.out HM2.out ((hbw.trans (hb2.mono (by omega))).setCell (Nat.le_refl _) _)

end Go.Proofs.YtfdododighjjpaaGreatDoor.Dy
