/- Several of the texts below, joined: CuS CuT CuU CuV CuW. -/
import Derived.Test.YtadomogbakcokaaGreatDoorQgo
import Derived.Test.YtadomogbakcokaaGreatDoorQgf
section
/- Contract: slices.SortFunc of cubes, at twelve elements or fewer (insertion sort). -/
namespace Go.Proofs.YtadomogbakcokaaGreatDoor
open Go.RowKit Go.PlainAid
set_option linter.unusedVariables false
set_option linter.unusedSimpArgs false
set_option maxHeartbeats 4000000

abbrev Pc := Hd × Cu
theorem flatE_set (l : List Hd) (j : Nat) (h : Hd) (hj : j < l.length) : ((flatE hdE l).set (j * 2) (.slice h.a h.n h.c)).set (j * 2 + 1) (.slice h.b h.m h.d) = flatE hdE (l.set j h) := by
  apply List.ext_getElem?
  intro i
  have hlen : (flatE hdE l).length = l.length * 2 := flatE_length l
  have hlen2 : (flatE hdE (l.set j h)).length = l.length * 2 := by rw [flatE_length, List.length_set]
  by_cases hi : i < l.length * 2
  · have hi2 : i / 2 < l.length := by omega
    have key : ∀ (L : List Hd) (k : Hd) (c : Nat), L[i / 2]? = some k → i % 2 = c → (flatE hdE L)[i]? = (hdE.enc k)[c]? := fun L k c hk hc => by
      have := flatE_get (E := hdE) L (i / 2) c k hk (by omega)
      rwa [show i / 2 * 2 + c = i by omega] at this
    by_cases hij : i / 2 = j
    · have hk : (l.set j h)[i / 2]? = some h := by rw [hij, List.getElem?_set_self hj]
      rw [key _ h _ hk rfl]
      rcases Nat.mod_two_eq_zero_or_one i with h0 | h1
      · rw [h0, List.getElem?_set_ne (by omega), show i = j * 2 by omega, List.getElem?_set_self (by rw [hlen]; omega)]; rfl
      · rw [h1, show i = j * 2 + 1 by omega, List.getElem?_set_self (by rw [List.length_set, hlen]; omega)]; rfl
    · rw [List.getElem?_set_ne (by omega), List.getElem?_set_ne (by omega)]
      have hk : (l.set j h)[i / 2]? = some l[i / 2] := by rw [List.getElem?_set_ne (by omega), List.getElem?_eq_getElem hi2]
      rw [key _ _ _ hk rfl, key l _ _ (List.getElem?_eq_getElem hi2) rfl]
  · rw [List.getElem?_eq_none (by rw [List.length_set, List.length_set, hlen]; omega), List.getElem?_eq_none (by rw [hlen2]; omega)]
/-- Block g is an own row of n cubes; they are ps, each with its slices. -/
def Rw (w : World) (B g n cap : Nat) (ps : List Pc) : Prop := w.ownsRow B 34 2 (.slice (some ⟨g, 0, none⟩) n cap) n (flatE hdE (ps.map (·.1))) ∧ ps.length = n ∧ ∀ p ∈ ps, Cb w p.1 p.2
theorem Rw.below {w w' : World} {B g n cap : Nat} {ps : List Pc} (h : Rw w B g n cap ps) (hb : Below w.heap.size w w') : Rw w' B g n cap ps := ⟨owns_below h.1 (Nat.le_refl _) hb, h.2.1, fun p hp => (h.2.2 p hp).below hb⟩
theorem Rw.lt {w : World} {B g n cap : Nat} {ps : List Pc} (h : Rw w B g n cap ps) : B ≤ g ∧ g < w.heap.size := World.ownsRow.lt h.1 g rfl
theorem Rw.cell {w : World} {B g n cap j : Nat} {ps : List Pc} {a b : Option Addr} {k c m d : Nat} {x : Cu} (h : Rw w B g n cap ps) (hp : ps[j]? = some (⟨a, k, c, b, m, d⟩, x)) :
    w.cell? ⟨g, j * 2, none⟩ = some (.slice a k c) ∧ w.cell? ⟨g, j * 2 + 1, none⟩ = some (.slice b m d) := by
  have hj : j < n := by rw [← h.2.1]; exact (List.getElem?_eq_some_iff.1 hp).1
  have hm : (ps.map (·.1))[j]? = some ⟨a, k, c, b, m, d⟩ := by rw [List.getElem?_map, hp]; rfl
  constructor
  · rw [World.ownsRow.cellAt h.1 (j * 2) (by omega)]
    exact flatE_get (E := hdE) _ j 0 _ hm (by omega)
  · rw [World.ownsRow.cellAt h.1 (j * 2 + 1) (by omega)]
    exact flatE_get (E := hdE) _ j 1 _ hm (by omega)
theorem Rw.free {w : World} {B g n cap : Nat} {ps : List Pc} (h : Rw w B g n cap ps) (j : Nat) : w.frozen? ⟨g, j, none⟩ = false := World.ownsRow.frozenAt h.1 j
theorem Rw.put {w : World} {B g n cap j : Nat} {ps : List Pc} {a b : Option Addr} {k c m d : Nat} {x : Cu} (h : Rw w B g n cap ps) (hj : j < n) (hc : Cb w ⟨a, k, c, b, m, d⟩ x) :
    Rw ((w.setCell ⟨g, j * 2, none⟩ (.slice a k c)).setCell ⟨g, j * 2 + 1, none⟩ (.slice b m d)) B g n cap (ps.set j (⟨a, k, c, b, m, d⟩, x)) ∧ ∀ (h' : Hd) (y : Cu), Cb w h' y → Cb ((w.setCell ⟨g, j * 2, none⟩ (.slice a k c)).setCell ⟨g, j * 2 + 1, none⟩ (.slice b m d)) h' y := by
  obtain ⟨⟨⟨oa, ok, oc, ob, om, od⟩, oy⟩, ho⟩ : ∃ p, ps[j]? = some p := ⟨_, List.getElem?_eq_getElem (by rw [h.2.1]; exact hj)⟩
  obtain ⟨c0, c1⟩ := h.cell ho
  have hs : ∀ (a : Option Addr) (n c : Nat) (x : Int), (Value.slice a n c) ≠ .int .u64 x := fun a n c x e => by cases e
  have c1' : (w.setCell ⟨g, j * 2, none⟩ (.slice a k c)).cell? ⟨g, j * 2 + 1, none⟩ = some (.slice ob om od) := (World.cell?_setCell_other _ _ _ _ (fun e => by injection e with e1 e2; omega)).trans c1
  have hcb : ∀ (h' : Hd) (y : Cu), Cb w h' y → Cb ((w.setCell ⟨g, j * 2, none⟩ (.slice a k c)).setCell ⟨g, j * 2 + 1, none⟩ (.slice b m d)) h' y := fun h' y hy => ⟨(hy.1.set c0 (hs _ _ _)).set c1' (hs _ _ _), (hy.2.set c0 (hs _ _ _)).set c1' (hs _ _ _)⟩
  have s1 := (World.ownsRow.stored h.1 (j * 2) (.slice a k c)).1
  have s2 := (World.ownsRow.stored s1 (j * 2 + 1) (.slice b m d)).1
  rw [show ((flatE hdE (ps.map (·.1))).set (j * 2) (Value.slice a k c)).set (j * 2 + 1) (.slice b m d) = flatE hdE ((ps.map (·.1)).set j ⟨a, k, c, b, m, d⟩) from flatE_set _ j ⟨a, k, c, b, m, d⟩ (by rw [List.length_map, h.2.1]; exact hj)] at s2
  refine ⟨⟨?_, by rw [List.length_set]; exact h.2.1, fun p hp => ?_⟩, hcb⟩
  · rw [List.map_set]; exact s2
  · rcases List.mem_or_eq_of_mem_set hp with hp | rfl
    · exact hcb _ _ (h.2.2 p hp)
    · exact hcb _ _ hc
/-- The neighbours at m and m + 1 change places. -/
theorem Rw.swap {w : World} {B g n cap m : Nat} {A C : List Pc} {xa xb ya yb : Option Addr} {xn xc xm xd yn yc ym yd : Nat} {x y : Cu} (h : Rw w B g n cap (A ++ (⟨ya, yn, yc, yb, ym, yd⟩, y) :: (⟨xa, xn, xc, xb, xm, xd⟩, x) :: C)) (hA : A.length = m) :
    Rw ((((w.setCell ⟨g, (m + 1) * 2, none⟩ (.slice ya yn yc)).setCell ⟨g, (m + 1) * 2 + 1, none⟩ (.slice yb ym yd)).setCell ⟨g, m * 2, none⟩ (.slice xa xn xc)).setCell ⟨g, m * 2 + 1, none⟩ (.slice xb xm xd)) B g n cap (A ++ (⟨xa, xn, xc, xb, xm, xd⟩, x) :: (⟨ya, yn, yc, yb, ym, yd⟩, y) :: C) := by
  have hn := h.2.1
  rw [List.length_append, List.length_cons, List.length_cons] at hn
  have hy := h.2.2 (⟨ya, yn, yc, yb, ym, yd⟩, y) (by simp)
  have hx := h.2.2 (⟨xa, xn, xc, xb, xm, xd⟩, x) (by simp)
  obtain ⟨h1, k1⟩ := h.put (j := m + 1) (by omega) hy
  obtain ⟨h2, -⟩ := h1.put (j := m) (by omega) (k1 _ _ hx)
  have e : ((A ++ (⟨ya, yn, yc, yb, ym, yd⟩, y) :: (⟨xa, xn, xc, xb, xm, xd⟩, x) :: C).set (m + 1) ((⟨ya, yn, yc, yb, ym, yd⟩ : Hd), y)).set m ((⟨xa, xn, xc, xb, xm, xd⟩ : Hd), x) = A ++ (⟨xa, xn, xc, xb, xm, xd⟩, x) :: (⟨ya, yn, yc, yb, ym, yd⟩, y) :: C := by
    rw [List.set_append_right _ _ (by omega), hA, show m + 1 - m = 1 by omega, List.set_append_right _ _ (by omega), hA, Nat.sub_self]; rfl
  rw [e] at h2
  exact h2
theorem Rw.at0 {w : World} {B g n cap : Nat} {A C : List Pc} {xa xb ya yb : Option Addr} {xn xc xm xd yn yc ym yd : Nat} {x y : Cu} (h : Rw w B g n cap (A ++ (⟨ya, yn, yc, yb, ym, yd⟩, y) :: (⟨xa, xn, xc, xb, xm, xd⟩, x) :: C)) {m : Nat} (hA : A.length = m) :
    w.cell? ⟨g, (m + 1) * 2, none⟩ = some (.slice xa xn xc) ∧ w.cell? ⟨g, (m + 1) * 2 + 1, none⟩ = some (.slice xb xm xd) ∧ w.cell? ⟨g, m * 2, none⟩ = some (.slice ya yn yc) ∧ w.cell? ⟨g, m * 2 + 1, none⟩ = some (.slice yb ym yd) := by
  have h1 := h.cell (j := m + 1) (by rw [List.getElem?_append_right (by omega), hA, show m + 1 - m = 1 by omega]; rfl)
  have h2 := h.cell (j := m) (by rw [List.getElem?_append_right (by omega), hA, Nat.sub_self]; rfl)
  exact ⟨h1.1, h1.2, h2.1, h2.2⟩
theorem below_put {B g : Nat} {w w' : World} (h : Below B w w') (hg : B ≤ g) (i j k l : Nat) (a b c d : Value) : Below B w ((((w'.setCell ⟨g, i, none⟩ a).setCell ⟨g, j, none⟩ b).setCell ⟨g, k, none⟩ c).setCell ⟨g, l, none⟩ d) :=
  (((h.setCell (p := ⟨g, i, none⟩) hg _).setCell (p := ⟨g, j, none⟩) hg _).setCell (p := ⟨g, k, none⟩) hg _).setCell (p := ⟨g, l, none⟩) hg _
def SortP (ps : List Pc) : Prop := ps.Pairwise fun p q => cmpC p.2 q.2 ≤ 0
/-- x goes in behind A, ahead of D. -/
theorem sortP_in {A D : List Pc} {x : Pc} (h : SortP (A ++ D)) (h1 : ∀ p ∈ A, cmpC p.2 x.2 ≤ 0) (h2 : ∀ p ∈ D, cmpC x.2 p.2 < 0) : SortP (A ++ x :: D) := by
  unfold SortP at *
  rw [List.pairwise_append] at h ⊢
  obtain ⟨a, b, c⟩ := h
  refine ⟨a, List.pairwise_cons.2 ⟨fun p hp => by have := h2 p hp; omega, b⟩, fun p hp q hq => ?_⟩
  rcases List.mem_cons.1 hq with rfl | hq
  · exact h1 p hp
  · exact c p hp q hq
theorem sortP_last {A : List Pc} {y x : Pc} (h : SortP (A ++ [y])) (hyx : ¬ cmpC x.2 y.2 < 0) : ∀ p ∈ A ++ [y], cmpC p.2 x.2 ≤ 0 := by
  have hy : cmpC y.2 x.2 ≤ 0 := by rw [cmpC_neg x.2 y.2]; omega
  intro p hp
  rcases List.mem_append.1 hp with hp | hp
  · exact cmpC_le ((List.pairwise_append.1 h).2.2 p hp y (by simp)) hy
  · rw [List.mem_singleton.1 hp]; exact hy
theorem sortP_front {A D : List Pc} (h : SortP (A ++ D)) : SortP A := (List.pairwise_append.1 h).1

set_option maxRecDepth 20000 in
theorem insertion_any (B g n cap : Nat) (ps : List Pc) (w : World) (h : Rw w B g n cap ps) (hT : Tz w) (hB : B ≤ w.heap.size) (hn : n ≤ 12) (hc : cap ≤ 9223372036854775807) (hnc : n ≤ cap) (hTB : 1 < B) :
    Calls Tryz.prog 126 #[.slice (some ⟨g, 0, none⟩) n cap, .int .i64 0, .int .i64 (n : Nat), .func (.func 27) #[] #[]] w fun e w' => e = .returned (.tuple #[]) ∧ (∃ qs, Rw w' B g n cap qs ∧ qs.Perm ps ∧ SortP qs) ∧ Below B w w' := by
  have HP := Lib.hid h
  have HT := Lib.hid hT
  have hBg := h.lt.1
  have hTW : Hid (∀ w', Below B w w' → Tz w') := fun w' hb => ⟨Nat.lt_of_lt_of_le hTB (Nat.le_trans hB hb.size), fun j hj => (hb.cell (p := ⟨_, j, none⟩) hTB).trans (hT.2 j hj)⟩
  have HPL : Hid (ps.length = n) := h.2.1
  clear h hT hTB
  go_enter Tryz.func126, Tryz.ntmps126
  go_wp2_with fail
  go_loopw [8] (fun v8 wr => ∃ (i : Nat) (P C : List Pc), 1 ≤ i ∧ (i ≤ n ∨ i = 1) ∧ v8 = .int .i64 (i : Nat) ∧ Hid (P.length = min i n) ∧ Hid (Rw wr B g n cap (P ++ C)) ∧ Hid ((P ++ C).Perm ps) ∧ Hid (SortP P) ∧ Hid (Below B w wr)) (fun v _ => n + 1 - (intOf v).toNat)
  case atStart => exact ⟨1, ps.take 1, ps.drop 1, Nat.le_refl _, .inr rfl, rfl, by show _ = _; rw [List.length_take, HPL.out], by show Rw _ _ _ _ _ _; rw [List.take_append_drop]; exact HP.out, by show List.Perm _ _; rw [List.take_append_drop], by
    show SortP _
    unfold SortP
    rcases ps with _ | ⟨p, ps⟩
    · exact List.Pairwise.nil
    · exact List.pairwise_singleton _ _, Below.refl _ _⟩
  case round =>
    obtain ⟨i, P, C, hi1, hi2, rfl, hPl, hR, hPm, hS, hBw⟩ := hrel
    by_cases hin : i < n
    · have hPi : Hid (P.length = i) := by show _ = _; rw [hPl.out]; omega
      obtain ⟨x, C', rfl⟩ : ∃ x C', C = x :: C' := by
        have h1 := hR.out.2.1
        rw [List.length_append, hPi.out] at h1
        cases C with
        | nil => simp at h1; omega
        | cons x C' => exact ⟨x, C', rfl⟩
      obtain ⟨⟨xa, xn, xc, xb, xm, xd⟩, x⟩ := x
      obtain ⟨wo, rfl⟩ : ∃ wo : World, wo = wr := ⟨_, rfl⟩
      have hi63 : (i : Int) ≤ 12 := by omega
      go_wp2_with fail
      go_loopw [9] (fun v9 wr => ∃ (A D : List Pc), v9 = .int .i64 (A.length : Nat) ∧ Hid (P = A ++ D) ∧ Hid (Rw wr B g n cap (A ++ (⟨xa, xn, xc, xb, xm, xd⟩, x) :: (D ++ C'))) ∧ Hid (∀ p ∈ D, cmpC x p.2 < 0) ∧ Hid (Below B w wr)) (fun v _ => (intOf v).toNat)
      case atStart => exact ⟨P, [], by rw [hPi.out], by show _ = _; simp, by show Rw _ _ _ _ _ _; simpa using hR.out, fun p hp => by simp at hp, hBw.out⟩
      case round =>
        obtain ⟨A, D, rfl, hPA, hRr, hD, hBr⟩ := hrel
        have fin : Hid ((∀ p ∈ A, cmpC p.2 x ≤ 0) → ∃ P' : List Pc, P'.length = i + 1 ∧ P' ++ C' = A ++ (⟨xa, xn, xc, xb, xm, xd⟩, x) :: (D ++ C') ∧ (P' ++ C').Perm ps ∧ SortP P') := by
          intro hA
          refine ⟨A ++ (⟨xa, xn, xc, xb, xm, xd⟩, x) :: D, ?_, by simp, ?_, ?_⟩
          · have := hPi.out
            rw [hPA.out, List.length_append] at this
            rw [List.length_append, List.length_cons]; omega
          · refine List.Perm.trans ?_ hPm.out
            rw [hPA.out]
            simp only [List.append_assoc, List.cons_append]
            exact List.Perm.append_left _ List.perm_middle.symm
          · exact sortP_in (by rw [← hPA.out]; exact hS.out) hA hD.out
        rcases List.eq_nil_or_concat A with rfl | ⟨A', ⟨⟨ya, yn, yc, yb, ym, yd⟩, y⟩, hA'⟩
        · obtain ⟨P', f1, f2, f3, f4⟩ := fin.out (fun p hp => by simp at hp)
          have F1 := Lib.hid f1
          have F2 := Lib.hid f2
          have F3 := Lib.hid f3
          have F4 := Lib.hid f4
          clear fin f1 f2 f3 f4
          go_wp2_with fail
          refine wp_region_noPanic ?_
          refine wp_region_held_drew (S := fun w' => True) (by kernel_rfl) (trivial) (fun hS0 => ?_)
          refine' wpAnyH_take (i := 0) (v := _) rfl (by kernel_rfl) (by kernel_rfl) (by kernel_rfl) (fun _ _ _ h => h) (Or.inl ⟨by rfl, fun w' hSw => ?_⟩) hS0 ?_; rotate_left; (focus ((try dsimp only at hSw); go_simp <;> (with_reducible rfl))); (try simp only [List.getElem_toArray, List.getElem_cons_succ, List.getElem_cons_zero, Act.put, List.setIfInBounds_toArray, List.set_cons_zero, List.set_cons_succ])
          refine' wpAnyH_take (i := 1) (v := _) rfl (by kernel_rfl) (by kernel_rfl) (by kernel_rfl) (fun _ _ _ h => h) (Or.inl ⟨by rfl, fun w' hSw => ?_⟩) hS0 ?_; rotate_left; (focus ((try dsimp only at hSw); go_simp <;> (with_reducible rfl))); (try simp only [List.getElem_toArray, List.getElem_cons_succ, List.getElem_cons_zero, Act.put, List.setIfInBounds_toArray, List.set_cons_zero, List.set_cons_succ])
          refine' wpAnyH_take (i := 2) (v := _) rfl (by kernel_rfl) (by kernel_rfl) (by kernel_rfl) (fun _ _ _ h => h) (Or.inl ⟨by rfl, fun w' hSw => ?_⟩) hS0 ?_; rotate_left; (focus ((try dsimp only at hSw); go_simp <;> (with_reducible rfl))); (try simp only [List.getElem_toArray, List.getElem_cons_succ, List.getElem_cons_zero, Act.put, List.setIfInBounds_toArray, List.set_cons_zero, List.set_cons_succ])
          refine' wpAnyH_take (i := 3) (v := _) rfl (by kernel_rfl) (by kernel_rfl) (by kernel_rfl) (fun _ _ _ h => h) (Or.inl ⟨by rfl, fun w' hSw => ?_⟩) hS0 ?_; rotate_left; (focus ((try dsimp only at hSw); go_simp <;> (with_reducible rfl))); (try simp only [List.getElem_toArray, List.getElem_cons_succ, List.getElem_cons_zero, Act.put, List.setIfInBounds_toArray, List.set_cons_zero, List.set_cons_succ])
          refine' wpAnyH_take (i := 4) (v := _) rfl (by kernel_rfl) (by kernel_rfl) (by kernel_rfl) (fun _ _ _ h => h) (Or.inr ⟨by rfl, rfl⟩) hS0 ?_; (try simp only [List.getElem_toArray, List.getElem_cons_succ, List.getElem_cons_zero, Act.put, List.setIfInBounds_toArray, List.set_cons_zero, List.set_cons_succ])
          refine' wpAnyH_take (i := 5) (v := _) rfl (by kernel_rfl) (by kernel_rfl) (by kernel_rfl) (fun _ _ _ h => h) (Or.inr ⟨by rfl, rfl⟩) hS0 ?_; (try simp only [List.getElem_toArray, List.getElem_cons_succ, List.getElem_cons_zero, Act.put, List.setIfInBounds_toArray, List.set_cons_zero, List.set_cons_succ])
          refine' wpAnyH_take (i := 6) (v := _) rfl (by kernel_rfl) (by kernel_rfl) (by kernel_rfl) (fun _ _ _ h => h) (Or.inr ⟨by rfl, rfl⟩) hS0 ?_; (try simp only [List.getElem_toArray, List.getElem_cons_succ, List.getElem_cons_zero, Act.put, List.setIfInBounds_toArray, List.set_cons_zero, List.set_cons_succ])
          refine' wpAnyH_take (i := 7) (v := _) rfl (by kernel_rfl) (by kernel_rfl) (by kernel_rfl) (fun _ _ _ h => h) (Or.inr ⟨by rfl, rfl⟩) hS0 ?_; (try simp only [List.getElem_toArray, List.getElem_cons_succ, List.getElem_cons_zero, Act.put, List.setIfInBounds_toArray, List.set_cons_zero, List.set_cons_succ])
          refine' wpAnyH_take (i := 8) (v := _) rfl (by kernel_rfl) (by kernel_rfl) (by kernel_rfl) (fun _ _ _ h => h) (Or.inr ⟨by rfl, rfl⟩) hS0 ?_; (try simp only [List.getElem_toArray, List.getElem_cons_succ, List.getElem_cons_zero, Act.put, List.setIfInBounds_toArray, List.set_cons_zero, List.set_cons_succ])
          refine' wpAnyH_take (i := 9) (v := _) rfl (by kernel_rfl) (by kernel_rfl) (by kernel_rfl) (fun _ _ _ h => h) (Or.inr ⟨by rfl, rfl⟩) hS0 ?_; (try simp only [List.getElem_toArray, List.getElem_cons_succ, List.getElem_cons_zero, Act.put, List.setIfInBounds_toArray, List.set_cons_zero, List.set_cons_succ])
          refine' wpAnyH_take (i := 10) (v := _) rfl (by kernel_rfl) (by kernel_rfl) (by kernel_rfl) (fun _ _ _ h => h) (Or.inr ⟨by rfl, rfl⟩) hS0 ?_; (try simp only [List.getElem_toArray, List.getElem_cons_succ, List.getElem_cons_zero, Act.put, List.setIfInBounds_toArray, List.set_cons_zero, List.set_cons_succ])
          refine' wpAnyH_take (i := 11) (v := _) rfl (by kernel_rfl) (by kernel_rfl) (by kernel_rfl) (fun _ _ _ h => h) (Or.inr ⟨by rfl, rfl⟩) hS0 ?_; (try simp only [List.getElem_toArray, List.getElem_cons_succ, List.getElem_cons_zero, Act.put, List.setIfInBounds_toArray, List.set_cons_zero, List.set_cons_succ])
          refine' wpAnyH_take (i := 12) (v := _) rfl (by kernel_rfl) (by kernel_rfl) (by kernel_rfl) (fun _ _ _ h => h) (Or.inr ⟨by rfl, rfl⟩) hS0 ?_; (try simp only [List.getElem_toArray, List.getElem_cons_succ, List.getElem_cons_zero, Act.put, List.setIfInBounds_toArray, List.set_cons_zero, List.set_cons_succ])
          refine' wpAnyH_take (i := 13) (v := _) rfl (by kernel_rfl) (by kernel_rfl) (by kernel_rfl) (fun _ _ _ h => h) (Or.inr ⟨by rfl, rfl⟩) hS0 ?_; (try simp only [List.getElem_toArray, List.getElem_cons_succ, List.getElem_cons_zero, Act.put, List.setIfInBounds_toArray, List.set_cons_zero, List.set_cons_succ])
          refine wpAnyH_ready (rs := [14]) (by kernel_rfl) (by simp) ?_
          refine AllReadyH.cons rfl (fun K hK => ?_) AllReadyH.nil
          go_simp; refine hK.out _ _ trivial (fun hS1 => ?_); clear hK K; (try simp only [List.getElem_toArray, List.getElem_cons_succ, List.getElem_cons_zero, Act.put, List.setIfInBounds_toArray, List.set_cons_zero, List.set_cons_succ])
          refine' wpAnyH_take (i := 15) (v := _) rfl (by kernel_rfl) (by kernel_rfl) (by kernel_rfl) (fun _ _ _ h => h) (Or.inr ⟨by rfl, rfl⟩) hS1 ?_; (try simp only [List.getElem_toArray, List.getElem_cons_succ, List.getElem_cons_zero, Act.put, List.setIfInBounds_toArray, List.set_cons_zero, List.set_cons_succ])
          refine' wpAnyH_take (i := 16) (v := _) rfl (by kernel_rfl) (by kernel_rfl) (by kernel_rfl) (fun _ _ _ h => h) (Or.inl ⟨by rfl, fun w' hSw => ?_⟩) hS1 ?_; rotate_left; (focus ((try dsimp only at hSw); go_simp <;> (with_reducible rfl))); (try simp only [List.getElem_toArray, List.getElem_cons_succ, List.getElem_cons_zero, Act.put, List.setIfInBounds_toArray, List.set_cons_zero, List.set_cons_succ])
          refine wpAnyH_done (by kernel_rfl) (NoPanic.normal ?_) _
          go_wp2_with fail
          go_roundw
          case rel => exact ⟨i + 1, P', C', by omega, .inl (by omega), by go_num, by show _ = _; rw [F1.out]; omega, by show Rw _ _ _ _ _ _; rw [F2.out]; exact hRr.out.below (Below.refl _ _).drew, F3.out, F4.out, hBr.out.drew⟩
          case measure => simp [intOf]; omega
        · rw [List.concat_eq_append] at hA'
          obtain ⟨m, hm⟩ : ∃ m, A'.length = m := ⟨_, rfl⟩
          have hAl : A.length = m + 1 := by rw [hA', List.length_append, hm]; rfl
          have HR2 : Hid (Rw wr B g n cap (A' ++ (⟨ya, yn, yc, yb, ym, yd⟩, y) :: (⟨xa, xn, xc, xb, xm, xd⟩, x) :: (D ++ C'))) := by
            have := hRr.out
            rw [hA'] at this
            show Rw _ _ _ _ _ _
            simpa using this
          have hmn : m + 1 < n := by
            have := HR2.out.2.1
            simp only [List.length_append, List.length_cons] at this; omega
          have hlt := HR2.out.lt
          have HM := Lib.hid hm
          have HQ : Hid (∀ w', Below wr.heap.size wr w' → w'.cell? ⟨g, (m + 1) * 2, none⟩ = some (.slice xa xn xc) ∧ w'.cell? ⟨g, (m + 1) * 2 + 1, none⟩ = some (.slice xb xm xd) ∧ w'.cell? ⟨g, m * 2, none⟩ = some (.slice ya yn yc) ∧ w'.cell? ⟨g, m * 2 + 1, none⟩ = some (.slice yb ym yd)) :=
            fun w' hb => (HR2.out.below hb).at0 HM.out
          have hq := HQ.out wr (Below.refl _ _)
          have HCMP := Lib.hid (compareC_any xa xb ya yb xn xc xm xd yn yc ym yd x y wr.drew ((HR2.out.2.2 (⟨xa, xn, xc, xb, xm, xd⟩, x) (by simp)).below (Below.refl _ _).drew) ((HR2.out.2.2 (⟨ya, yn, yc, yb, ym, yd⟩, y) (by simp)).below (Below.refl _ _).drew) (hTW.out _ hBr.out.drew))
          have hm0 : (0 : Int) ≤ (m : Int) := Int.natCast_nonneg _
          have hm1 : (m : Int) + 1 < (n : Int) := by omega
          have hm2 : (m : Int) < (n : Int) := by omega
          have hm3 : (0 : Int) < (m : Int) + 1 := by omega
          have hm4 : (0 : Int) ≤ (m : Int) + 1 := by omega
          rw [hAl]
          by_cases hlt2 : cmpC x y < 0
          · have HA9 : Hid (P = A' ++ ((⟨ya, yn, yc, yb, ym, yd⟩, y) :: D)) := by show _ = _; rw [hPA.out, hA']; simp
            have HD9 : Hid (∀ p ∈ (((⟨ya, yn, yc, yb, ym, yd⟩ : Hd), y) :: D), cmpC x p.2 < 0) := fun p hp => by
              rcases List.mem_cons.1 hp with rfl | hp
              · exact hlt2
              · exact hD.out p hp
            generalize hcz : cmpC x y = z at HCMP hlt2
            clear fin hcz hA' hm hAl hPA hRr hD
            have hwr : IntKind.i64.wrap (m : Int) = m := by rw [IntKind.wrap_i64]; omega
            go_wp2_with fail
            refine wp_region_noPanic ?_
            refine wp_region_held_drew (S := fun w' => w'.cell? ⟨g, (m + 1) * 2, none⟩ = some (.slice xa xn xc) ∧ w'.cell? ⟨g, (m + 1) * 2 + 1, none⟩ = some (.slice xb xm xd) ∧ w'.cell? ⟨g, m * 2, none⟩ = some (.slice ya yn yc) ∧ w'.cell? ⟨g, m * 2 + 1, none⟩ = some (.slice yb ym yd)) (by kernel_rfl) (hq) (fun hS0 => ?_)
            refine' wpAnyH_take (i := 0) (v := _) rfl (by kernel_rfl) (by kernel_rfl) (by kernel_rfl) (fun _ _ _ h => h) (Or.inl ⟨by rfl, fun w' hSw => ?_⟩) hS0 ?_; rotate_left; (focus ((try dsimp only at hSw); go_simp <;> (with_reducible rfl))); (try simp only [List.getElem_toArray, List.getElem_cons_succ, List.getElem_cons_zero, Act.put, List.setIfInBounds_toArray, List.set_cons_zero, List.set_cons_succ])
            refine' wpAnyH_take (i := 1) (v := _) rfl (by kernel_rfl) (by kernel_rfl) (by kernel_rfl) (fun _ _ _ h => h) (Or.inl ⟨by rfl, fun w' hSw => ?_⟩) hS0 ?_; rotate_left; (focus ((try dsimp only at hSw); go_simp <;> (with_reducible rfl))); (try simp only [List.getElem_toArray, List.getElem_cons_succ, List.getElem_cons_zero, Act.put, List.setIfInBounds_toArray, List.set_cons_zero, List.set_cons_succ])
            refine' wpAnyH_take (i := 2) (v := _) rfl (by kernel_rfl) (by kernel_rfl) (by kernel_rfl) (fun _ _ _ h => h) (Or.inl ⟨by rfl, fun w' hSw => ?_⟩) hS0 ?_; rotate_left; (focus ((try dsimp only at hSw); go_simp <;> (with_reducible rfl))); (try simp only [List.getElem_toArray, List.getElem_cons_succ, List.getElem_cons_zero, Act.put, List.setIfInBounds_toArray, List.set_cons_zero, List.set_cons_succ])
            refine' wpAnyH_take (i := 3) (v := _) rfl (by kernel_rfl) (by kernel_rfl) (by kernel_rfl) (fun _ _ _ h => h) (Or.inl ⟨by rfl, fun w' hSw => ?_⟩) hS0 ?_; rotate_left; (focus ((try dsimp only at hSw); go_simp <;> (with_reducible rfl))); (try simp only [List.getElem_toArray, List.getElem_cons_succ, List.getElem_cons_zero, Act.put, List.setIfInBounds_toArray, List.set_cons_zero, List.set_cons_succ])
            refine' wpAnyH_take (i := 4) (v := _) rfl (by kernel_rfl) (by kernel_rfl) (by kernel_rfl) (fun _ _ _ h => h) (Or.inl ⟨by rfl, fun w' hSw => ?_⟩) hS0 ?_; rotate_left; (focus ((try dsimp only at hSw); go_simp <;> (with_reducible rfl))); (try simp only [List.getElem_toArray, List.getElem_cons_succ, List.getElem_cons_zero, Act.put, List.setIfInBounds_toArray, List.set_cons_zero, List.set_cons_succ])
            refine' wpAnyH_take (i := 5) (v := _) rfl (by kernel_rfl) (by kernel_rfl) (by kernel_rfl) (fun _ _ _ h => h) (Or.inl ⟨by rfl, fun w' hSw => ?_⟩) hS0 ?_; rotate_left; (focus ((try dsimp only at hSw); go_simp <;> (with_reducible rfl))); (try simp only [List.getElem_toArray, List.getElem_cons_succ, List.getElem_cons_zero, Act.put, List.setIfInBounds_toArray, List.set_cons_zero, List.set_cons_succ])
            refine' wpAnyH_take (i := 6) (v := _) rfl (by kernel_rfl) (by kernel_rfl) (by kernel_rfl) (fun _ _ _ h => h) (Or.inl ⟨by rfl, fun w' hSw => ?_⟩) hS0 ?_; rotate_left; (focus ((try dsimp only at hSw); go_simp <;> (with_reducible rfl))); (try simp only [List.getElem_toArray, List.getElem_cons_succ, List.getElem_cons_zero, Act.put, List.setIfInBounds_toArray, List.set_cons_zero, List.set_cons_succ])
            refine' wpAnyH_take (i := 7) (v := _) rfl (by kernel_rfl) (by kernel_rfl) (by kernel_rfl) (fun _ _ _ h => h) (Or.inl ⟨by rfl, fun w' hSw => ?_⟩) hS0 ?_; rotate_left; (focus ((try dsimp only at hSw); go_simp <;> (with_reducible rfl))); (try simp only [List.getElem_toArray, List.getElem_cons_succ, List.getElem_cons_zero, Act.put, List.setIfInBounds_toArray, List.set_cons_zero, List.set_cons_succ])
            refine' wpAnyH_take (i := 8) (v := _) rfl (by kernel_rfl) (by kernel_rfl) (by kernel_rfl) (fun _ _ _ h => h) (Or.inl ⟨by rfl, fun w' hSw => ?_⟩) hS0 ?_; rotate_left; (focus ((try dsimp only at hSw); go_simp <;> (with_reducible rfl))); (try simp only [List.getElem_toArray, List.getElem_cons_succ, List.getElem_cons_zero, Act.put, List.setIfInBounds_toArray, List.set_cons_zero, List.set_cons_succ])
            refine' wpAnyH_take (i := 9) (v := _) rfl (by kernel_rfl) (by kernel_rfl) (by kernel_rfl) (fun _ _ _ h => h) (Or.inl ⟨by rfl, fun w' hSw => ?_⟩) hS0 ?_; rotate_left; (focus ((try dsimp only at hSw); go_simp <;> (with_reducible rfl))); (try simp only [List.getElem_toArray, List.getElem_cons_succ, List.getElem_cons_zero, Act.put, List.setIfInBounds_toArray, List.set_cons_zero, List.set_cons_succ])
            refine' wpAnyH_take (i := 10) (v := _) rfl (by kernel_rfl) (by kernel_rfl) (by kernel_rfl) (fun _ _ _ h => h) (Or.inl ⟨by rfl, fun w' hSw => ?_⟩) hS0 ?_; rotate_left; (focus ((try dsimp only at hSw); go_simp <;> (with_reducible rfl))); (try simp only [List.getElem_toArray, List.getElem_cons_succ, List.getElem_cons_zero, Act.put, List.setIfInBounds_toArray, List.set_cons_zero, List.set_cons_succ])
            refine' wpAnyH_take (i := 11) (v := _) rfl (by kernel_rfl) (by kernel_rfl) (by kernel_rfl) (fun _ _ _ h => h) (Or.inl ⟨by rfl, fun w' hSw => ?_⟩) hS0 ?_; rotate_left; (focus ((try dsimp only at hSw); go_simp <;> (with_reducible rfl))); (try simp only [List.getElem_toArray, List.getElem_cons_succ, List.getElem_cons_zero, Act.put, List.setIfInBounds_toArray, List.set_cons_zero, List.set_cons_succ])
            refine' wpAnyH_take (i := 12) (v := _) rfl (by kernel_rfl) (by kernel_rfl) (by kernel_rfl) (fun _ _ _ h => h) (Or.inl ⟨by rfl, fun w' hSw => ?_⟩) hS0 ?_; rotate_left; (focus ((try dsimp only at hSw); go_simp <;> (with_reducible rfl))); (try simp only [List.getElem_toArray, List.getElem_cons_succ, List.getElem_cons_zero, Act.put, List.setIfInBounds_toArray, List.set_cons_zero, List.set_cons_succ])
            refine' wpAnyH_take (i := 13) (v := _) rfl (by kernel_rfl) (by kernel_rfl) (by kernel_rfl) (fun _ _ _ h => h) (Or.inl ⟨by rfl, fun w' hSw => ?_⟩) hS0 ?_; rotate_left; (focus ((try dsimp only at hSw); go_simp <;> (with_reducible rfl))); (try simp only [List.getElem_toArray, List.getElem_cons_succ, List.getElem_cons_zero, Act.put, List.setIfInBounds_toArray, List.set_cons_zero, List.set_cons_succ])
            refine wpAnyH_ready (rs := [14]) (by kernel_rfl) (by simp) ?_
            refine AllReadyH.cons rfl (fun K hK => ?_) AllReadyH.nil
            go_simp; go_at_call 27; (with_reducible refine HCMP.out.mono ?_); rintro e w5 ⟨rfl, hb5⟩; have hBr' := (Below.refl wr.heap.size wr).drew.trans (hb5.mono (Nat.le_refl _)); have hq5 := HQ.out w5 hBr'; (try go_wp2_with fail); refine hK.out _ _ (hq5) (fun hS1 => ?_); clear hK K; (try simp only [List.getElem_toArray, List.getElem_cons_succ, List.getElem_cons_zero, Act.put, List.setIfInBounds_toArray, List.set_cons_zero, List.set_cons_succ])
            refine' wpAnyH_take (i := 15) (v := _) rfl (by kernel_rfl) (by kernel_rfl) (by kernel_rfl) (fun _ _ _ h => h) (Or.inl ⟨by rfl, fun w' hSw => ?_⟩) hS1 ?_; rotate_left; (focus ((try dsimp only at hSw); go_simp <;> (with_reducible rfl))); (try simp only [List.getElem_toArray, List.getElem_cons_succ, List.getElem_cons_zero, Act.put, List.setIfInBounds_toArray, List.set_cons_zero, List.set_cons_succ])
            refine' wpAnyH_take (i := 16) (v := _) rfl (by kernel_rfl) (by kernel_rfl) (by kernel_rfl) (fun _ _ _ h => h) (Or.inl ⟨by rfl, fun w' hSw => ?_⟩) hS1 ?_; rotate_left; (focus ((try dsimp only at hSw); go_simp <;> (with_reducible rfl))); (try simp only [List.getElem_toArray, List.getElem_cons_succ, List.getElem_cons_zero, Act.put, List.setIfInBounds_toArray, List.set_cons_zero, List.set_cons_succ])
            refine wpAnyH_done (by kernel_rfl) (NoPanic.normal ?_) _
            have HR5 := Lib.hid (HR2.out.below hBr')
            have hf0 := HR5.out.free ((m + 1) * 2)
            have hf1 := HR5.out.free ((m + 1) * 2 + 1)
            have hf2 := HR5.out.free (m * 2)
            have hf3 := HR5.out.free (m * 2 + 1)
            have HSW := Lib.hid (HR5.out.swap HM.out)
            have hB5 := Lib.hid (hBr.out.trans (hBr'.mono (Nat.le_trans hBg (Nat.le_of_lt hlt.2))))
            obtain ⟨t0, t1, t2, t3⟩ := hq5
            clear hq HCMP hS0 hb5
            go_wp2_with fail
            refine wp_region_noPanic ?_
            refine wp_region_held_drew (S := fun w' => True) (by kernel_rfl) (trivial) (fun hS0 => ?_)
            refine' wpAnyH_take (i := 0) (v := _) rfl (by kernel_rfl) (by kernel_rfl) (by kernel_rfl) (fun _ _ _ h => h) (Or.inl ⟨by rfl, fun w' hSw => ?_⟩) hS0 ?_; rotate_left; (focus ((try dsimp only at hSw); go_simp <;> (with_reducible rfl))); (try simp only [List.getElem_toArray, List.getElem_cons_succ, List.getElem_cons_zero, Act.put, List.setIfInBounds_toArray, List.set_cons_zero, List.set_cons_succ])
            refine' wpAnyH_take (i := 1) (v := _) rfl (by kernel_rfl) (by kernel_rfl) (by kernel_rfl) (fun _ _ _ h => h) (Or.inl ⟨by rfl, fun w' hSw => ?_⟩) hS0 ?_; rotate_left; (focus ((try dsimp only at hSw); go_simp <;> (with_reducible rfl))); (try simp only [List.getElem_toArray, List.getElem_cons_succ, List.getElem_cons_zero, Act.put, List.setIfInBounds_toArray, List.set_cons_zero, List.set_cons_succ])
            refine' wpAnyH_take (i := 2) (v := _) rfl (by kernel_rfl) (by kernel_rfl) (by kernel_rfl) (fun _ _ _ h => h) (Or.inl ⟨by rfl, fun w' hSw => ?_⟩) hS0 ?_; rotate_left; (focus ((try dsimp only at hSw); go_simp <;> (with_reducible rfl))); (try simp only [List.getElem_toArray, List.getElem_cons_succ, List.getElem_cons_zero, Act.put, List.setIfInBounds_toArray, List.set_cons_zero, List.set_cons_succ])
            refine' wpAnyH_take (i := 3) (v := _) rfl (by kernel_rfl) (by kernel_rfl) (by kernel_rfl) (fun _ _ _ h => h) (Or.inl ⟨by rfl, fun w' hSw => ?_⟩) hS0 ?_; rotate_left; (focus ((try dsimp only at hSw); go_simp <;> (with_reducible rfl))); (try simp only [List.getElem_toArray, List.getElem_cons_succ, List.getElem_cons_zero, Act.put, List.setIfInBounds_toArray, List.set_cons_zero, List.set_cons_succ])
            refine' wpAnyH_take (i := 4) (v := _) rfl (by kernel_rfl) (by kernel_rfl) (by kernel_rfl) (fun _ _ _ h => h) (Or.inl ⟨by rfl, fun w' hSw => ?_⟩) hS0 ?_; rotate_left; (focus ((try dsimp only at hSw); go_simp <;> (with_reducible rfl))); (try simp only [List.getElem_toArray, List.getElem_cons_succ, List.getElem_cons_zero, Act.put, List.setIfInBounds_toArray, List.set_cons_zero, List.set_cons_succ])
            refine' wpAnyH_take (i := 5) (v := _) rfl (by kernel_rfl) (by kernel_rfl) (by kernel_rfl) (fun _ _ _ h => h) (Or.inl ⟨by rfl, fun w' hSw => ?_⟩) hS0 ?_; rotate_left; (focus ((try dsimp only at hSw); go_simp <;> (with_reducible rfl))); (try simp only [List.getElem_toArray, List.getElem_cons_succ, List.getElem_cons_zero, Act.put, List.setIfInBounds_toArray, List.set_cons_zero, List.set_cons_succ])
            refine' wpAnyH_take (i := 6) (v := _) rfl (by kernel_rfl) (by kernel_rfl) (by kernel_rfl) (fun _ _ _ h => h) (Or.inl ⟨by rfl, fun w' hSw => ?_⟩) hS0 ?_; rotate_left; (focus ((try dsimp only at hSw); go_simp <;> (with_reducible rfl))); (try simp only [List.getElem_toArray, List.getElem_cons_succ, List.getElem_cons_zero, Act.put, List.setIfInBounds_toArray, List.set_cons_zero, List.set_cons_succ])
            refine' wpAnyH_take (i := 7) (v := _) rfl (by kernel_rfl) (by kernel_rfl) (by kernel_rfl) (fun _ _ _ h => h) (Or.inl ⟨by rfl, fun w' hSw => ?_⟩) hS0 ?_; rotate_left; (focus ((try dsimp only at hSw); go_simp <;> (with_reducible rfl))); (try simp only [List.getElem_toArray, List.getElem_cons_succ, List.getElem_cons_zero, Act.put, List.setIfInBounds_toArray, List.set_cons_zero, List.set_cons_succ])
            refine' wpAnyH_take (i := 8) (v := _) rfl (by kernel_rfl) (by kernel_rfl) (by kernel_rfl) (fun _ _ _ h => h) (Or.inl ⟨by rfl, fun w' hSw => ?_⟩) hS0 ?_; rotate_left; (focus ((try dsimp only at hSw); go_simp <;> (with_reducible rfl))); (try simp only [List.getElem_toArray, List.getElem_cons_succ, List.getElem_cons_zero, Act.put, List.setIfInBounds_toArray, List.set_cons_zero, List.set_cons_succ])
            refine' wpAnyH_take (i := 10) (v := _) rfl (by kernel_rfl) (by kernel_rfl) (by kernel_rfl) (fun _ _ _ h => h) (Or.inl ⟨by rfl, fun w' hSw => ?_⟩) hS0 ?_; rotate_left; (focus ((try dsimp only at hSw); go_simp <;> (with_reducible rfl))); (try simp only [List.getElem_toArray, List.getElem_cons_succ, List.getElem_cons_zero, Act.put, List.setIfInBounds_toArray, List.set_cons_zero, List.set_cons_succ])
            refine' wpAnyH_take (i := 11) (v := _) rfl (by kernel_rfl) (by kernel_rfl) (by kernel_rfl) (fun _ _ _ h => h) (Or.inl ⟨by rfl, fun w' hSw => ?_⟩) hS0 ?_; rotate_left; (focus ((try dsimp only at hSw); go_simp <;> (with_reducible rfl))); (try simp only [List.getElem_toArray, List.getElem_cons_succ, List.getElem_cons_zero, Act.put, List.setIfInBounds_toArray, List.set_cons_zero, List.set_cons_succ])
            refine' wpAnyH_take (i := 12) (v := _) rfl (by kernel_rfl) (by kernel_rfl) (by kernel_rfl) (fun _ _ _ h => h) (Or.inl ⟨by rfl, fun w' hSw => ?_⟩) hS0 ?_; rotate_left; (focus ((try dsimp only at hSw); go_simp <;> (with_reducible rfl))); (try simp only [List.getElem_toArray, List.getElem_cons_succ, List.getElem_cons_zero, Act.put, List.setIfInBounds_toArray, List.set_cons_zero, List.set_cons_succ])
            refine wpAnyH_ready (rs := [9, 13]) (by kernel_rfl) (by simp) ?_
            refine AllReadyH.cons rfl (fun K hK => ?_) (AllReadyH.cons rfl (fun K hK => ?_) (AllReadyH.nil))
            · go_simp; (try go_wp2_with fail); refine hK.out _ _ (trivial) (fun hSb => ?_); clear hK K; (try simp only [List.getElem_toArray, List.getElem_cons_succ, List.getElem_cons_zero, Act.put, List.setIfInBounds_toArray, List.set_cons_zero, List.set_cons_succ])
              refine wpAnyH_ready (rs := [13]) (by kernel_rfl) (by simp) ?_
              refine AllReadyH.cons rfl (fun K hK => ?_) AllReadyH.nil
              go_simp; (try go_wp2_with fail); refine hK.out _ _ (trivial) (fun hS11 => ?_); clear hK K; (try simp only [List.getElem_toArray, List.getElem_cons_succ, List.getElem_cons_zero, Act.put, List.setIfInBounds_toArray, List.set_cons_zero, List.set_cons_succ])
              refine' wpAnyH_take (i := 14) (v := _) rfl (by kernel_rfl) (by kernel_rfl) (by kernel_rfl) (fun _ _ _ h => h) (Or.inl ⟨by rfl, fun w' hSw => ?_⟩) hS11 ?_; rotate_left; (focus ((try dsimp only at hSw); go_simp <;> (with_reducible rfl))); (try simp only [List.getElem_toArray, List.getElem_cons_succ, List.getElem_cons_zero, Act.put, List.setIfInBounds_toArray, List.set_cons_zero, List.set_cons_succ])
              refine wpAnyH_ready (rs := [15]) (by kernel_rfl) (by simp) ?_
              refine AllReadyH.cons rfl (fun K hK => ?_) AllReadyH.nil
              go_simp; (try go_wp2_with fail); refine hK.out _ _ (trivial) (fun hS12 => ?_); clear hK K; (try simp only [List.getElem_toArray, List.getElem_cons_succ, List.getElem_cons_zero, Act.put, List.setIfInBounds_toArray, List.set_cons_zero, List.set_cons_succ])
              refine' wpAnyH_take (i := 16) (v := _) rfl (by kernel_rfl) (by kernel_rfl) (by kernel_rfl) (fun _ _ _ h => h) (Or.inl ⟨by rfl, fun w' hSw => ?_⟩) hS12 ?_; rotate_left; (focus ((try dsimp only at hSw); go_simp <;> (with_reducible rfl))); (try simp only [List.getElem_toArray, List.getElem_cons_succ, List.getElem_cons_zero, Act.put, List.setIfInBounds_toArray, List.set_cons_zero, List.set_cons_succ])
              refine wpAnyH_ready (rs := [17]) (by kernel_rfl) (by simp) ?_
              refine AllReadyH.cons rfl (fun K hK => ?_) AllReadyH.nil
              go_simp; (try go_wp2_with fail); refine hK.out _ _ (trivial) (fun hS13 => ?_); clear hK K; (try simp only [List.getElem_toArray, List.getElem_cons_succ, List.getElem_cons_zero, Act.put, List.setIfInBounds_toArray, List.set_cons_zero, List.set_cons_succ])
              refine wpAnyH_done (by kernel_rfl) (NoPanic.normal ?_) _
              have hR9 : Rw (((((w5.setCell ⟨g, (m + 1) * 2, none⟩ (.slice ya yn yc)).setCell ⟨g, (m + 1) * 2 + 1, none⟩ (.slice yb ym yd)).setCell ⟨g, m * 2, none⟩ (.slice xa xn xc)).setCell ⟨g, m * 2 + 1, none⟩ (.slice xb xm xd)).drew) B g n cap _ := HSW.out.below (Below.refl _ _).drew
              have hB9 := (below_put hB5.out hBg ((m + 1) * 2) ((m + 1) * 2 + 1) (m * 2) (m * 2 + 1) (.slice ya yn yc) (.slice yb ym yd) (.slice xa xn xc) (.slice xb xm xd)).drew
              have HR9 := Lib.hid hR9
              have HB9 := Lib.hid hB9
              have HM1 := Lib.hid HM.out
              clear hR9 hB9 HSW HR5 hB5 hf0 hf1 hf2 hf3 t0 t1 t2 t3
              go_wp2_with fail
              go_roundw
              case rel => exact ⟨A', (⟨ya, yn, yc, yb, ym, yd⟩, y) :: D, by rw [HM1.out], HA9.out, HR9.out, HD9.out, HB9.out⟩
              case measure => simp [intOf]
              
            · go_simp; (try go_wp2_with fail); refine hK.out _ _ (trivial) (fun hSb => ?_); clear hK K; (try simp only [List.getElem_toArray, List.getElem_cons_succ, List.getElem_cons_zero, Act.put, List.setIfInBounds_toArray, List.set_cons_zero, List.set_cons_succ])
              refine wpAnyH_ready (rs := [9]) (by kernel_rfl) (by simp) ?_
              refine AllReadyH.cons rfl (fun K hK => ?_) AllReadyH.nil
              go_simp; (try go_wp2_with fail); refine hK.out _ _ (trivial) (fun hS11 => ?_); clear hK K; (try simp only [List.getElem_toArray, List.getElem_cons_succ, List.getElem_cons_zero, Act.put, List.setIfInBounds_toArray, List.set_cons_zero, List.set_cons_succ])
              refine' wpAnyH_take (i := 14) (v := _) rfl (by kernel_rfl) (by kernel_rfl) (by kernel_rfl) (fun _ _ _ h => h) (Or.inl ⟨by rfl, fun w' hSw => ?_⟩) hS11 ?_; rotate_left; (focus ((try dsimp only at hSw); go_simp <;> (with_reducible rfl))); (try simp only [List.getElem_toArray, List.getElem_cons_succ, List.getElem_cons_zero, Act.put, List.setIfInBounds_toArray, List.set_cons_zero, List.set_cons_succ])
              refine wpAnyH_ready (rs := [15]) (by kernel_rfl) (by simp) ?_
              refine AllReadyH.cons rfl (fun K hK => ?_) AllReadyH.nil
              go_simp; (try go_wp2_with fail); refine hK.out _ _ (trivial) (fun hS12 => ?_); clear hK K; (try simp only [List.getElem_toArray, List.getElem_cons_succ, List.getElem_cons_zero, Act.put, List.setIfInBounds_toArray, List.set_cons_zero, List.set_cons_succ])
              refine' wpAnyH_take (i := 16) (v := _) rfl (by kernel_rfl) (by kernel_rfl) (by kernel_rfl) (fun _ _ _ h => h) (Or.inl ⟨by rfl, fun w' hSw => ?_⟩) hS12 ?_; rotate_left; (focus ((try dsimp only at hSw); go_simp <;> (with_reducible rfl))); (try simp only [List.getElem_toArray, List.getElem_cons_succ, List.getElem_cons_zero, Act.put, List.setIfInBounds_toArray, List.set_cons_zero, List.set_cons_succ])
              refine wpAnyH_ready (rs := [17]) (by kernel_rfl) (by simp) ?_
              refine AllReadyH.cons rfl (fun K hK => ?_) AllReadyH.nil
              go_simp; (try go_wp2_with fail); refine hK.out _ _ (trivial) (fun hS13 => ?_); clear hK K; (try simp only [List.getElem_toArray, List.getElem_cons_succ, List.getElem_cons_zero, Act.put, List.setIfInBounds_toArray, List.set_cons_zero, List.set_cons_succ])
              refine wpAnyH_done (by kernel_rfl) (NoPanic.normal ?_) _
              have hR9 : Rw (((((w5.setCell ⟨g, (m + 1) * 2, none⟩ (.slice ya yn yc)).setCell ⟨g, (m + 1) * 2 + 1, none⟩ (.slice yb ym yd)).setCell ⟨g, m * 2, none⟩ (.slice xa xn xc)).setCell ⟨g, m * 2 + 1, none⟩ (.slice xb xm xd)).drew) B g n cap _ := HSW.out.below (Below.refl _ _).drew
              have hB9 := (below_put hB5.out hBg ((m + 1) * 2) ((m + 1) * 2 + 1) (m * 2) (m * 2 + 1) (.slice ya yn yc) (.slice yb ym yd) (.slice xa xn xc) (.slice xb xm xd)).drew
              have HR9 := Lib.hid hR9
              have HB9 := Lib.hid hB9
              have HM1 := Lib.hid HM.out
              clear hR9 hB9 HSW HR5 hB5 hf0 hf1 hf2 hf3 t0 t1 t2 t3
              go_wp2_with fail
              go_roundw
              case rel => exact ⟨A', (⟨ya, yn, yc, yb, ym, yd⟩, y) :: D, by rw [HM1.out], HA9.out, HR9.out, HD9.out, HB9.out⟩
              case measure => simp [intOf]
              
          · obtain ⟨P', f1, f2, f3, f4⟩ := fin.out (by rw [hA']; exact sortP_last (x := ((⟨xa, xn, xc, xb, xm, xd⟩ : Hd), x)) (sortP_front (by rw [← hA', ← hPA.out]; exact hS.out)) hlt2)
            have F1 := Lib.hid f1
            have F2 := Lib.hid f2
            have F3 := Lib.hid f3
            have F4 := Lib.hid f4
            generalize hcz : cmpC x y = z at HCMP hlt2
            clear fin hcz hA' hm hAl hPA f1 f2 f3 f4
            have hwr : IntKind.i64.wrap (m : Int) = m := by rw [IntKind.wrap_i64]; omega
            go_wp2_with fail
            refine wp_region_noPanic ?_
            refine wp_region_held_drew (S := fun w' => w'.cell? ⟨g, (m + 1) * 2, none⟩ = some (.slice xa xn xc) ∧ w'.cell? ⟨g, (m + 1) * 2 + 1, none⟩ = some (.slice xb xm xd) ∧ w'.cell? ⟨g, m * 2, none⟩ = some (.slice ya yn yc) ∧ w'.cell? ⟨g, m * 2 + 1, none⟩ = some (.slice yb ym yd)) (by kernel_rfl) (hq) (fun hS0 => ?_)
            refine' wpAnyH_take (i := 0) (v := _) rfl (by kernel_rfl) (by kernel_rfl) (by kernel_rfl) (fun _ _ _ h => h) (Or.inl ⟨by rfl, fun w' hSw => ?_⟩) hS0 ?_; rotate_left; (focus ((try dsimp only at hSw); go_simp <;> (with_reducible rfl))); (try simp only [List.getElem_toArray, List.getElem_cons_succ, List.getElem_cons_zero, Act.put, List.setIfInBounds_toArray, List.set_cons_zero, List.set_cons_succ])
            refine' wpAnyH_take (i := 1) (v := _) rfl (by kernel_rfl) (by kernel_rfl) (by kernel_rfl) (fun _ _ _ h => h) (Or.inl ⟨by rfl, fun w' hSw => ?_⟩) hS0 ?_; rotate_left; (focus ((try dsimp only at hSw); go_simp <;> (with_reducible rfl))); (try simp only [List.getElem_toArray, List.getElem_cons_succ, List.getElem_cons_zero, Act.put, List.setIfInBounds_toArray, List.set_cons_zero, List.set_cons_succ])
            refine' wpAnyH_take (i := 2) (v := _) rfl (by kernel_rfl) (by kernel_rfl) (by kernel_rfl) (fun _ _ _ h => h) (Or.inl ⟨by rfl, fun w' hSw => ?_⟩) hS0 ?_; rotate_left; (focus ((try dsimp only at hSw); go_simp <;> (with_reducible rfl))); (try simp only [List.getElem_toArray, List.getElem_cons_succ, List.getElem_cons_zero, Act.put, List.setIfInBounds_toArray, List.set_cons_zero, List.set_cons_succ])
            refine' wpAnyH_take (i := 3) (v := _) rfl (by kernel_rfl) (by kernel_rfl) (by kernel_rfl) (fun _ _ _ h => h) (Or.inl ⟨by rfl, fun w' hSw => ?_⟩) hS0 ?_; rotate_left; (focus ((try dsimp only at hSw); go_simp <;> (with_reducible rfl))); (try simp only [List.getElem_toArray, List.getElem_cons_succ, List.getElem_cons_zero, Act.put, List.setIfInBounds_toArray, List.set_cons_zero, List.set_cons_succ])
            refine' wpAnyH_take (i := 4) (v := _) rfl (by kernel_rfl) (by kernel_rfl) (by kernel_rfl) (fun _ _ _ h => h) (Or.inl ⟨by rfl, fun w' hSw => ?_⟩) hS0 ?_; rotate_left; (focus ((try dsimp only at hSw); go_simp <;> (with_reducible rfl))); (try simp only [List.getElem_toArray, List.getElem_cons_succ, List.getElem_cons_zero, Act.put, List.setIfInBounds_toArray, List.set_cons_zero, List.set_cons_succ])
            refine' wpAnyH_take (i := 5) (v := _) rfl (by kernel_rfl) (by kernel_rfl) (by kernel_rfl) (fun _ _ _ h => h) (Or.inl ⟨by rfl, fun w' hSw => ?_⟩) hS0 ?_; rotate_left; (focus ((try dsimp only at hSw); go_simp <;> (with_reducible rfl))); (try simp only [List.getElem_toArray, List.getElem_cons_succ, List.getElem_cons_zero, Act.put, List.setIfInBounds_toArray, List.set_cons_zero, List.set_cons_succ])
            refine' wpAnyH_take (i := 6) (v := _) rfl (by kernel_rfl) (by kernel_rfl) (by kernel_rfl) (fun _ _ _ h => h) (Or.inl ⟨by rfl, fun w' hSw => ?_⟩) hS0 ?_; rotate_left; (focus ((try dsimp only at hSw); go_simp <;> (with_reducible rfl))); (try simp only [List.getElem_toArray, List.getElem_cons_succ, List.getElem_cons_zero, Act.put, List.setIfInBounds_toArray, List.set_cons_zero, List.set_cons_succ])
            refine' wpAnyH_take (i := 7) (v := _) rfl (by kernel_rfl) (by kernel_rfl) (by kernel_rfl) (fun _ _ _ h => h) (Or.inl ⟨by rfl, fun w' hSw => ?_⟩) hS0 ?_; rotate_left; (focus ((try dsimp only at hSw); go_simp <;> (with_reducible rfl))); (try simp only [List.getElem_toArray, List.getElem_cons_succ, List.getElem_cons_zero, Act.put, List.setIfInBounds_toArray, List.set_cons_zero, List.set_cons_succ])
            refine' wpAnyH_take (i := 8) (v := _) rfl (by kernel_rfl) (by kernel_rfl) (by kernel_rfl) (fun _ _ _ h => h) (Or.inl ⟨by rfl, fun w' hSw => ?_⟩) hS0 ?_; rotate_left; (focus ((try dsimp only at hSw); go_simp <;> (with_reducible rfl))); (try simp only [List.getElem_toArray, List.getElem_cons_succ, List.getElem_cons_zero, Act.put, List.setIfInBounds_toArray, List.set_cons_zero, List.set_cons_succ])
            refine' wpAnyH_take (i := 9) (v := _) rfl (by kernel_rfl) (by kernel_rfl) (by kernel_rfl) (fun _ _ _ h => h) (Or.inl ⟨by rfl, fun w' hSw => ?_⟩) hS0 ?_; rotate_left; (focus ((try dsimp only at hSw); go_simp <;> (with_reducible rfl))); (try simp only [List.getElem_toArray, List.getElem_cons_succ, List.getElem_cons_zero, Act.put, List.setIfInBounds_toArray, List.set_cons_zero, List.set_cons_succ])
            refine' wpAnyH_take (i := 10) (v := _) rfl (by kernel_rfl) (by kernel_rfl) (by kernel_rfl) (fun _ _ _ h => h) (Or.inl ⟨by rfl, fun w' hSw => ?_⟩) hS0 ?_; rotate_left; (focus ((try dsimp only at hSw); go_simp <;> (with_reducible rfl))); (try simp only [List.getElem_toArray, List.getElem_cons_succ, List.getElem_cons_zero, Act.put, List.setIfInBounds_toArray, List.set_cons_zero, List.set_cons_succ])
            refine' wpAnyH_take (i := 11) (v := _) rfl (by kernel_rfl) (by kernel_rfl) (by kernel_rfl) (fun _ _ _ h => h) (Or.inl ⟨by rfl, fun w' hSw => ?_⟩) hS0 ?_; rotate_left; (focus ((try dsimp only at hSw); go_simp <;> (with_reducible rfl))); (try simp only [List.getElem_toArray, List.getElem_cons_succ, List.getElem_cons_zero, Act.put, List.setIfInBounds_toArray, List.set_cons_zero, List.set_cons_succ])
            refine' wpAnyH_take (i := 12) (v := _) rfl (by kernel_rfl) (by kernel_rfl) (by kernel_rfl) (fun _ _ _ h => h) (Or.inl ⟨by rfl, fun w' hSw => ?_⟩) hS0 ?_; rotate_left; (focus ((try dsimp only at hSw); go_simp <;> (with_reducible rfl))); (try simp only [List.getElem_toArray, List.getElem_cons_succ, List.getElem_cons_zero, Act.put, List.setIfInBounds_toArray, List.set_cons_zero, List.set_cons_succ])
            refine' wpAnyH_take (i := 13) (v := _) rfl (by kernel_rfl) (by kernel_rfl) (by kernel_rfl) (fun _ _ _ h => h) (Or.inl ⟨by rfl, fun w' hSw => ?_⟩) hS0 ?_; rotate_left; (focus ((try dsimp only at hSw); go_simp <;> (with_reducible rfl))); (try simp only [List.getElem_toArray, List.getElem_cons_succ, List.getElem_cons_zero, Act.put, List.setIfInBounds_toArray, List.set_cons_zero, List.set_cons_succ])
            refine wpAnyH_ready (rs := [14]) (by kernel_rfl) (by simp) ?_
            refine AllReadyH.cons rfl (fun K hK => ?_) AllReadyH.nil
            go_simp; go_at_call 27; (with_reducible refine HCMP.out.mono ?_); rintro e w5 ⟨rfl, hb5⟩; have hBr' := (Below.refl wr.heap.size wr).drew.trans (hb5.mono (Nat.le_refl _)); have hq5 := HQ.out w5 hBr'; (try go_wp2_with fail); refine hK.out _ _ (hq5) (fun hS1 => ?_); clear hK K; (try simp only [List.getElem_toArray, List.getElem_cons_succ, List.getElem_cons_zero, Act.put, List.setIfInBounds_toArray, List.set_cons_zero, List.set_cons_succ])
            refine' wpAnyH_take (i := 15) (v := _) rfl (by kernel_rfl) (by kernel_rfl) (by kernel_rfl) (fun _ _ _ h => h) (Or.inl ⟨by rfl, fun w' hSw => ?_⟩) hS1 ?_; rotate_left; (focus ((try dsimp only at hSw); go_simp <;> (with_reducible rfl))); (try simp only [List.getElem_toArray, List.getElem_cons_succ, List.getElem_cons_zero, Act.put, List.setIfInBounds_toArray, List.set_cons_zero, List.set_cons_succ])
            refine' wpAnyH_take (i := 16) (v := _) rfl (by kernel_rfl) (by kernel_rfl) (by kernel_rfl) (fun _ _ _ h => h) (Or.inl ⟨by rfl, fun w' hSw => ?_⟩) hS1 ?_; rotate_left; (focus ((try dsimp only at hSw); go_simp <;> (with_reducible rfl))); (try simp only [List.getElem_toArray, List.getElem_cons_succ, List.getElem_cons_zero, Act.put, List.setIfInBounds_toArray, List.set_cons_zero, List.set_cons_succ])
            refine wpAnyH_done (by kernel_rfl) (NoPanic.normal ?_) _
            clear hq HCMP hS0 hb5 hwr
            go_wp2_with fail
            go_roundw
            case rel => exact ⟨i + 1, P', C', by omega, .inl (by omega), by go_num, by show _ = _; rw [F1.out]; omega, by show Rw _ _ _ _ _ _; rw [F2.out]; exact hRr.out.below hBr', F3.out, F4.out, hBr.out.trans (hBr'.mono (Nat.le_trans hBg (Nat.le_of_lt hlt.2)))⟩
            case measure => simp [intOf]; omega
    · have hE : Hid (C = []) := by
        have h1 := hR.out.2.1
        rw [List.length_append, hPl.out] at h1
        show _ = _
        exact List.eq_nil_of_length_eq_zero (by omega)
      go_wp2_with fail
      go_end0
      refine ⟨rfl, ⟨P, ?_, ?_, hS.out⟩, hBw.out⟩
      · have := hR.out; rw [hE.out, List.append_nil] at this; exact this
      · have := hPm.out; rw [hE.out, List.append_nil] at this; exact this
end Go.Proofs.YtadomogbakcokaaGreatDoor
end

section
/- Contracts: slices.Clone, SortFunc, CompactFunc of cubes. -/
namespace Go.Proofs.YtadomogbakcokaaGreatDoor
open Go.RowKit Go.PlainAid
set_option linter.unusedVariables false
set_option linter.unusedSimpArgs false
set_option maxHeartbeats 4000000

theorem cloneC_any (a : Option Addr) (n cap : Nat) (l : List Cu) (w : World) (h : Cs w a n cap l) (hn : n ≤ 100000) :
    Calls Tryz.prog 79 #[.slice a n cap] w fun e w' => ∃ v', e = .returned v' ∧ Below w.heap.size w w' ∧ Co w' w.heap.size v' l := by
  have hnil := fun (w : World) (a : Option Addr) (n c : Nat) => Lib.run_eql_slice_nil (P := Tryz.prog) w 41 34 a n c 0 0 Tryz.underlying41
  have hl := h.len
  obtain ⟨hnc, hcm⟩ := h.caps
  cases a with
  | none =>
    have h0 : n = 0 := by
      obtain ⟨hs, h1, h2⟩ := h
      rcases h1.2.2.2 with h3 | ⟨b, o, e, _⟩
      · exact h3
      · cases e
    subst h0
    have hx : l = [] := List.eq_nil_of_length_eq_zero hl
    subst hx
    clear h hl
    go_enter Tryz.func79, Tryz.ntmps79
    go_wp2_with fail
    go_ret
    exact ⟨_, rfl, Below.refl _ _, Co.nil _ _⟩
  | some ad =>
    have hown0 : Co (w.alloc (.cells #[] 34)) w.heap.size (.slice (some ⟨w.heap.size, 0, none⟩) 0 0) [] := ⟨[], World.ownsRow_made w #[] 0 (Nat.le_refl _) (by decide) rfl, AllC.nil _⟩
    have HD : Hid (Cs (w.alloc (.cells #[] 34)) (some ad) n cap l) := h.below ((Below.refl w.heap.size w).alloc (Nat.le_refl _) _)
    have hn2 : ([] : List Cu).length + n ≤ 1000000000 := by simp; omega
    clear h hl
    go_enter Tryz.func79, Tryz.ntmps79
    go_wp2_with (at_builtin; refine wpList_append_co rfl (.tmp 5) (.tmp 6) rfl w.heap.size _ [] rfl hown0 (some ad) n cap l rfl HD.out hn2 (by simp) ?_)
    intro v' w1 hown' hgrow
    have hbel : Below w.heap.size w w1 := ((Below.refl _ _).alloc (Nat.le_refl _) _).grown hgrow (by simp) (fun b hb => by cases hb; exact Nat.le_refl _)
    try simp only [List.nil_append] at hown'
    clear hgrow hown0
    go_wp2_with fail
    go_ret
    exact ⟨_, rfl, hbel, hown'⟩

/-- An own row as pairs. -/
theorem Co.rw {w : World} {B : Nat} {v : Value} {l : List Cu} (h : Co w B v l) (hne : l ≠ []) : ∃ g cap ps, v = .slice (some ⟨g, 0, none⟩) l.length cap ∧ Rw w B g l.length cap ps ∧ ps.map (·.2) = l ∧ l.length ≤ cap ∧ cap ≤ 9223372036854775807 := by
  obtain ⟨hs, h1, h2⟩ := h
  have hln : hs.length = l.length := h2.1
  rcases h1.2 with ⟨rfl, h3⟩ | ⟨g, cap, cur, rfl, hg, hh, hc, hm, hsz, ht⟩
  · have : l.length = 0 := by rw [← hln]; exact h3
    exact absurd (List.eq_nil_of_length_eq_zero this) hne
  · refine ⟨g, cap, hs.zip l, by rw [hln], ⟨?_, by rw [List.length_zip, hln]; omega, fun p hp => ?_⟩, ?_, by omega, by unfold maxLen at hm; omega⟩
    · have e : (hs.zip l).map (·.1) = hs := by rw [← List.unzip_fst, List.unzip_zip_left (by omega)]
      rw [e, ← hln]; exact h1
    · obtain ⟨j, hj⟩ := List.mem_iff_getElem?.1 hp
      rw [List.getElem?_zip_eq_some] at hj
      exact h2.2 j _ _ hj.1 hj.2
    · rw [← List.unzip_snd, List.unzip_zip_right (by omega)]
theorem Rw.co {w : World} {B g n cap : Nat} {ps : List Pc} (h : Rw w B g n cap ps) : Co w B (.slice (some ⟨g, 0, none⟩) n cap) (ps.map (·.2)) := by
  refine ⟨ps.map (·.1), ?_, by simp, fun j k x hk hx => ?_⟩
  · unfold Ok
    rw [List.length_map, h.2.1]; exact h.1
  · rw [List.getElem?_map] at hk hx
    cases hp : ps[j]? with
    | none => rw [hp] at hk; cases hk
    | some p =>
      rw [hp] at hk hx
      cases hk; cases hx
      exact h.2.2 p (List.mem_of_getElem? hp)
set_option maxRecDepth 20000 in
theorem insertion_nil (v : Value) (w : World) : Calls Tryz.prog 126 #[v, .int .i64 0, .int .i64 0, .func (.func 27) #[] #[]] w fun e w' => e = .returned (.tuple #[]) ∧ w' = w := by
  go_enter Tryz.func126, Tryz.ntmps126
  go_wp2_with fail
  refine wp_loop_rounds 1 ?_
  rw [rounds_succ]
  go_wp2_with fail
  go_end0
  exact ⟨rfl, rfl⟩
set_option maxRecDepth 20000 in
theorem pdq_small (v : Value) (n : Nat) (lim : Int) (w : World) (R : World → Prop) (hn : n ≤ 12) (h : Calls Tryz.prog 126 #[v, .int .i64 0, .int .i64 (n : Nat), .func (.func 27) #[] #[]] w fun e w' => e = .returned (.tuple #[]) ∧ R w') :
    Calls Tryz.prog 105 #[v, .int .i64 0, .int .i64 (n : Nat), .int .i64 lim, .func (.func 27) #[] #[]] w fun e w' => e = .returned (.tuple #[]) ∧ R w' := by
  have H := Lib.hid h
  have h12 : (n : Int) ≤ 12 := by omega
  have h00 : (0 : Int) ≤ (n : Int) := by omega
  clear h
  go_enter Tryz.func105, Tryz.ntmps105
  go_wp2_with fail
  refine wp_loop_rounds 1 ?_
  rw [rounds_succ]
  go_wp2_with (go_at_call 126; refine H.out.mono ?_; rintro e w1 ⟨rfl, hR⟩; have HR := Lib.hid hR; clear hR)
  refine bodyPost_ret (results_none rfl _ _ _) rfl ?_
  exact ⟨rfl, HR.out⟩
set_option maxRecDepth 20000 in
theorem sortF_small (a : Option Addr) (n cap : Nat) (w : World) (R : World → Prop) (hn : n ≤ 12) (h : Calls Tryz.prog 126 #[.slice a n cap, .int .i64 0, .int .i64 (n : Nat), .func (.func 27) #[] #[]] w fun e w' => e = .returned (.tuple #[]) ∧ R w') :
    Calls Tryz.prog 80 #[.slice a n cap, .func (.func 27) #[] #[]] w fun e w' => e = .returned (.tuple #[]) ∧ R w' := by
  have H := Lib.hid h
  have HP := Lib.hid (fun lim => pdq_small (.slice a n cap) n lim w R hn h)
  have hbl := fun W => Tryz.bits_Len (n : Int) W (by omega) (by omega)
  have hwr : IntKind.u64.wrap (n : Int) = n := by rw [IntKind.wrap_u64]; omega
  generalize Lib.bitLen (n : Int).toNat = bl at hbl
  have HBL := Lib.hid hbl
  clear h hbl
  go_enter Tryz.func80, Tryz.ntmps80
  go_wp2_with (first
    | (go_at_call 106; refine (HBL.out _).mono ?_; rintro e w1 ⟨rfl, rfl⟩)
    | (go_at_call 105; refine (HP.out _).mono ?_; rintro e w1 ⟨rfl, hR⟩; have HR := Lib.hid hR; clear hR))
  go_end0
  exact ⟨rfl, HR.out⟩
theorem sortC_any (B : Nat) (v : Value) (l : List Cu) (w : World) (h : Co w B v l) (hT : Tz w) (hB : B ≤ w.heap.size) (hn : l.length ≤ 12) (hTB : 1 < B) :
    Calls Tryz.prog 80 #[v, .func (.func 27) #[] #[]] w fun e w' => e = .returned (.tuple #[]) ∧ ((∃ l', Co w' B v l' ∧ l'.Perm l ∧ l'.Pairwise fun a b => cmpC a b ≤ 0) ∧ Below B w w') := by
  by_cases hl : l = []
  · subst hl
    obtain ⟨a, n, cap, rfl, hz, _⟩ := h.dn
    obtain rfl : n = 0 := hz
    exact sortF_small a 0 cap w _ (by omega) ((insertion_nil _ w).mono fun e w' ⟨he, hw⟩ => ⟨he, ⟨[], by rw [hw]; exact h, List.Perm.refl _, List.Pairwise.nil⟩, by rw [hw]; exact Below.refl _ _⟩)
  · obtain ⟨g, cap, ps, rfl, hr, hps, hc1, hc2⟩ := h.rw hl
    refine sortF_small (some ⟨g, 0, none⟩) l.length cap w _ hn ((insertion_any B g l.length cap ps w hr hT hB hn hc2 hc1 hTB).mono ?_)
    rintro e w' ⟨he, ⟨qs, hq, hp, hs⟩, hb⟩
    refine ⟨he, ⟨qs.map (·.2), hq.co, ?_, ?_⟩, hb⟩
    · rw [← hps]; exact hp.map _
    · rw [List.pairwise_map]; exact hs

/-! CompactFunc -/
theorem Rw.shrink {w : World} {B g n cap k : Nat} {ps : List Pc} (h : Rw w B g n cap ps) (hk : k ≤ n) : Rw w B g k cap (ps.take k) := by
  obtain ⟨h1, h2, h3⟩ := h
  refine ⟨⟨?_, ?_⟩, by rw [List.length_take, h2]; omega, fun p hp => h3 p (List.mem_of_mem_take hp)⟩
  · rw [flatE_length, List.length_map, List.length_take, h2]; congr 1; omega
  · rcases h1.2 with ⟨e, _⟩ | ⟨g', cap', cur, e, hg, hh, hc, hm, hsz, ht⟩
    · cases e
    · cases e
      refine .inr ⟨g, _, cur, rfl, hg, hh, by omega, hm, hsz, ?_⟩
      have e1 : flatE hdE ((ps.take k).map (·.1)) = (flatE hdE (ps.map (·.1))).take (k * 2) := by
        apply List.ext_getElem?
        intro i
        rw [List.getElem?_take]
        split
        · rename_i hi
          obtain ⟨p, hp⟩ : ∃ p, ps[i / 2]? = some p := ⟨_, List.getElem?_eq_getElem (by omega)⟩
          have hq : (ps.take k)[i / 2]? = some p := by rw [List.getElem?_take_of_lt (by omega)]; exact hp
          have a1 := flatE_get (E := hdE) ((ps.take k).map (·.1)) (i / 2) (i % 2) p.1 (by rw [List.getElem?_map, hq]; rfl) (by omega)
          have a2 := flatE_get (E := hdE) (ps.map (·.1)) (i / 2) (i % 2) p.1 (by rw [List.getElem?_map, hp]; rfl) (by omega)
          rw [show i / 2 * 2 + i % 2 = i by omega] at a1 a2
          rw [a1, a2]
        · rename_i hi
          exact List.getElem?_eq_none (by rw [flatE_length, List.length_map, List.length_take]; omega)
      rw [e1, ← ht, List.take_take]
      congr 1; omega
theorem Rw.setOut {w : World} {B g n cap k : Nat} {ps : List Pc} (h : Rw w B g k cap ps) {j : Nat} (hj : k * 2 ≤ j) {x : Value} (hx : w.cell? ⟨g, j, none⟩ = some x) (hs : ∀ z : Int, x ≠ .int .u64 z) (u : Value) : Rw (w.setCell ⟨g, j, none⟩ u) B g k cap ps := by
  obtain ⟨h1, h2, h3⟩ := h
  have s1 := (World.ownsRow.stored h1 j u).1
  rw [List.set_eq_of_length_le (by rw [h1.1]; exact hj)] at s1
  exact ⟨s1, h2, fun p hp => ⟨(h3 p hp).1.set hx hs, (h3 p hp).2.set hx hs⟩⟩
theorem Rw.setsOut {B g cap k : Nat} {ps : List Pc} : ∀ (vs : List Value) (o : Nat) (w : World), Rw w B g k cap ps → k * 2 ≤ o → (∀ j, j < vs.length → ∃ a n c, w.cell? ⟨g, o + j, none⟩ = some (.slice a n c)) → Rw (w.setCells g o vs) B g k cap ps
  | [], o, w, h, _, _ => h
  | v :: r, o, w, h, ho, hc => by
    rw [World.setCells]
    obtain ⟨a, n, c, h0⟩ := hc 0 (by simp)
    refine Rw.setsOut r (o + 1) _ (h.setOut (n := 0) ho (by simpa using h0) (fun z e => by cases e) v) (by omega) fun j hj => ?_
    obtain ⟨a, n, c, h1⟩ := hc (j + 1) (by simp; omega)
    refine ⟨a, n, c, ?_⟩
    rw [World.cell?_setCell_other _ _ _ _ (fun e => by injection e with e1 e2; omega), ← h1]
    congr 2; omega
theorem below_sets {N g : Nat} (hg : N ≤ g) : ∀ (vs : List Value) (o : Nat) (w w' : World), Below N w w' → Below N w (w'.setCells g o vs)
  | [], _, _, _, h => h
  | v :: r, o, w, w', h => below_sets hg r (o + 1) w _ (h.setCell (p := ⟨g, o, none⟩) hg v)
/-- clear of cubes. -/
theorem run_clear_cubes (w : World) (ty : TypeId) (b o n c : Nat) (hn : 0 < n) (hc : ∀ j, j < n * 2 → (w.cell? ⟨b, o + j, none⟩).isSome = true) (hf : ∀ j, j < n * 2 → w.frozen? ⟨b, o + j, none⟩ = false) :
    ∃ vs : List Value, vs.length = n * 2 ∧ (Builtin.clear_ #[41] ty #[.slice (some ⟨b, o, none⟩) n c]).run Tryz.prog w = .ok (.tuple #[]) (w.setCells b o vs) := by
  have hv : ∀ w, (zeroValue 34).run Tryz.prog w = .ok (.agg #[.slice none 0 0, .slice none 0 0]) w := Tryz.zeroValue34
  have hl : (Builtin.zeroCells (Value.agg #[.slice none 0 0, .slice none 0 0]).cells n).toList.length = n * 2 := by simp [Builtin.zeroCells, Value.cells]
  have h1 : ∀ v ∈ (Builtin.zeroCells (Value.agg #[.slice none 0 0, .slice none 0 0]).cells n).toList, v.oneCell' = true := by
    intro v hv'
    simp only [Builtin.zeroCells, Value.cells, Array.toList_map, List.mem_map] at hv'
    obtain ⟨i, _, rfl⟩ := hv'
    rcases Nat.mod_two_eq_zero_or_one i with h | h
    · simp [h, Value.oneCell']
    · simp [h, Value.oneCell']
  have hst := run_storeCells_cells (P := Tryz.prog) b o (Builtin.zeroCells (Value.agg #[.slice none 0 0, .slice none 0 0]).cells n).toList 0 w (by rw [hl]; simpa using hc) (by rw [hl]; simpa using hf) h1
  refine ⟨_, hl, ?_⟩
  simp only [Nat.add_zero] at hst
  obtain ⟨m, rfl⟩ : ∃ m, n = m + 1 := ⟨n - 1, by omega⟩
  simp [Builtin.clear_, run_underlying Tryz.underlying41, hv, hst]
def firstDup (l : List Cu) : Prop := True
theorem dedup_snoc_eq : ∀ (l : List Cu) (x : Cu), dedup (l ++ [x] ++ [x]) = dedup (l ++ [x])
  | [], x => by simp [dedup]
  | [y], x => by
    simp only [List.cons_append, List.nil_append, dedup]
    split <;> simp [dedup]
  | y :: z :: l, x => by
    have ih := dedup_snoc_eq (z :: l) x
    simp only [List.cons_append] at ih ⊢
    unfold dedup
    rw [ih]
theorem dedup_snoc_ne : ∀ (l : List Cu) (y x : Cu), y ≠ x → dedup (l ++ [y] ++ [x]) = dedup (l ++ [y]) ++ [x]
  | [], y, x, h => by simp [dedup, h]
  | [z], y, x, h => by
    simp only [List.cons_append, List.nil_append, dedup, if_neg h]
    split <;> simp [dedup, h]
  | z :: u :: l, y, x, h => by
    have ih := dedup_snoc_ne (u :: l) y x h
    simp only [List.cons_append] at ih ⊢
    unfold dedup
    rw [ih]
    split <;> rfl
theorem dedup_take_eq {l : List Cu} {t : Nat} {x : Cu} (h0 : l[t]? = some x) (h1 : l[t + 1]? = some x) : dedup (l.take (t + 2)) = dedup (l.take (t + 1)) := by
  rw [take_at' h1, take_at' h0]; exact dedup_snoc_eq _ _
theorem dedup_take_ne {l : List Cu} {t : Nat} {x y : Cu} (h0 : l[t]? = some y) (h1 : l[t + 1]? = some x) (hne : y ≠ x) : dedup (l.take (t + 2)) = dedup (l.take (t + 1)) ++ [x] := by
  rw [take_at' h1, take_at' h0]; exact dedup_snoc_ne _ _ _ hne
end Go.Proofs.YtadomogbakcokaaGreatDoor
end

section
/- Contract: slices.CompactFunc of cubes. -/
namespace Go.Proofs.YtadomogbakcokaaGreatDoor
open Go.RowKit Go.PlainAid
set_option linter.unusedVariables false
set_option linter.unusedSimpArgs false
set_option maxHeartbeats 4000000

theorem wpList_clear_co {w : World} {ops : Array Oper} {rest : List Oper} {o : Oper} {a : Act} {Q : Exit → Act → World → Prop} (hgd : o.guard = none) (x : Operand)
    (ho : o.op = .call { callee := .builtin .clear, args := #[x], argTypes := #[41] }) (b f n c : Nat) (hx : a.eval x = .slice (some ⟨b, f, none⟩) n c) (hn : 0 < n) (hc : ∀ j, j < n * 2 → (w.cell? ⟨b, f + j, none⟩).isSome = true) (hf : ∀ j, j < n * 2 → w.frozen? ⟨b, f + j, none⟩ = false)
    (hK : ∀ vs : List Value, vs.length = n * 2 → wpList Tryz.prog ops Q rest (a.put o.dst (.tuple #[])) (w.setCells b f vs)) : wpList Tryz.prog ops Q (o :: rest) a w := by
  refine wpList_plain hgd fun K hK' => ?_
  obtain ⟨vs, hl, hr⟩ := run_clear_cubes w o.type b f n c hn hc hf
  unfold Oper.wp
  simp [execOp, ho, resolve, invoke, builtin, hx, hr, Result.andThen]
  exact hK' _ _ (hK vs hl)
theorem cell_any {w : World} {B g n cap : Nat} {ps : List Pc} (h : Rw w B g n cap ps) {i : Nat} (hi : i < n * 2) : ∃ a m c, w.cell? ⟨g, i, none⟩ = some (.slice a m c) := by
  obtain ⟨⟨⟨xa, xn, xc, xb, xm, xd⟩, x⟩, hp⟩ : ∃ p, ps[i / 2]? = some p := ⟨_, List.getElem?_eq_getElem (by rw [h.2.1]; omega)⟩
  obtain ⟨c0, c1⟩ := h.cell hp
  rcases Nat.mod_two_eq_zero_or_one i with h0 | h0
  · exact ⟨_, _, _, by rw [show i = i / 2 * 2 by omega]; exact c0⟩
  · exact ⟨_, _, _, by rw [show i = i / 2 * 2 + 1 by omega]; exact c1⟩
theorem compact_short (a : Option Addr) (n cap : Nat) (f : Value) (w : World) (hn : n < 2) : Calls Tryz.prog 81 #[.slice a n cap, f] w fun e w' => e = .returned (.slice a n cap) ∧ w' = w := by
  have h2 : (n : Int) < 2 := by omega
  go_enter Tryz.func81, Tryz.ntmps81
  go_wp2_with fail
  go_ret
  exact ⟨rfl, rfl⟩
/-- The result of Compact. -/
def CompP (B : Nat) (l : List Cu) (w : World) (e : Ending) (w' : World) : Prop := ∃ v', e = .returned v' ∧ Co w' B v' (dedup l) ∧ Below B w w'
set_option maxRecDepth 20000 in
theorem compact_long (B g n cap : Nat) (ps : List Pc) (l : List Cu) (w : World) (h : Rw w B g n cap ps) (hl : ps.map (·.2) = l) (hB : B ≤ w.heap.size) (hn2 : 2 ≤ n) (hn : n ≤ 1000000) (hnc : n ≤ cap) (hcm : cap ≤ 9223372036854775807) :
    Calls Tryz.prog 81 #[.slice (some ⟨g, 0, none⟩) n cap, .func (.func 29) #[] #[]] w (CompP B l w) := by
  have HR := Lib.hid h
  have HL := Lib.hid hl
  have hlt := h.lt
  have HPL : Hid (ps.length = n) := h.2.1
  have hlx : ∀ (j : Nat) (p : Pc), ps[j]? = some p → l[j]? = some p.2 := fun j p hp => by rw [← hl, List.getElem?_map, hp]; rfl
  have HLX := Lib.hid hlx
  have HLN : Hid (l.length = n) := by show _ = _; rw [← hl, List.length_map]; exact h.2.1
  have hn3 : ¬ (n : Int) < 2 := by omega
  have hBn := Nat.le_trans hlt.1 (Nat.le_of_lt hlt.2)
  clear h hl hlx
  go_enter Tryz.func81, Tryz.ntmps81
  go_wp2_with fail
  go_loopw [5] (fun v wr => ∃ m : Nat, m + 1 ≤ n ∧ v = .int .i64 ((m : Int) + 1) ∧ Hid (dedup (l.take (m + 1)) = l.take (m + 1)) ∧ Hid (Below w.heap.size w wr)) (fun v _ => n - (intOf v).toNat)
  case atStart => exact ⟨0, by omega, by rfl, by
    show _ = _
    obtain ⟨x, hx⟩ : ∃ x, l[0]? = some x := ⟨_, List.getElem?_eq_getElem (by rw [HLN.out]; omega)⟩
    rw [take_at' hx]; rfl, Below.refl _ _⟩
  case round =>
    obtain ⟨m, hm, rfl, hded, hB1⟩ := hrel
    have hRr := Lib.hid (HR.out.below hB1.out)
    have hm0 : (0 : Int) ≤ (m : Int) := Int.natCast_nonneg _
    have hm4 : (0 : Int) ≤ (m : Int) + 1 := by omega
    by_cases hmn : m + 1 < n
    · obtain ⟨⟨⟨xa, xn, xc, xb, xm, xd⟩, x⟩, hx⟩ : ∃ p, ps[m + 1]? = some p := ⟨_, List.getElem?_eq_getElem (by rw [HPL.out]; exact hmn)⟩
      obtain ⟨⟨⟨ya, yn, yc, yb, ym, yd⟩, y⟩, hy⟩ : ∃ p, ps[m]? = some p := ⟨_, List.getElem?_eq_getElem (by rw [HPL.out]; omega)⟩
      have HX := Lib.hid hx
      have HY := Lib.hid hy
      have HQ : Hid (∀ w', Below wr.heap.size wr w' → w'.cell? ⟨g, (m + 1) * 2, none⟩ = some (.slice xa xn xc) ∧ w'.cell? ⟨g, (m + 1) * 2 + 1, none⟩ = some (.slice xb xm xd) ∧ w'.cell? ⟨g, m * 2, none⟩ = some (.slice ya yn yc) ∧ w'.cell? ⟨g, m * 2 + 1, none⟩ = some (.slice yb ym yd)) :=
        fun w' hb => ⟨((hRr.out.below hb).cell HX.out).1, ((hRr.out.below hb).cell HX.out).2, ((hRr.out.below hb).cell HY.out).1, ((hRr.out.below hb).cell HY.out).2⟩
      have hq := HQ.out wr (Below.refl _ _)
      have HEQ := Lib.hid (equalC_any xa xb ya yb xn xc xm xd yn yc ym yd x y wr.drew ((hRr.out.2.2 _ (List.mem_of_getElem? HX.out)).below (Below.refl _ _).drew) ((hRr.out.2.2 _ (List.mem_of_getElem? HY.out)).below (Below.refl _ _).drew))
      have hm1 : (m : Int) + 1 < (n : Int) := by omega
      have hm2 : (m : Int) < (n : Int) := by omega
      have hlx := HLX.out _ _ hx
      have hly := HLX.out _ _ hy
      dsimp only at hlx hly
      by_cases hxy : x = y
      · have hd : decide (x = y) = true := decide_eq_true hxy
        rw [hd] at HEQ
        have HD : Hid (dedup (l.take (m + 2)) = l.take (m + 1)) := by
          show _ = _
          rw [dedup_take_eq (x := x) (by rw [hly, hxy]) hlx]; exact hded.out
        clear hd hx hy hlx hly hded hxy
        have hwr : IntKind.i64.wrap (m : Int) = m := by rw [IntKind.wrap_i64]; omega
        go_wp2_with fail
        refine wp_region_noPanic ?_
        refine wp_region_held_drew (S := fun w' => w'.cell? ⟨g, (m + 1) * 2, none⟩ = some (.slice xa xn xc) ∧ w'.cell? ⟨g, (m + 1) * 2 + 1, none⟩ = some (.slice xb xm xd) ∧ w'.cell? ⟨g, m * 2, none⟩ = some (.slice ya yn yc) ∧ w'.cell? ⟨g, m * 2 + 1, none⟩ = some (.slice yb ym yd)) (by kernel_rfl) (hq) (fun hS0 => ?_)
        refine' wpAnyH_take (i := 0) (v := _) rfl (by kernel_rfl) (by kernel_rfl) (by kernel_rfl) (fun _ _ _ h => h) (Or.inl ⟨by rfl, fun w' hSw => ?_⟩) hS0 ?_; rotate_left; (focus ((try dsimp only at hSw); go_simp <;> (with_reducible rfl))); (try simp only [List.getElem_toArray, List.getElem_cons_succ, List.getElem_cons_zero, Act.put, List.setIfInBounds_toArray, List.set_cons_zero, List.set_cons_succ])
        refine' wpAnyH_take (i := 1) (v := _) rfl (by kernel_rfl) (by kernel_rfl) (by kernel_rfl) (fun _ _ _ h => h) (Or.inl ⟨by rfl, fun w' hSw => ?_⟩) hS0 ?_; rotate_left; (focus ((try dsimp only at hSw); go_simp <;> (with_reducible rfl))); (try simp only [List.getElem_toArray, List.getElem_cons_succ, List.getElem_cons_zero, Act.put, List.setIfInBounds_toArray, List.set_cons_zero, List.set_cons_succ])
        refine' wpAnyH_take (i := 2) (v := _) rfl (by kernel_rfl) (by kernel_rfl) (by kernel_rfl) (fun _ _ _ h => h) (Or.inl ⟨by rfl, fun w' hSw => ?_⟩) hS0 ?_; rotate_left; (focus ((try dsimp only at hSw); go_simp <;> (with_reducible rfl))); (try simp only [List.getElem_toArray, List.getElem_cons_succ, List.getElem_cons_zero, Act.put, List.setIfInBounds_toArray, List.set_cons_zero, List.set_cons_succ])
        refine' wpAnyH_take (i := 3) (v := _) rfl (by kernel_rfl) (by kernel_rfl) (by kernel_rfl) (fun _ _ _ h => h) (Or.inl ⟨by rfl, fun w' hSw => ?_⟩) hS0 ?_; rotate_left; (focus ((try dsimp only at hSw); go_simp <;> (with_reducible rfl))); (try simp only [List.getElem_toArray, List.getElem_cons_succ, List.getElem_cons_zero, Act.put, List.setIfInBounds_toArray, List.set_cons_zero, List.set_cons_succ])
        refine' wpAnyH_take (i := 4) (v := _) rfl (by kernel_rfl) (by kernel_rfl) (by kernel_rfl) (fun _ _ _ h => h) (Or.inl ⟨by rfl, fun w' hSw => ?_⟩) hS0 ?_; rotate_left; (focus ((try dsimp only at hSw); go_simp <;> (with_reducible rfl))); (try simp only [List.getElem_toArray, List.getElem_cons_succ, List.getElem_cons_zero, Act.put, List.setIfInBounds_toArray, List.set_cons_zero, List.set_cons_succ])
        refine' wpAnyH_take (i := 5) (v := _) rfl (by kernel_rfl) (by kernel_rfl) (by kernel_rfl) (fun _ _ _ h => h) (Or.inl ⟨by rfl, fun w' hSw => ?_⟩) hS0 ?_; rotate_left; (focus ((try dsimp only at hSw); go_simp <;> (with_reducible rfl))); (try simp only [List.getElem_toArray, List.getElem_cons_succ, List.getElem_cons_zero, Act.put, List.setIfInBounds_toArray, List.set_cons_zero, List.set_cons_succ])
        refine' wpAnyH_take (i := 6) (v := _) rfl (by kernel_rfl) (by kernel_rfl) (by kernel_rfl) (fun _ _ _ h => h) (Or.inl ⟨by rfl, fun w' hSw => ?_⟩) hS0 ?_; rotate_left; (focus ((try dsimp only at hSw); go_simp <;> (with_reducible rfl))); (try simp only [List.getElem_toArray, List.getElem_cons_succ, List.getElem_cons_zero, Act.put, List.setIfInBounds_toArray, List.set_cons_zero, List.set_cons_succ])
        refine' wpAnyH_take (i := 7) (v := _) rfl (by kernel_rfl) (by kernel_rfl) (by kernel_rfl) (fun _ _ _ h => h) (Or.inl ⟨by rfl, fun w' hSw => ?_⟩) hS0 ?_; rotate_left; (focus ((try dsimp only at hSw); go_simp <;> (with_reducible rfl))); (try simp only [List.getElem_toArray, List.getElem_cons_succ, List.getElem_cons_zero, Act.put, List.setIfInBounds_toArray, List.set_cons_zero, List.set_cons_succ])
        refine' wpAnyH_take (i := 8) (v := _) rfl (by kernel_rfl) (by kernel_rfl) (by kernel_rfl) (fun _ _ _ h => h) (Or.inl ⟨by rfl, fun w' hSw => ?_⟩) hS0 ?_; rotate_left; (focus ((try dsimp only at hSw); go_simp <;> (with_reducible rfl))); (try simp only [List.getElem_toArray, List.getElem_cons_succ, List.getElem_cons_zero, Act.put, List.setIfInBounds_toArray, List.set_cons_zero, List.set_cons_succ])
        refine' wpAnyH_take (i := 9) (v := _) rfl (by kernel_rfl) (by kernel_rfl) (by kernel_rfl) (fun _ _ _ h => h) (Or.inl ⟨by rfl, fun w' hSw => ?_⟩) hS0 ?_; rotate_left; (focus ((try dsimp only at hSw); go_simp <;> (with_reducible rfl))); (try simp only [List.getElem_toArray, List.getElem_cons_succ, List.getElem_cons_zero, Act.put, List.setIfInBounds_toArray, List.set_cons_zero, List.set_cons_succ])
        refine wpAnyH_ready (rs := [10]) (by kernel_rfl) (by simp) ?_
        refine AllReadyH.cons rfl (fun K hK => ?_) AllReadyH.nil
        go_simp; go_at_call 29; (with_reducible refine HEQ.out.mono ?_); rintro e w5 ⟨rfl, hb5⟩; have hBr' := (Below.refl wr.heap.size wr).drew.trans (hb5.mono (Nat.le_refl _)); have hq5 := HQ.out w5 hBr'; (try go_wp2_with fail); refine hK.out _ _ (hq5) (fun hS1 => ?_); clear hK K; (try simp only [List.getElem_toArray, List.getElem_cons_succ, List.getElem_cons_zero, Act.put, List.setIfInBounds_toArray, List.set_cons_zero, List.set_cons_succ])
        refine wpAnyH_done (by kernel_rfl) (NoPanic.normal ?_) _
        obtain ⟨k0, hk0⟩ : ∃ k0, k0 = m + 1 := ⟨_, rfl⟩
        have HK0 := Lib.hid hk0
        have hR5 := Lib.hid (hRr.out.below hBr')
        have hB5 := Lib.hid (hB1.out.trans (hBr'.mono hB1.out.size))
        have hcap1 : m + 1 < cap := by omega
        have hcap2 : ¬ cap = m + 1 := by omega
        have hcap3 : (m : Int) + 1 ≤ (cap : Int) := by omega
        have hcap4 : (m : Int) + 1 ≤ (n : Int) := by omega
        clear hq HQ HEQ hS0 hb5 hq5 HX HY hBr' hRr hB1
        go_wp2_with fail
        generalize hqe : n - (m + 1) = q
        generalize hce : cap - (m + 1) = cq
        generalize hoe : (m + 1) * 2 = o2
        have HQE := Lib.hid hqe
        have HOE := Lib.hid hoe
        have hqn : q + (m + 1) = n := by omega
        have HQN := Lib.hid hqn
        have hq1 : 1 ≤ q := by omega
        have hqm : q ≤ 1000000 := by omega
        clear hqe hce hoe hwr hcap1 hcap2 hcap3 hcap4 hm1 hm2 hm4 hmn hk0 hqn
        go_loopw [5, 7] (fun v5 v7 wr => ∃ (j K : Nat) (ps' : List Pc), j + 1 ≤ q ∧ v7 = .int .i64 ((j : Int) + 1) ∧ v5 = .int .i64 (K : Nat) ∧ K ≤ m + 1 + j ∧ Hid (Rw wr B g n cap ps') ∧ Hid ((ps'.take K).map (·.2) = dedup (l.take (m + 1 + j + 1))) ∧ Hid (∀ i, m + 1 + j ≤ i → ps'[i]? = ps[i]?) ∧ Hid (Below B w wr)) (fun _ v7 _ => q - (intOf v7).toNat)
        case atStart => exact ⟨0, m + 1, ps, hq1, rfl, by go_num, Nat.le_refl _, hR5.out, by show _ = _; rw [show m + 1 + 0 + 1 = m + 2 by omega, HD.out, List.map_take, HL.out], fun i _ => rfl, hB5.out.mono hB⟩
        case round =>
          clear hR5 hB5
          obtain ⟨j, K, ps', hj, rfl, rfl, hK, hRj, hTk, hSm, hBj⟩ := hrel
          have hj0 : (0 : Int) ≤ (j : Int) := Int.natCast_nonneg _
          have hj4 : (0 : Int) ≤ (j : Int) + 1 := by omega
          have hltj := hRj.out.lt
          have hBg := Nat.le_trans hltj.1 (Nat.le_of_lt hltj.2)
          by_cases hjq : j + 1 < q
          · obtain ⟨⟨⟨xa, xn, xc, xb, xm, xd⟩, x⟩, hx⟩ : ∃ p, ps[m + 1 + j + 1]? = some p := ⟨_, List.getElem?_eq_getElem (by rw [HPL.out, ← HQN.out]; omega)⟩
            obtain ⟨⟨⟨ya, yn, yc, yb, ym, yd⟩, y⟩, hy⟩ : ∃ p, ps[m + 1 + j]? = some p := ⟨_, List.getElem?_eq_getElem (by rw [HPL.out, ← HQN.out]; omega)⟩
            have HX : Hid (ps'[m + 1 + j + 1]? = _) := (hSm.out (m + 1 + j + 1) (by omega)).trans hx
            have HY : Hid (ps'[m + 1 + j]? = _) := (hSm.out (m + 1 + j) (Nat.le_refl _)).trans hy
            have hlx := HLX.out _ _ hx
            have hly := HLX.out _ _ hy
            dsimp only at hlx hly
            have e1 : (m + 1 + j + 1) * 2 = o2 + (j + 1) * 2 := by rw [← HOE.out]; omega
            have e2 : (m + 1 + j) * 2 = o2 + j * 2 := by rw [← HOE.out]; omega
            have HQ : Hid (∀ w', Below wr.heap.size wr w' → w'.cell? ⟨g, o2 + (j + 1) * 2, none⟩ = some (.slice xa xn xc) ∧ w'.cell? ⟨g, o2 + (j + 1) * 2 + 1, none⟩ = some (.slice xb xm xd) ∧ w'.cell? ⟨g, o2 + j * 2, none⟩ = some (.slice ya yn yc) ∧ w'.cell? ⟨g, o2 + j * 2 + 1, none⟩ = some (.slice yb ym yd)) := fun w' hb => by
              obtain ⟨u1, u2⟩ := (hRj.out.below hb).cell HX.out
              obtain ⟨u3, u4⟩ := (hRj.out.below hb).cell HY.out
              rw [e1] at u1 u2
              rw [e2] at u3 u4
              exact ⟨u1, u2, u3, u4⟩
            have hq := HQ.out wr (Below.refl _ _)
            have HCX := Lib.hid (hRj.out.2.2 _ (List.mem_of_getElem? HX.out))
            have HEQ := Lib.hid (equalC_any xa xb ya yb xn xc xm xd yn yc ym yd x y wr.drew (HCX.out.below (Below.refl _ _).drew) ((hRj.out.2.2 _ (List.mem_of_getElem? HY.out)).below (Below.refl _ _).drew))
            have hj1 : (j : Int) + 1 < (q : Int) := by omega
            have hj2 : (j : Int) < (q : Int) := by omega
            clear hx hy e1 e2
            by_cases hxy : x = y
            · have hd : decide (x = y) = true := decide_eq_true hxy
              rw [hd] at HEQ
              have HD2 : Hid ((ps'.take K).map (·.2) = dedup (l.take (m + 1 + (j + 1) + 1))) := by
                show _ = _
                rw [hTk.out, show m + 1 + (j + 1) + 1 = m + 1 + j + 2 by omega, dedup_take_eq (x := x) (by rw [hly, hxy]) hlx]
              clear hd hlx hly hxy
              have hwr : IntKind.i64.wrap (j : Int) = j := by rw [IntKind.wrap_i64]; omega
              go_wp2_with fail
              refine wp_region_noPanic ?_
              refine wp_region_held_drew (S := fun w' => w'.cell? ⟨g, o2 + (j + 1) * 2, none⟩ = some (.slice xa xn xc) ∧ w'.cell? ⟨g, o2 + (j + 1) * 2 + 1, none⟩ = some (.slice xb xm xd) ∧ w'.cell? ⟨g, o2 + j * 2, none⟩ = some (.slice ya yn yc) ∧ w'.cell? ⟨g, o2 + j * 2 + 1, none⟩ = some (.slice yb ym yd)) (by kernel_rfl) (hq) (fun hS0 => ?_)
              refine' wpAnyH_take (i := 0) (v := _) rfl (by kernel_rfl) (by kernel_rfl) (by kernel_rfl) (fun _ _ _ h => h) (Or.inl ⟨by rfl, fun w' hSw => ?_⟩) hS0 ?_; rotate_left; (focus ((try dsimp only at hSw); go_simp <;> (with_reducible rfl))); (try simp only [List.getElem_toArray, List.getElem_cons_succ, List.getElem_cons_zero, Act.put, List.setIfInBounds_toArray, List.set_cons_zero, List.set_cons_succ])
              refine' wpAnyH_take (i := 1) (v := _) rfl (by kernel_rfl) (by kernel_rfl) (by kernel_rfl) (fun _ _ _ h => h) (Or.inl ⟨by rfl, fun w' hSw => ?_⟩) hS0 ?_; rotate_left; (focus ((try dsimp only at hSw); go_simp <;> (with_reducible rfl))); (try simp only [List.getElem_toArray, List.getElem_cons_succ, List.getElem_cons_zero, Act.put, List.setIfInBounds_toArray, List.set_cons_zero, List.set_cons_succ])
              refine' wpAnyH_take (i := 2) (v := _) rfl (by kernel_rfl) (by kernel_rfl) (by kernel_rfl) (fun _ _ _ h => h) (Or.inl ⟨by rfl, fun w' hSw => ?_⟩) hS0 ?_; rotate_left; (focus ((try dsimp only at hSw); go_simp <;> (with_reducible rfl))); (try simp only [List.getElem_toArray, List.getElem_cons_succ, List.getElem_cons_zero, Act.put, List.setIfInBounds_toArray, List.set_cons_zero, List.set_cons_succ])
              refine' wpAnyH_take (i := 3) (v := _) rfl (by kernel_rfl) (by kernel_rfl) (by kernel_rfl) (fun _ _ _ h => h) (Or.inl ⟨by rfl, fun w' hSw => ?_⟩) hS0 ?_; rotate_left; (focus ((try dsimp only at hSw); go_simp <;> (with_reducible rfl))); (try simp only [List.getElem_toArray, List.getElem_cons_succ, List.getElem_cons_zero, Act.put, List.setIfInBounds_toArray, List.set_cons_zero, List.set_cons_succ])
              refine' wpAnyH_take (i := 4) (v := _) rfl (by kernel_rfl) (by kernel_rfl) (by kernel_rfl) (fun _ _ _ h => h) (Or.inl ⟨by rfl, fun w' hSw => ?_⟩) hS0 ?_; rotate_left; (focus ((try dsimp only at hSw); go_simp <;> (with_reducible rfl))); (try simp only [List.getElem_toArray, List.getElem_cons_succ, List.getElem_cons_zero, Act.put, List.setIfInBounds_toArray, List.set_cons_zero, List.set_cons_succ])
              refine' wpAnyH_take (i := 5) (v := _) rfl (by kernel_rfl) (by kernel_rfl) (by kernel_rfl) (fun _ _ _ h => h) (Or.inl ⟨by rfl, fun w' hSw => ?_⟩) hS0 ?_; rotate_left; (focus ((try dsimp only at hSw); go_simp <;> (with_reducible rfl))); (try simp only [List.getElem_toArray, List.getElem_cons_succ, List.getElem_cons_zero, Act.put, List.setIfInBounds_toArray, List.set_cons_zero, List.set_cons_succ])
              refine' wpAnyH_take (i := 6) (v := _) rfl (by kernel_rfl) (by kernel_rfl) (by kernel_rfl) (fun _ _ _ h => h) (Or.inl ⟨by rfl, fun w' hSw => ?_⟩) hS0 ?_; rotate_left; (focus ((try dsimp only at hSw); go_simp <;> (with_reducible rfl))); (try simp only [List.getElem_toArray, List.getElem_cons_succ, List.getElem_cons_zero, Act.put, List.setIfInBounds_toArray, List.set_cons_zero, List.set_cons_succ])
              refine' wpAnyH_take (i := 7) (v := _) rfl (by kernel_rfl) (by kernel_rfl) (by kernel_rfl) (fun _ _ _ h => h) (Or.inl ⟨by rfl, fun w' hSw => ?_⟩) hS0 ?_; rotate_left; (focus ((try dsimp only at hSw); go_simp <;> (with_reducible rfl))); (try simp only [List.getElem_toArray, List.getElem_cons_succ, List.getElem_cons_zero, Act.put, List.setIfInBounds_toArray, List.set_cons_zero, List.set_cons_succ])
              refine' wpAnyH_take (i := 8) (v := _) rfl (by kernel_rfl) (by kernel_rfl) (by kernel_rfl) (fun _ _ _ h => h) (Or.inl ⟨by rfl, fun w' hSw => ?_⟩) hS0 ?_; rotate_left; (focus ((try dsimp only at hSw); go_simp <;> (with_reducible rfl))); (try simp only [List.getElem_toArray, List.getElem_cons_succ, List.getElem_cons_zero, Act.put, List.setIfInBounds_toArray, List.set_cons_zero, List.set_cons_succ])
              refine' wpAnyH_take (i := 9) (v := _) rfl (by kernel_rfl) (by kernel_rfl) (by kernel_rfl) (fun _ _ _ h => h) (Or.inl ⟨by rfl, fun w' hSw => ?_⟩) hS0 ?_; rotate_left; (focus ((try dsimp only at hSw); go_simp <;> (with_reducible rfl))); (try simp only [List.getElem_toArray, List.getElem_cons_succ, List.getElem_cons_zero, Act.put, List.setIfInBounds_toArray, List.set_cons_zero, List.set_cons_succ])
              refine wpAnyH_ready (rs := [10]) (by kernel_rfl) (by simp) ?_
              refine AllReadyH.cons rfl (fun K hK => ?_) AllReadyH.nil
              go_simp; go_at_call 29; (with_reducible refine HEQ.out.mono ?_); rintro e w5 ⟨rfl, hb5⟩; have hBr' := (Below.refl wr.heap.size wr).drew.trans (hb5.mono (Nat.le_refl _)); have hq5 := HQ.out w5 hBr'; (try go_wp2_with fail); refine hK.out _ _ (hq5) (fun hS1 => ?_); clear hK K; (try simp only [List.getElem_toArray, List.getElem_cons_succ, List.getElem_cons_zero, Act.put, List.setIfInBounds_toArray, List.set_cons_zero, List.set_cons_succ])
              refine' wpAnyH_take (i := 11) (v := _) rfl (by kernel_rfl) (by kernel_rfl) (by kernel_rfl) (fun _ _ _ h => h) (Or.inl ⟨by rfl, fun w' hSw => ?_⟩) hS1 ?_; rotate_left; (focus ((try dsimp only at hSw); go_simp <;> (with_reducible rfl))); (try simp only [List.getElem_toArray, List.getElem_cons_succ, List.getElem_cons_zero, Act.put, List.setIfInBounds_toArray, List.set_cons_zero, List.set_cons_succ])
              refine wpAnyH_done (by kernel_rfl) (NoPanic.normal ?_) _
              have hR5 := Lib.hid (hRj.out.below hBr')
              have hB5 := Lib.hid (hBj.out.trans (hBr'.mono hBg))
              clear hq HQ HEQ hS0 hb5 hq5 hwr
              go_wp2_with fail
              go_roundw
              case rel => exact ⟨j + 1, K, ps', by omega, by go_num, rfl, by omega, hR5.out, HD2.out, fun i hi => hSm.out i (by omega), hB5.out⟩
              case measure => simp [intOf]; omega
            · have hd : decide (x = y) = false := decide_eq_false hxy
              rw [hd] at HEQ
              have hKn : K < n := by rw [← HQN.out]; omega
              have hKn2 : (K : Int) < (n : Int) := by omega
              have hK0 : (0 : Int) ≤ (K : Int) := Int.natCast_nonneg _
              have hKl : (ps'.take K).length = K := by rw [List.length_take, hRj.out.2.1]; omega
              have HD2 : Hid (((ps'.set K ((⟨xa, xn, xc, xb, xm, xd⟩ : Hd), x)).take (K + 1)).map (·.2) = dedup (l.take (m + 1 + (j + 1) + 1))) := by
                show _ = _
                have e : (ps'.set K ((⟨xa, xn, xc, xb, xm, xd⟩ : Hd), x)).take (K + 1) = ps'.take K ++ [((⟨xa, xn, xc, xb, xm, xd⟩ : Hd), x)] := by
                  rw [take_at' (l := ps'.set K ((⟨xa, xn, xc, xb, xm, xd⟩ : Hd), x)) (j := K) (p := ((⟨xa, xn, xc, xb, xm, xd⟩ : Hd), x)) (List.getElem?_set_self (by rw [hRj.out.2.1]; exact hKn)), List.take_set_of_le (Nat.le_refl _)]
                rw [e, List.map_append, hTk.out, show m + 1 + (j + 1) + 1 = m + 1 + j + 2 by omega, dedup_take_ne hly hlx (fun e => hxy e.symm)]; rfl
              have HS2 : Hid (∀ i, m + 1 + (j + 1) ≤ i → (ps'.set K ((⟨xa, xn, xc, xb, xm, xd⟩ : Hd), x))[i]? = ps[i]?) := fun i hi => by
                rw [List.getElem?_set_ne (by omega)]; exact hSm.out i (by omega)
              clear hd hlx hly hxy hKl
              have hwr : IntKind.i64.wrap (j : Int) = j := by rw [IntKind.wrap_i64]; omega
              go_wp2_with fail
              refine wp_region_noPanic ?_
              refine wp_region_held_drew (S := fun w' => w'.cell? ⟨g, o2 + (j + 1) * 2, none⟩ = some (.slice xa xn xc) ∧ w'.cell? ⟨g, o2 + (j + 1) * 2 + 1, none⟩ = some (.slice xb xm xd) ∧ w'.cell? ⟨g, o2 + j * 2, none⟩ = some (.slice ya yn yc) ∧ w'.cell? ⟨g, o2 + j * 2 + 1, none⟩ = some (.slice yb ym yd)) (by kernel_rfl) (hq) (fun hS0 => ?_)
              refine' wpAnyH_take (i := 0) (v := _) rfl (by kernel_rfl) (by kernel_rfl) (by kernel_rfl) (fun _ _ _ h => h) (Or.inl ⟨by rfl, fun w' hSw => ?_⟩) hS0 ?_; rotate_left; (focus ((try dsimp only at hSw); go_simp <;> (with_reducible rfl))); (try simp only [List.getElem_toArray, List.getElem_cons_succ, List.getElem_cons_zero, Act.put, List.setIfInBounds_toArray, List.set_cons_zero, List.set_cons_succ])
              refine' wpAnyH_take (i := 1) (v := _) rfl (by kernel_rfl) (by kernel_rfl) (by kernel_rfl) (fun _ _ _ h => h) (Or.inl ⟨by rfl, fun w' hSw => ?_⟩) hS0 ?_; rotate_left; (focus ((try dsimp only at hSw); go_simp <;> (with_reducible rfl))); (try simp only [List.getElem_toArray, List.getElem_cons_succ, List.getElem_cons_zero, Act.put, List.setIfInBounds_toArray, List.set_cons_zero, List.set_cons_succ])
              refine' wpAnyH_take (i := 2) (v := _) rfl (by kernel_rfl) (by kernel_rfl) (by kernel_rfl) (fun _ _ _ h => h) (Or.inl ⟨by rfl, fun w' hSw => ?_⟩) hS0 ?_; rotate_left; (focus ((try dsimp only at hSw); go_simp <;> (with_reducible rfl))); (try simp only [List.getElem_toArray, List.getElem_cons_succ, List.getElem_cons_zero, Act.put, List.setIfInBounds_toArray, List.set_cons_zero, List.set_cons_succ])
              refine' wpAnyH_take (i := 3) (v := _) rfl (by kernel_rfl) (by kernel_rfl) (by kernel_rfl) (fun _ _ _ h => h) (Or.inl ⟨by rfl, fun w' hSw => ?_⟩) hS0 ?_; rotate_left; (focus ((try dsimp only at hSw); go_simp <;> (with_reducible rfl))); (try simp only [List.getElem_toArray, List.getElem_cons_succ, List.getElem_cons_zero, Act.put, List.setIfInBounds_toArray, List.set_cons_zero, List.set_cons_succ])
              refine' wpAnyH_take (i := 4) (v := _) rfl (by kernel_rfl) (by kernel_rfl) (by kernel_rfl) (fun _ _ _ h => h) (Or.inl ⟨by rfl, fun w' hSw => ?_⟩) hS0 ?_; rotate_left; (focus ((try dsimp only at hSw); go_simp <;> (with_reducible rfl))); (try simp only [List.getElem_toArray, List.getElem_cons_succ, List.getElem_cons_zero, Act.put, List.setIfInBounds_toArray, List.set_cons_zero, List.set_cons_succ])
              refine' wpAnyH_take (i := 5) (v := _) rfl (by kernel_rfl) (by kernel_rfl) (by kernel_rfl) (fun _ _ _ h => h) (Or.inl ⟨by rfl, fun w' hSw => ?_⟩) hS0 ?_; rotate_left; (focus ((try dsimp only at hSw); go_simp <;> (with_reducible rfl))); (try simp only [List.getElem_toArray, List.getElem_cons_succ, List.getElem_cons_zero, Act.put, List.setIfInBounds_toArray, List.set_cons_zero, List.set_cons_succ])
              refine' wpAnyH_take (i := 6) (v := _) rfl (by kernel_rfl) (by kernel_rfl) (by kernel_rfl) (fun _ _ _ h => h) (Or.inl ⟨by rfl, fun w' hSw => ?_⟩) hS0 ?_; rotate_left; (focus ((try dsimp only at hSw); go_simp <;> (with_reducible rfl))); (try simp only [List.getElem_toArray, List.getElem_cons_succ, List.getElem_cons_zero, Act.put, List.setIfInBounds_toArray, List.set_cons_zero, List.set_cons_succ])
              refine' wpAnyH_take (i := 7) (v := _) rfl (by kernel_rfl) (by kernel_rfl) (by kernel_rfl) (fun _ _ _ h => h) (Or.inl ⟨by rfl, fun w' hSw => ?_⟩) hS0 ?_; rotate_left; (focus ((try dsimp only at hSw); go_simp <;> (with_reducible rfl))); (try simp only [List.getElem_toArray, List.getElem_cons_succ, List.getElem_cons_zero, Act.put, List.setIfInBounds_toArray, List.set_cons_zero, List.set_cons_succ])
              refine' wpAnyH_take (i := 8) (v := _) rfl (by kernel_rfl) (by kernel_rfl) (by kernel_rfl) (fun _ _ _ h => h) (Or.inl ⟨by rfl, fun w' hSw => ?_⟩) hS0 ?_; rotate_left; (focus ((try dsimp only at hSw); go_simp <;> (with_reducible rfl))); (try simp only [List.getElem_toArray, List.getElem_cons_succ, List.getElem_cons_zero, Act.put, List.setIfInBounds_toArray, List.set_cons_zero, List.set_cons_succ])
              refine' wpAnyH_take (i := 9) (v := _) rfl (by kernel_rfl) (by kernel_rfl) (by kernel_rfl) (fun _ _ _ h => h) (Or.inl ⟨by rfl, fun w' hSw => ?_⟩) hS0 ?_; rotate_left; (focus ((try dsimp only at hSw); go_simp <;> (with_reducible rfl))); (try simp only [List.getElem_toArray, List.getElem_cons_succ, List.getElem_cons_zero, Act.put, List.setIfInBounds_toArray, List.set_cons_zero, List.set_cons_succ])
              refine wpAnyH_ready (rs := [10]) (by kernel_rfl) (by simp) ?_
              refine AllReadyH.cons rfl (fun K hK => ?_) AllReadyH.nil
              go_simp; go_at_call 29; (with_reducible refine HEQ.out.mono ?_); rintro e w5 ⟨rfl, hb5⟩; have hBr' := (Below.refl wr.heap.size wr).drew.trans (hb5.mono (Nat.le_refl _)); have hq5 := HQ.out w5 hBr'; (try go_wp2_with fail); refine hK.out _ _ (hq5) (fun hS1 => ?_); clear hK K; (try simp only [List.getElem_toArray, List.getElem_cons_succ, List.getElem_cons_zero, Act.put, List.setIfInBounds_toArray, List.set_cons_zero, List.set_cons_succ])
              refine' wpAnyH_take (i := 11) (v := _) rfl (by kernel_rfl) (by kernel_rfl) (by kernel_rfl) (fun _ _ _ h => h) (Or.inl ⟨by rfl, fun w' hSw => ?_⟩) hS1 ?_; rotate_left; (focus ((try dsimp only at hSw); go_simp <;> (with_reducible rfl))); (try simp only [List.getElem_toArray, List.getElem_cons_succ, List.getElem_cons_zero, Act.put, List.setIfInBounds_toArray, List.set_cons_zero, List.set_cons_succ])
              refine wpAnyH_done (by kernel_rfl) (NoPanic.normal ?_) _
              have hR5 := Lib.hid (hRj.out.below hBr')
              have hB5 := Lib.hid (hBj.out.trans (hBr'.mono hBg))
              obtain ⟨s1, s2, s3, hc0⟩ := cell_any hR5.out (i := K * 2) (by omega)
              obtain ⟨s4, s5, s6, hc1⟩ := cell_any hR5.out (i := K * 2 + 1) (by omega)
              have hf0 := hR5.out.free (K * 2)
              have hf1 := hR5.out.free (K * 2 + 1)
              obtain ⟨t0, t1, t2, t3⟩ := hq5
              have HP9 := Lib.hid ((hR5.out.put (j := K) hKn (HCX.out.below hBr')).1)
              clear hq HQ HEQ hS0 hb5 hwr
              go_wp2_with fail
              go_roundw
              case rel => exact ⟨j + 1, K + 1, _, by omega, by go_num, by go_num, by omega, HP9.out, HD2.out, HS2.out, (hB5.out.setCell (p := ⟨g, K * 2, none⟩) hlt.1 _).setCell (p := ⟨g, K * 2 + 1, none⟩) hlt.1 _⟩
              case measure => simp [intOf]; omega
          · have hje : j + 1 = q := by omega
            have hjq' : ¬ (j : Int) + 1 < (q : Int) := by omega
            have hKn : K < n := by rw [← HQN.out]; omega
            have hKn1 : (K : Int) ≤ (n : Int) := by omega
            have hKn2 : (K : Int) ≤ (cap : Int) := by omega
            have hKn3 : ¬ cap = K := by omega
            have hK0 : (0 : Int) ≤ (K : Int) := Int.natCast_nonneg _
            have hnK : 0 < n - K := by omega
            have HF : Hid ((ps'.take K).map (·.2) = dedup l) := by
              show _ = _
              rw [hTk.out, List.take_of_length_le (by rw [HLN.out, ← HQN.out]; omega)]
            have hcc : ∀ i, i < (n - K) * 2 → (wr.cell? ⟨g, K * 2 + i, none⟩).isSome = true := fun i hi => by
              obtain ⟨_, _, _, h⟩ := cell_any hRj.out (i := K * 2 + i) (by omega)
              rw [h]; rfl
            have hff : ∀ i, i < (n - K) * 2 → wr.frozen? ⟨g, K * 2 + i, none⟩ = false := fun i _ => hRj.out.free _
            have hcs : ∀ vs : List Value, vs.length = (n - K) * 2 → Rw (wr.setCells g (K * 2) vs) B g K cap (ps'.take K) := fun vs hvs =>
              (hRj.out.shrink (Nat.le_of_lt hKn)).setsOut vs (K * 2) wr (Nat.le_refl _) fun i hi => cell_any hRj.out (by omega)
            have HCC := Lib.hid hcc
            have HFF := Lib.hid hff
            have HCS := Lib.hid hcs
            clear hcc hff hcs
            go_wp2_with (with_reducible refine wpList_clear_co rfl (.tmp 61) rfl g (K * 2) (n - K) (cap - K) rfl hnK HCC.out HFF.out ?_)
            intro vs hvs
            have HRF := Lib.hid (HCS.out vs hvs)
            have HBF := Lib.hid (below_sets hlt.1 vs (K * 2) w wr hBj.out)
            clear hvs
            go_wp2_with fail
            go_ret
            refine ⟨_, rfl, ?_, HBF.out⟩
            have := HRF.out.co
            rw [HF.out] at this
            exact this
      · have hd : decide (x = y) = false := decide_eq_false hxy
        rw [hd] at HEQ
        have HD : Hid (dedup (l.take (m + 1 + 1)) = l.take (m + 1 + 1)) := by
          show _ = _
          rw [dedup_take_ne hly hlx (fun e => hxy e.symm), hded.out, ← take_at' hlx]
        clear hd hx hy hlx hly hded hxy
        have hwr : IntKind.i64.wrap (m : Int) = m := by rw [IntKind.wrap_i64]; omega
        go_wp2_with fail
        refine wp_region_noPanic ?_
        refine wp_region_held_drew (S := fun w' => w'.cell? ⟨g, (m + 1) * 2, none⟩ = some (.slice xa xn xc) ∧ w'.cell? ⟨g, (m + 1) * 2 + 1, none⟩ = some (.slice xb xm xd) ∧ w'.cell? ⟨g, m * 2, none⟩ = some (.slice ya yn yc) ∧ w'.cell? ⟨g, m * 2 + 1, none⟩ = some (.slice yb ym yd)) (by kernel_rfl) (hq) (fun hS0 => ?_)
        refine' wpAnyH_take (i := 0) (v := _) rfl (by kernel_rfl) (by kernel_rfl) (by kernel_rfl) (fun _ _ _ h => h) (Or.inl ⟨by rfl, fun w' hSw => ?_⟩) hS0 ?_; rotate_left; (focus ((try dsimp only at hSw); go_simp <;> (with_reducible rfl))); (try simp only [List.getElem_toArray, List.getElem_cons_succ, List.getElem_cons_zero, Act.put, List.setIfInBounds_toArray, List.set_cons_zero, List.set_cons_succ])
        refine' wpAnyH_take (i := 1) (v := _) rfl (by kernel_rfl) (by kernel_rfl) (by kernel_rfl) (fun _ _ _ h => h) (Or.inl ⟨by rfl, fun w' hSw => ?_⟩) hS0 ?_; rotate_left; (focus ((try dsimp only at hSw); go_simp <;> (with_reducible rfl))); (try simp only [List.getElem_toArray, List.getElem_cons_succ, List.getElem_cons_zero, Act.put, List.setIfInBounds_toArray, List.set_cons_zero, List.set_cons_succ])
        refine' wpAnyH_take (i := 2) (v := _) rfl (by kernel_rfl) (by kernel_rfl) (by kernel_rfl) (fun _ _ _ h => h) (Or.inl ⟨by rfl, fun w' hSw => ?_⟩) hS0 ?_; rotate_left; (focus ((try dsimp only at hSw); go_simp <;> (with_reducible rfl))); (try simp only [List.getElem_toArray, List.getElem_cons_succ, List.getElem_cons_zero, Act.put, List.setIfInBounds_toArray, List.set_cons_zero, List.set_cons_succ])
        refine' wpAnyH_take (i := 3) (v := _) rfl (by kernel_rfl) (by kernel_rfl) (by kernel_rfl) (fun _ _ _ h => h) (Or.inl ⟨by rfl, fun w' hSw => ?_⟩) hS0 ?_; rotate_left; (focus ((try dsimp only at hSw); go_simp <;> (with_reducible rfl))); (try simp only [List.getElem_toArray, List.getElem_cons_succ, List.getElem_cons_zero, Act.put, List.setIfInBounds_toArray, List.set_cons_zero, List.set_cons_succ])
        refine' wpAnyH_take (i := 4) (v := _) rfl (by kernel_rfl) (by kernel_rfl) (by kernel_rfl) (fun _ _ _ h => h) (Or.inl ⟨by rfl, fun w' hSw => ?_⟩) hS0 ?_; rotate_left; (focus ((try dsimp only at hSw); go_simp <;> (with_reducible rfl))); (try simp only [List.getElem_toArray, List.getElem_cons_succ, List.getElem_cons_zero, Act.put, List.setIfInBounds_toArray, List.set_cons_zero, List.set_cons_succ])
        refine' wpAnyH_take (i := 5) (v := _) rfl (by kernel_rfl) (by kernel_rfl) (by kernel_rfl) (fun _ _ _ h => h) (Or.inl ⟨by rfl, fun w' hSw => ?_⟩) hS0 ?_; rotate_left; (focus ((try dsimp only at hSw); go_simp <;> (with_reducible rfl))); (try simp only [List.getElem_toArray, List.getElem_cons_succ, List.getElem_cons_zero, Act.put, List.setIfInBounds_toArray, List.set_cons_zero, List.set_cons_succ])
        refine' wpAnyH_take (i := 6) (v := _) rfl (by kernel_rfl) (by kernel_rfl) (by kernel_rfl) (fun _ _ _ h => h) (Or.inl ⟨by rfl, fun w' hSw => ?_⟩) hS0 ?_; rotate_left; (focus ((try dsimp only at hSw); go_simp <;> (with_reducible rfl))); (try simp only [List.getElem_toArray, List.getElem_cons_succ, List.getElem_cons_zero, Act.put, List.setIfInBounds_toArray, List.set_cons_zero, List.set_cons_succ])
        refine' wpAnyH_take (i := 7) (v := _) rfl (by kernel_rfl) (by kernel_rfl) (by kernel_rfl) (fun _ _ _ h => h) (Or.inl ⟨by rfl, fun w' hSw => ?_⟩) hS0 ?_; rotate_left; (focus ((try dsimp only at hSw); go_simp <;> (with_reducible rfl))); (try simp only [List.getElem_toArray, List.getElem_cons_succ, List.getElem_cons_zero, Act.put, List.setIfInBounds_toArray, List.set_cons_zero, List.set_cons_succ])
        refine' wpAnyH_take (i := 8) (v := _) rfl (by kernel_rfl) (by kernel_rfl) (by kernel_rfl) (fun _ _ _ h => h) (Or.inl ⟨by rfl, fun w' hSw => ?_⟩) hS0 ?_; rotate_left; (focus ((try dsimp only at hSw); go_simp <;> (with_reducible rfl))); (try simp only [List.getElem_toArray, List.getElem_cons_succ, List.getElem_cons_zero, Act.put, List.setIfInBounds_toArray, List.set_cons_zero, List.set_cons_succ])
        refine' wpAnyH_take (i := 9) (v := _) rfl (by kernel_rfl) (by kernel_rfl) (by kernel_rfl) (fun _ _ _ h => h) (Or.inl ⟨by rfl, fun w' hSw => ?_⟩) hS0 ?_; rotate_left; (focus ((try dsimp only at hSw); go_simp <;> (with_reducible rfl))); (try simp only [List.getElem_toArray, List.getElem_cons_succ, List.getElem_cons_zero, Act.put, List.setIfInBounds_toArray, List.set_cons_zero, List.set_cons_succ])
        refine wpAnyH_ready (rs := [10]) (by kernel_rfl) (by simp) ?_
        refine AllReadyH.cons rfl (fun K hK => ?_) AllReadyH.nil
        go_simp; go_at_call 29; (with_reducible refine HEQ.out.mono ?_); rintro e w5 ⟨rfl, hb5⟩; have hBr' := (Below.refl wr.heap.size wr).drew.trans (hb5.mono (Nat.le_refl _)); have hq5 := HQ.out w5 hBr'; (try go_wp2_with fail); refine hK.out _ _ (hq5) (fun hS1 => ?_); clear hK K; (try simp only [List.getElem_toArray, List.getElem_cons_succ, List.getElem_cons_zero, Act.put, List.setIfInBounds_toArray, List.set_cons_zero, List.set_cons_succ])
        refine wpAnyH_done (by kernel_rfl) (NoPanic.normal ?_) _
        clear hq HQ HEQ hS0 hb5 hq5 hwr
        have hB5 := Lib.hid (hB1.out.trans (hBr'.mono hB1.out.size))
        go_wp2_with fail
        go_roundw
        case rel => exact ⟨m + 1, by omega, by go_num, HD.out, hB5.out⟩
        case measure => simp [intOf]; omega
    · have hme : m + 1 = n := by omega
      have HD : Hid (dedup l = l) := by
        have := hded.out
        rw [List.take_of_length_le (by rw [HLN.out]; omega)] at this
        exact this
      have hm1 : ¬ (m : Int) + 1 < (n : Int) := by omega
      go_wp2_with fail
      go_ret
      refine ⟨_, rfl, ?_, hB1.out.mono (by omega)⟩
      rw [HD.out]
      have := hRr.out.co
      rw [HL.out] at this
      exact this
theorem compactC_any (B : Nat) (v : Value) (l : List Cu) (w : World) (h : Co w B v l) (hB : B ≤ w.heap.size) (hn : l.length ≤ 1000000) :
    Calls Tryz.prog 81 #[v, .func (.func 29) #[] #[]] w (CompP B l w) := by
  by_cases h2 : l.length < 2
  · obtain ⟨a, n, cap, rfl, hz, _⟩ := h.dn
    refine (compact_short a n cap _ w (by omega)).mono ?_
    rintro e w' ⟨rfl, rfl⟩
    refine ⟨_, rfl, ?_, Below.refl _ _⟩
    match l, h2, h with
    | [], _, h => exact h
    | [x], _, h => exact h
    | _ :: _ :: _, h2, _ => simp at h2; omega
  · obtain ⟨g, cap, ps, rfl, hr, hps, hc1, hc2⟩ := h.rw (by intro e; rw [e] at h2; simp at h2)
    exact compact_long B g l.length cap ps l w hr hps hB (by omega) hn hc1 hc2
end Go.Proofs.YtadomogbakcokaaGreatDoor
end

section
/- Contract: Simple. -/
namespace Go.Proofs.YtadomogbakcokaaGreatDoor
open Go.RowKit Go.PlainAid
set_option linter.unusedVariables false
set_option linter.unusedSimpArgs false
set_option maxHeartbeats 4000000

theorem dedup_len : ∀ l : List Cu, (dedup l).length ≤ l.length
  | [] => Nat.le_refl _
  | [_] => Nat.le_refl _
  | x :: y :: l => by
    have ih := dedup_len (y :: l)
    unfold dedup
    split
    · exact Nat.le_succ_of_le ih
    · exact Nat.succ_le_succ ih
def needB (ds : List Cu) (c : Cu) (k : Nat) : Bool := emptyC c || (ds.take k).any fun d => !decide (d = c) && (!emptyC d && withinC c d)
theorem needB_zero (ds : List Cu) (c : Cu) : needB ds c 0 = emptyC c := by unfold needB; simp
theorem needB_succ {ds : List Cu} {c d : Cu} {k : Nat} (h : ds[k]? = some d) : needB ds c (k + 1) = (needB ds c k || (!decide (d = c) && (!emptyC d && withinC c d))) := by
  unfold needB
  rw [take_at' h, List.any_append, Bool.or_assoc]; simp
theorem needB_all (ds : List Cu) (c : Cu) : (!needB ds c ds.length) = keepC ds c := by
  unfold needB keepC
  rw [List.take_length, Bool.not_or, List.not_any_eq_all_not]
  congr 1
  apply List.all_congr rfl
  intro d
  cases decide (d = c) <;> cases emptyC d <;> cases withinC c d <;> rfl
theorem sortC_ne {ds : List Cu} (h : SortC ds) {i k : Nat} {c d : Cu} (hi : ds[i]? = some c) (hk : ds[k]? = some d) : decide (d = c) = decide (k = i) := by
  rw [decide_eq_decide]
  constructor
  · rintro rfl
    obtain ⟨h1, e1⟩ := List.getElem?_eq_some_iff.1 hi
    obtain ⟨h2, e2⟩ := List.getElem?_eq_some_iff.1 hk
    rcases Nat.lt_trichotomy i k with hlt | he | hlt
    · have := List.pairwise_iff_getElem.1 h i k h1 h2 hlt
      rw [e1, e2, cmpC_zero.2 rfl] at this; omega
    · exact he.symm
    · have := List.pairwise_iff_getElem.1 h k i h2 h1 hlt
      rw [e1, e2, cmpC_zero.2 rfl] at this; omega
  · rintro rfl
    rw [hi] at hk; exact (Option.some.inj hk).symm
def SimpleP (w : World) (l : List Cu) (e : Ending) (w' : World) : Prop := ∃ v ds, e = .returned v ∧ SortC ds ∧ (∀ x, x ∈ ds ↔ x ∈ l) ∧ Co w' w.heap.size v (ds.filter (keepC ds)) ∧ Below w.heap.size w w'
set_option maxRecDepth 20000 in
theorem simple_any (a : Option Addr) (n cap : Nat) (l : List Cu) (w : World) (h : Cs w a n cap l) (hn : n ≤ 12) (hT : Tz w) :
    Calls Tryz.prog 43 #[.slice a n cap] w (SimpleP w l) := by
  have hl := h.len
  have HL := Lib.hid hl
  have HC := Lib.hid h
  have HT := Lib.hid hT
  have hcl := Lib.hid (cloneC_any a n cap l w h (by omega))
  clear h hT hl
  go_enter Tryz.func43, Tryz.ntmps43
  go_wp2_with (first
    | (go_at_call 79; refine hcl.out.mono ?_; rintro e w1 ⟨v1, rfl, hb1, hco1⟩; have HB1 := Lib.hid hb1; have hsrt := Lib.hid (sortC_any w.heap.size v1 l w1 hco1 (HT.out.below hb1) hb1.size (by rw [HL.out]; exact hn) HT.out.1); clear hco1)
    | (go_at_call 80; refine hsrt.out.mono ?_; rintro e w2 ⟨rfl, ⟨l', hco2, hp2, hs2⟩, hb2⟩; have HB2 := Lib.hid (HB1.out.trans hb2); have HP2 := Lib.hid hp2; have HS2 := Lib.hid hs2; have hcmp := Lib.hid (compactC_any w.heap.size v1 l' w2 hco2 HB2.out.size (by rw [hp2.length_eq, HL.out]; omega)); clear hco2 hp2 hs2)
    | (go_at_call 81; refine hcmp.out.mono ?_; rintro e w3 ⟨v3, rfl, hco3, hb3⟩; obtain ⟨a3, n3, c3, rfl, hn3, hcs3⟩ := hco3.dn; have HN3 := Lib.hid hn3; have HCS := Lib.hid hcs3; have HB3 := Lib.hid (HB2.out.trans hb3); have hcap3 := hcs3.caps; clear hco3 hn3 hcs3 hb3))
  have HDS : Hid (SortC (dedup l')) := sort_dedup l' HS2.out
  have HDM : Hid (∀ x, x ∈ dedup l' ↔ x ∈ l) := fun x => by rw [mem_dedup]; exact HP2.out.mem_iff
  have hlen3 : Hid ((dedup l').length ≤ 1000000) := by
    show (dedup l').length ≤ 1000000
    have h1 := dedup_len l'
    have h2 := HP2.out.length_eq
    rw [HL.out] at h2; omega
  generalize dedup l' = ds at hlen3 HDS HDM HN3 HCS
  have hn3b : n3 ≤ 1000000 := by rw [HN3.out]; exact hlen3.out
  obtain ⟨hnc3, hcm3⟩ := hcap3
  clear hcl hsrt hcmp
  go_loopw [4, 18] (fun v4 v18 wr => ∃ (i : Nat) (out : List Cu), i ≤ n3 ∧ v18 = .int .i64 i ∧ out.length ≤ i ∧ Hid (Co wr w3.heap.size v4 out) ∧ Hid (out = (ds.take i).filter (keepC ds)) ∧ Hid (Below w3.heap.size w3 wr)) (fun _ v _ => n3 - (intOf v).toNat)
  case atStart => exact ⟨0, [], Nat.zero_le _, rfl, Nat.le_refl _, Co.nil _ _, rfl, Below.refl _ _⟩
  case round =>
    obtain ⟨i, out, hi, rfl, hol, hco, hout, hB⟩ := hrel
    have hzw := hB.out.size
    by_cases hin : i < n3
    · obtain ⟨c, hc⟩ : ∃ c, ds[i]? = some c := ⟨_, List.getElem?_eq_getElem (by rw [← HN3.out]; exact hin)⟩
      obtain ⟨cb, co, ca, cn, cc, cb2, cm, cd, rfl, hbl, x0, x1, hcb⟩ := (HCS.out.below hB.out).at hc
      have HCC := Lib.hid hc
      have HCB := Lib.hid hcb
      have hi0 : (0 : Int) ≤ (i : Int) := Int.natCast_nonneg _
      have hi1 : (i : Int) < (n3 : Int) := by omega
      have HEC := Lib.hid (emptyC_any ca cb2 cn cc cm cd c (wr.alloc (.cells #[.slice ca cn cc, .slice cb2 cm cd] 34)) (hcb.below ((Below.refl _ _).alloc (Nat.le_refl _) _)))
      have hn0 := needB_zero ds c
      obtain ⟨wo, rfl⟩ : ∃ wo : World, wo = wr := ⟨_, rfl⟩
      obtain ⟨e0, he0⟩ : ∃ e0, e0 = emptyC c := ⟨_, rfl⟩
      rw [← he0] at HEC hn0
      have HN0 := Lib.hid hn0
      clear hc hcb hbl hn0 he0
      go_wp2_with (go_at_call 21; refine HEC.out.mono ?_; rintro e w4 ⟨rfl, hb4⟩)
      have HB4 := Lib.hid hb4
      clear hb4 HEC
      go_loopw [7, 27] (fun v7 v27 wi => ∃ (k : Nat) (b : Bool), k ≤ n3 ∧ v27 = .int .i64 k ∧ v7 = .bool b ∧ Hid (b = needB ds c k) ∧ Hid (Below (wo.alloc (.cells #[.slice ca cn cc, .slice cb2 cm cd] 34)).heap.size (wo.alloc (.cells #[.slice ca cn cc, .slice cb2 cm cd] 34)) wi)) (fun _ v _ => n3 - (intOf v).toNat)
      case atStart => exact ⟨0, e0, Nat.zero_le _, rfl, rfl, HN0.out.symm, HB4.out⟩
      case round =>
        clear x0 x1
        obtain ⟨k, b, hk, rfl, rfl, hnb, hBi⟩ := hrel
        obtain ⟨q0, q1, hzi, hBo⟩ := boxC hBi.out
        have hzi' : wo.heap.size + 1 ≤ wr.heap.size := hzi
        by_cases hkn : k < n3
        · obtain ⟨d, hd⟩ : ∃ d, ds[k]? = some d := ⟨_, List.getElem?_eq_getElem (by rw [← HN3.out]; exact hkn)⟩
          obtain ⟨db, dq, da, dn, dc, db2, dm, dd, hae, hbd, z0, z1, hdb⟩ := (HCS.out.below (hB.out.trans (hBo.mono hzw))).at hd
          cases hae
          have hstep := needB_succ (c := c) hd
          rw [sortC_ne HDS.out HCC.out hd, ← hnb.out] at hstep
          have HST := Lib.hid hstep
          have hk0 : (0 : Int) ≤ (k : Int) := Int.natCast_nonneg _
          have hk1 : (k : Int) < (n3 : Int) := by omega
          have hbx := Lib.hid ((Below.refl wr.heap.size wr).alloc (Nat.le_refl _) (.cells #[.slice da dn dc, .slice db2 dm dd] 34))
          have HED := Lib.hid (fun w' (hb : Below (wr.alloc (.cells #[.slice da dn dc, .slice db2 dm dd] 34)).heap.size (wr.alloc (.cells #[.slice da dn dc, .slice db2 dm dd] 34)) w') => emptyC_any da db2 dn dc dm dd d w' ((hdb.below hbx.out).below hb))
          have HWD := Lib.hid (fun w' (hb : Below (wr.alloc (.cells #[.slice da dn dc, .slice db2 dm dd] 34)).heap.size (wr.alloc (.cells #[.slice da dn dc, .slice db2 dm dd] 34)) w') => withinC_any ca cb2 da db2 cn cc cm cd dn dc dm dd c d w' (((HCB.out.below hBo).below hbx.out).below hb) ((hdb.below hbx.out).below hb))
          have HQ : Hid (∀ w', Below (wr.alloc (.cells #[.slice da dn dc, .slice db2 dm dd] 34)).heap.size (wr.alloc (.cells #[.slice da dn dc, .slice db2 dm dd] 34)) w' → (w'.cell? ⟨wo.heap.size, 0, none⟩ = some (.slice ca cn cc) ∧ w'.cell? ⟨wo.heap.size, 1, none⟩ = some (.slice cb2 cm cd)) ∧ (w'.cell? ⟨wr.heap.size, 0, none⟩ = some (.slice da dn dc) ∧ w'.cell? ⟨wr.heap.size, 1, none⟩ = some (.slice db2 dm dd)) ∧ Below wr.heap.size wr w') := fun w' hb => by
            obtain ⟨y0, y1, _, hbb⟩ := boxC hb
            exact ⟨⟨(hbb.cell (p := ⟨wo.heap.size, 0, none⟩) hzi).trans q0, (hbb.cell (p := ⟨wo.heap.size, 1, none⟩) hzi).trans q1⟩, ⟨y0, y1⟩, hbb⟩
          clear hd hdb hbd hstep hnb
          have FIN : Hid (∀ w' b', Below wr.heap.size wr w' → b' = needB ds c (k + 1) → Hid (b' = needB ds c (k + 1)) ∧ Hid (Below (wo.alloc (.cells #[.slice ca cn cc, .slice cb2 cm cd] 34)).heap.size (wo.alloc (.cells #[.slice ca cn cc, .slice cb2 cm cd] 34)) w')) := fun w' b' hb hb' => ⟨hb', hBi.out.trans (hb.mono (by rw [World.size_alloc]; exact hzi'))⟩
          cases b
          · by_cases hki : k = i
            · have hki1 : ((k : Int) != (i : Int)) = false := by rw [hki]; simp
              have HR : Hid (false = needB ds c (k + 1)) := by show _ = _; rw [HST.out, decide_eq_true hki]; rfl
              clear HST hki
              go_wp2_with fail
              go_roundw
              case rel => exact ⟨k + 1, false, by omega, by go_num, rfl, (FIN.out _ _ hbx.out HR.out).1, (FIN.out _ _ hbx.out HR.out).2⟩
              case measure => simp [intOf]; omega
            · have hki1 : ((k : Int) != (i : Int)) = true := by simp; omega
              rw [decide_eq_false hki] at HST
              clear hki
              cases hed : emptyC d
              · rw [hed] at HED HST
                obtain ⟨wd0, hwd⟩ : ∃ wd0, wd0 = withinC c d := ⟨_, rfl⟩
                rw [← hwd] at HWD HST
                have HR : Hid (wd0 = needB ds c (k + 1)) := by show _ = _; rw [HST.out]; simp
                clear hed hwd HST
                go_wp2_with (first
                  | (go_at_call 21; refine (HED.out _ (Below.refl _ _)).mono ?_; rintro e w5 ⟨rfl, hb5⟩; obtain ⟨⟨s0, s1⟩, ⟨s2, s3⟩, hb55⟩ := HQ.out _ hb5)
                  | (go_at_call 37; refine (HWD.out _ hb5).mono ?_; rintro e w6 ⟨rfl, hb6⟩; have hb66 := hb55.trans (hb6.mono hb55.size)))
                go_roundw
                case rel => exact ⟨k + 1, wd0, by omega, by go_num, rfl, (FIN.out _ _ hb66 HR.out).1, (FIN.out _ _ hb66 HR.out).2⟩
                case measure => simp [intOf]; omega
              · rw [hed] at HED HST
                have HR : Hid (false = needB ds c (k + 1)) := by show _ = _; rw [HST.out]; simp
                clear hed HST
                go_wp2_with (go_at_call 21; refine (HED.out _ (Below.refl _ _)).mono ?_; rintro e w5 ⟨rfl, hb5⟩; obtain ⟨⟨s0, s1⟩, ⟨s2, s3⟩, hb55⟩ := HQ.out _ hb5)
                go_roundw
                case rel => exact ⟨k + 1, false, by omega, by go_num, rfl, (FIN.out _ _ hb55 HR.out).1, (FIN.out _ _ hb55 HR.out).2⟩
                case measure => simp [intOf]; omega
          · have HR : Hid (true = needB ds c (k + 1)) := by show _ = _; rw [HST.out]; rfl
            clear HST
            go_wp2_with fail
            go_roundw
            case rel => exact ⟨k + 1, true, by omega, by go_num, rfl, (FIN.out _ _ hbx.out HR.out).1, (FIN.out _ _ hbx.out HR.out).2⟩
            case measure => simp [intOf]; omega
        · have hke : k = n3 := by omega
          have hkeep : keepC ds c = !b := by rw [hnb.out, hke, HN3.out]; exact (needB_all ds c).symm
          have hbel := Lib.hid (hB.out.trans (hBo.mono hzw))
          have hco2 := hco.out.below hBo
          have HFT : Hid ((ds.take (i + 1)).filter (keepC ds) = out ++ (if b then [] else [c])) := by
            show _ = _
            rw [take_at' HCC.out, List.filter_append, ← hout.out]
            cases b <;> simp [hkeep]
          clear hkeep hnb
          cases b
          · have hCO := Lib.hid (Cs.one wr ca cb2 cn cc cm cd c (HCB.out.below hBo) _ rfl)
            have hob : out.length + 1 ≤ 1000000000 := by omega
            have HFT2 : Hid (out ++ [c] = (ds.take (i + 1)).filter (keepC ds)) := HFT.out.symm
            clear HFT
            go_wp2_with (at_builtin; refine wpList_append_co rfl (.tmp 51) (.tmp 53) rfl w3.heap.size _ out rfl (hco2.below ((Below.refl _ _).alloc (Nat.le_refl _) _)) _ 1 1 [c] rfl hCO.out hob (by simp; omega) ?_; intro v6 w6 hown6 hg6; have HO6 := Lib.hid hown6; have HB6 := Lib.hid ((hbel.out.alloc (by omega) (.cells #[.slice ca cn cc, .slice cb2 cm cd] 34)).grown hg6 (by simp; omega) (fun k hk => (hco2.lt k hk).1)); clear hown6 hg6)
            go_roundw
            case rel => exact ⟨i + 1, out ++ [c], by omega, by go_num, by simp; omega, HO6.out, HFT2.out, HB6.out⟩
            case measure => simp [intOf]; omega
          · have HFT2 : Hid (out = (ds.take (i + 1)).filter (keepC ds)) := by
              have := HFT.out.symm
              rw [if_pos rfl, List.append_nil] at this
              exact this
            have HO2 := Lib.hid hco2
            clear HFT hco2
            go_wp2_with fail
            go_roundw
            case rel => exact ⟨i + 1, out, by omega, by go_num, by omega, HO2.out, HFT2.out, hbel.out⟩
            case measure => simp [intOf]; omega
    · have hie : i = n3 := by omega
      have HF : Hid (out = ds.filter (keepC ds)) := by
        show _ = _
        rw [hout.out, List.take_of_length_le (by rw [← HN3.out]; omega)]
      clear hout
      go_wp2_with fail
      go_ret
      refine ⟨_, ds, rfl, HDS.out, HDM.out, ?_, HB3.out.trans (hB.out.mono HB3.out.size)⟩
      rw [← HF.out]
      exact hco.out.lower HB3.out.size
end Go.Proofs.YtadomogbakcokaaGreatDoor
end

section
/- Contract: Count. -/
namespace Go.Proofs.YtadomogbakcokaaGreatDoor
open Go.RowKit Go.PlainAid
set_option linter.unusedVariables false
set_option linter.unusedSimpArgs false
set_option maxHeartbeats 4000000

theorem pick_snoc : ∀ (l : List Nat) (x m : Nat), pickL (l ++ [x]) m = pickL l m ++ (if m.testBit l.length then [x] else [])
  | [], x, m => by simp [pickL]
  | y :: l, x, m => by
    have ih := pick_snoc l x (m / 2)
    show (if m.testBit 0 then [y] else []) ++ pickL (l ++ [x]) (m / 2) = ((if m.testBit 0 then [y] else []) ++ pickL l (m / 2)) ++ _
    rw [ih, List.append_assoc, List.length_cons, Nat.testBit_succ]
theorem asc_takeC {l : List Nat} (h : Asc l) (k : Nat) : Asc (l.take k) := ⟨h.1.sublist (List.take_sublist _ _), fun x hx => h.2 x (List.mem_of_mem_take hx)⟩
theorem asc_withC {l : List Nat} (h : Asc l) (i : Int) : Asc (withL l i) := by
  unfold withL
  split
  · exact ⟨(pw_range 4096).filter _, fun x hx => by simp at hx; exact hx.1⟩
  · exact h
theorem pick_yes {l : List Nat} {k x m : Nat} (hl : Asc l) (hx : l[k]? = some x) (hm : m.testBit k = true) : withL (pickL (l.take k) m) (x : Nat) = pickL (l.take (k + 1)) m := by
  have hk := (List.getElem?_eq_some_iff.1 hx).1
  have ha := asc_pick m (asc_takeC hl (k + 1))
  refine asc_ext (asc_withC (asc_pick m (asc_takeC hl k)) _) ha fun y => ?_
  rw [mem_with (hl.2 x (List.mem_of_getElem? hx)) (asc_pick m (asc_takeC hl k)), take_at' hx, pick_snoc, List.length_take, Nat.min_eq_left (by omega), hm]
  simp
theorem pick_no {l : List Nat} {k x m : Nat} (hx : l[k]? = some x) (hm : m.testBit k = false) : pickL (l.take (k + 1)) m = pickL (l.take k) m := by
  have hk := (List.getElem?_eq_some_iff.1 hx).1
  rw [take_at' hx, pick_snoc, List.length_take, Nat.min_eq_left (by omega), hm]
  simp
def cntP (l : List Cu) (ms : List Nat) (m : Nat) : Nat := ((List.range m).filter fun m => someC l (pickL ms m)).length
theorem cntP_succ (l : List Cu) (ms : List Nat) (m : Nat) : cntP l ms (m + 1) = cntP l ms m + (if someC l (pickL ms m) then 1 else 0) := by
  unfold cntP
  rw [List.range_succ, List.filter_append, List.length_append]
  cases h : someC l (pickL ms m) <;> simp [h]
theorem cntP_le (l : List Cu) (ms : List Nat) (m : Nat) : cntP l ms m ≤ m := by
  unfold cntP
  exact Nat.le_trans (List.length_filter_le _ _) (by simp)
def CountP (w : World) (l : List Cu) (s : List Nat) (e : Ending) (w' : World) : Prop := e = .returned (if s.length ≤ 16 then .tuple #[.int .i64 (countC l s : Nat), .int .i64 0] else .tuple #[.int .i64 0, .int .i64 3]) ∧ Below w.heap.size w w'
theorem i64_and1 (n : Int) : bits .and .i64 n 1 = n % 2 := by
  have h1 : (BitVec.ofInt 64 1).toNat = 2 ^ 1 - 1 := by decide
  have key : (BitVec.ofInt 64 n &&& BitVec.ofInt 64 1).toNat = (n % ((2 ^ 64 : Nat) : Int)).toNat % 2 ^ 1 := by
    rw [BitVec.toNat_and, BitVec.toNat_ofInt, h1, Nat.and_two_pow_sub_one_eq_mod]
  show IntKind.i64.wrap ((BitVec.ofInt 64 n &&& BitVec.ofInt 64 1).toNat : Nat) = n % 2
  rw [key, IntKind.wrap_i64]
  omega
theorem and_one_bit (m k : Nat) : bits BinOp.and IntKind.i64 ((m : Int) / 2 ^ k) 1 = (if m.testBit k then 1 else 0 : Int) := by
  have h1 : ((m : Int) / 2 ^ k) = ((m / 2 ^ k : Nat) : Int) := by rw [Int.natCast_ediv]; simp
  rw [i64_and1, h1, Nat.testBit_eq_decide_div_mod_eq]
  by_cases hh : m / 2 ^ k % 2 = 1
  · rw [decide_eq_true hh, if_pos rfl]; omega
  · rw [decide_eq_false hh, if_neg (by simp)]; omega
set_option maxRecDepth 20000 in
theorem count_any (a e : Option Addr) (n cap k f : Nat) (l : List Cu) (s : List Nat) (w : World) (h : Cs w a n cap l) (hs : Bs w e k f s) (hT : Tz w) :
    Calls Tryz.prog 33 #[.slice a n cap, .agg #[.slice e k f]] w (CountP w l s) := by
  have hb0 : Below w.heap.size w (w.alloc (.cells #[.slice e k f] 32)) := (Below.refl _ _).alloc (Nat.le_refl _) _
  have hli := Lib.hid (list_any e k f s (w.alloc (.cells #[.slice e k f] 32)) (hs.below hb0) (hT.below hb0))
  have HC := Lib.hid h
  have hasc : Hid (Asc s) := by obtain ⟨ws, _, hr⟩ := hs; exact hr.asc
  have hsl : s.length ≤ 4096 := asc_length hasc.out
  clear h hs hT hb0
  by_cases h16 : s.length ≤ 16
  · obtain ⟨N, hN⟩ : ∃ N : Nat, N = 2 ^ s.length := ⟨_, rfl⟩
    have hNb : N ≤ 65536 := by rw [hN]; exact Nat.pow_le_pow_right (n := 2) (by omega) h16
    obtain ⟨q, hq⟩ : ∃ q, q = s.length := ⟨_, rfl⟩
    have hN' : (2 : Int) ^ q = (N : Int) := by rw [hN, hq]; simp
    rw [← hq] at h16 hsl hli
    have HQ := Lib.hid hq
    have HF : Hid (cntP l s N = countC l s) := by show _ = _; unfold cntP countC; rw [hN]
    have HN := Lib.hid hN
    clear hq hN
    go_enter Tryz.func33, Tryz.ntmps33
    go_wp2_with (go_at_call 47; refine hli.out.mono ?_; rintro e1 w1 ⟨v1, rfl, hrow, hb1⟩; obtain ⟨c1, d1, rfl, hiw⟩ := iw_of_i64 hrow HQ.out.symm; have HB1 := Lib.hid (bel1 hb1); have HIW := Lib.hid hiw; clear hrow hiw hb1)
    have hz1 := HB1.out.size
    go_loopw [7, 20] (fun v7 v20 wr => ∃ m : Nat, m ≤ N ∧ v20 = .int .i64 m ∧ v7 = .int .i64 (cntP l s m : Nat) ∧ Hid (Below w1.heap.size w1 wr)) (fun _ v _ => N - (intOf v).toNat)
    case atStart => exact ⟨0, Nat.zero_le _, rfl, rfl, Below.refl _ _⟩
    case round =>
      obtain ⟨m, hm, rfl, rfl, hB⟩ := hrel
      obtain ⟨wo, rfl⟩ : ∃ wo : World, wo = wr := ⟨_, rfl⟩
      have hzo := hB.out.size
      have hcl := cntP_le l s m
      by_cases hmN : m < N
      · have HCS := Lib.hid (cntP_succ l s m)
        generalize cntP l s m = c0 at HCS hcl
        have hnew := new1 wo (.slice none 0 0) 32
        have HW1 := Lib.hid hnew
        go_wp2_with fail
        go_loopw [25] (fun v25 wi => ∃ (j : Nat) (sa : Option Addr) (sn sc : Nat), j ≤ q ∧ v25 = .int .i64 j ∧ wo.heap.size < wi.heap.size ∧ Hid (wi.cell? ⟨wo.heap.size, 0, none⟩ = some (.slice sa sn sc)) ∧ Hid (wi.frozen? ⟨wo.heap.size, 0, none⟩ = false) ∧ Hid (Bs wi sa sn sc (pickL (s.take j) m)) ∧ Hid (Below wo.heap.size wo wi)) (fun v _ => q - (intOf v).toNat)
        case atStart => exact ⟨0, none, 0, 0, Nat.zero_le _, rfl, by rw [World.size_alloc]; omega, HW1.out.1, HW1.out.2, by show Bs _ _ _ _ _; rw [List.take_zero]; exact Bs.nil _, (Below.refl _ _).alloc (Nat.le_refl _) _⟩
        case round =>
          obtain ⟨j, sa, sn, sc, hj, rfl, hzi, hcell, hfr, hS, hBi⟩ := hrel
          have c0' := hcell.out
          have f0' := hfr.out
          by_cases hjq : j < q
          · obtain ⟨x, hx⟩ : ∃ x, s[j]? = some x := ⟨_, List.getElem?_eq_getElem (by rw [← HQ.out]; exact hjq)⟩
            obtain ⟨b, o, rfl, hb, hcx⟩ : ∃ b o, c1 = some ⟨b, o, none⟩ ∧ b < w1.heap.size ∧ w1.cell? ⟨b, o + j, none⟩ = some (.int .i64 ((x : Nat) : Int)) := by
              rcases HIW.out.2.2.2 with ⟨_, h0, _⟩ | ⟨b, o, h1, h2, h3⟩
              · omega
              · refine ⟨b, o, h1, h2, ?_⟩
                rw [h3 j hjq]
                unfold zg cs
                rw [List.getD_eq_getElem?_getD, List.getElem?_map, hx]; rfl
            have x1 : wr.cell? ⟨b, o + j, none⟩ = some (.int .i64 ((x : Nat) : Int)) := ((hB.out.trans (hBi.out.mono hzo)).cell (p := ⟨b, o + j, none⟩) hb).trans hcx
            have hj0 : (0 : Int) ≤ (j : Int) := Int.natCast_nonneg _
            have hj1 : (j : Int) < (q : Int) := by omega
            have hand := and_one_bit m j
            have HX := Lib.hid hx
            clear hcx hx
            cases htb : m.testBit j
            · rw [htb, if_neg (by decide)] at hand
              have HP : Hid (pickL (s.take (j + 1)) m = pickL (s.take j) m) := pick_no HX.out htb
              clear htb
              go_wp2_with fail
              go_roundw
              case rel => exact ⟨j + 1, sa, sn, sc, by omega, by go_num, hzi, c0', f0', by show Bs _ _ _ _ _; rw [HP.out]; exact hS.out, hBi.out⟩
              case measure => simp [intOf]; omega
            · rw [htb, if_pos rfl] at hand
              have HP : Hid (withL (pickL (s.take j) m) (x : Nat) = pickL (s.take (j + 1)) m) := pick_yes hasc.out HX.out htb
              have HWT := Lib.hid (with_any sa sn sc (pickL (s.take j) m) (x : Nat) wr hS.out)
              clear htb
              go_wp2_with (go_at_call 70; refine HWT.out.mono ?_; rintro e w2 ⟨a2, n2, c2, rfl, hs2, hb2⟩; rw [HP.out] at hs2; have q0 := (hb2.cell (p := ⟨wo.heap.size, 0, none⟩) hzi).trans c0'; have q1 := (hb2.frozen (p := ⟨wo.heap.size, 0, none⟩) hzi).trans f0'; have hz2 := Nat.lt_of_lt_of_le hzi hb2.size; have HS2 := Lib.hid hs2; have HB2 := Lib.hid (hBi.out.trans (hb2.mono (Nat.le_of_lt hzi))); clear hs2 hb2)
              go_roundw
              case rel => exact ⟨j + 1, a2, n2, c2, by omega, by go_num, by rw [World.size_setCell]; exact hz2, World.cell?_setCell_same w2 ⟨wo.heap.size, 0, none⟩ _ q0, (World.frozen?_setCell w2 _ _ _).trans q1, HS2.out.set q0 (by intro x h; cases h), HB2.out.setCell (Nat.le_refl _) _⟩
              case measure => simp [intOf]; omega
          · have hjq' : j = q := by omega
            have HSO := Lib.hid (someC_any a sa n cap sn sc l (pickL s m) wr (HC.out.below ((HB1.out.trans (hB.out.mono hz1)).trans (hBi.out.mono (Nat.le_trans hz1 hzo)))) (by have := hS.out; rw [hjq', HQ.out, List.take_length] at this; exact this))
            cases hso : someC l (pickL s m)
            · rw [hso] at HSO HCS
              have HCS' : Hid (c0 = cntP l s (m + 1)) := by show _ = _; rw [HCS.out, if_neg (by decide)]; rfl
              clear HCS hso
              go_wp2_with (go_at_call 23; refine HSO.out.mono ?_; rintro e w2 ⟨rfl, hb2⟩; have HB2 := Lib.hid (hBi.out.trans (hb2.mono (Nat.le_of_lt hzi))); clear hb2)
              go_roundw
              case rel => exact ⟨m + 1, by omega, by go_num, by rw [HCS'.out], hB.out.trans (HB2.out.mono hzo)⟩
              case measure => simp [intOf]; omega
            · rw [hso] at HSO HCS
              have HCS' : Hid (c0 + 1 = cntP l s (m + 1)) := by show _ = _; rw [HCS.out, if_pos rfl]
              clear HCS hso
              go_wp2_with (go_at_call 23; refine HSO.out.mono ?_; rintro e w2 ⟨rfl, hb2⟩; have HB2 := Lib.hid (hBi.out.trans (hb2.mono (Nat.le_of_lt hzi))); clear hb2)
              go_roundw
              case rel => exact ⟨m + 1, by omega, by go_num, by rw [← HCS'.out]; go_num, hB.out.trans (HB2.out.mono hzo)⟩
              case measure => simp [intOf]; omega
      · have hmN' : m = N := by omega
        have HE : Hid (s.length ≤ 16) := by rw [← HQ.out]; exact h16
        have HF2 : Hid (cntP l s m = countC l s) := by rw [hmN']; exact HF.out
        go_wp2_with fail
        go_ret2
        refine ⟨?_, HB1.out.trans (hB.out.mono hz1)⟩
        rw [if_pos HE.out, HF2.out]; rfl
  · obtain ⟨q, hq⟩ : ∃ q, q = s.length := ⟨_, rfl⟩
    have HE : Hid (¬ s.length ≤ 16) := h16
    rw [← hq] at h16 hsl hli
    have HQ := Lib.hid hq
    clear hq
    go_enter Tryz.func33, Tryz.ntmps33
    go_wp2_with (go_at_call 47; refine hli.out.mono ?_; rintro e1 w1 ⟨v1, rfl, hrow, hb1⟩; obtain ⟨c1, d1, rfl, -⟩ := iw_of_i64 hrow HQ.out.symm; have HB1 := Lib.hid (bel1 hb1); clear hrow hb1)
    go_ret2
    refine ⟨?_, HB1.out⟩
    rw [if_neg HE.out]; rfl
end Go.Proofs.YtadomogbakcokaaGreatDoor
end
