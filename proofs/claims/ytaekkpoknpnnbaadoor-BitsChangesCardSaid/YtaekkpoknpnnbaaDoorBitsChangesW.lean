/- The walk of BitsChanges. -/
import Derived.Test.YtaekkpoknpnnbaaDoorBuE
namespace Go.Proofs.YtaekkpoknpnnbaaDoor
open Go.RowKit Go.PlainAid
set_option linter.unusedVariables false
set_option linter.unusedSimpArgs false
set_option maxHeartbeats 8000000

theorem Iw.set {w : World} {a : Option Addr} {n cap : Nat} {zs : List Int} {p : Addr} {v u : Value} (h : Iw w a n cap zs) (hp : w.cell? p = some v) (hv : ∀ x : Int, v ≠ .int .i64 x) : Iw (w.setCell p u) a n cap zs := by
  obtain ⟨h1, h2, h3, h4⟩ := h
  refine ⟨h1, h2, h3, ?_⟩
  rcases h4 with h4 | ⟨b, o, h4, h5, h6⟩
  · exact .inl h4
  · refine .inr ⟨b, o, h4, by simpa using h5, fun j hj => ?_⟩
    rw [World.cell?_setCell_other _ _ _ _ (fun e => by rw [e, h6 j hj] at hp; exact hv _ (Option.some.inj hp).symm)]
    exact h6 j hj
/-- All words of w stay. -/
def Kept64 (w w' : World) : Prop := w.heap.size ≤ w'.heap.size ∧ ∀ p (x : Int), w.cell? p = some (.int .u64 x) → w'.cell? p = some (.int .u64 x)
theorem Kept64.refl (w : World) : Kept64 w w := ⟨Nat.le_refl _, fun _ _ h => h⟩
theorem Kept64.below {w w' : World} (h : Below w.heap.size w w') : Kept64 w w' := ⟨h.size, fun p x hp => (h.cell (World.block_lt_of_cell? w p hp)).trans hp⟩
theorem Kept64.trans {w w1 w2 : World} (h : Kept64 w w1) (k : Kept64 w1 w2) : Kept64 w w2 := ⟨Nat.le_trans h.1 k.1, fun p x hp => k.2 p x (h.2 p x hp)⟩
theorem Kept64.alloc {w w1 : World} (h : Kept64 w w1) (o : Obj) : Kept64 w (w1.alloc o) := h.trans (.below ((Below.refl _ _).alloc (Nat.le_refl _) _))
theorem Kept64.set {w w1 : World} {q : Addr} {v u : Value} (h : Kept64 w w1) (hp : w1.cell? q = some v) (hv : ∀ x : Int, v ≠ .int .u64 x) : Kept64 w (w1.setCell q u) :=
  ⟨by simpa using h.1, fun p x hx => by
    rw [World.cell?_setCell_other _ _ _ _ (fun e => by rw [e, h.2 p x hx] at hp; exact hv _ (Option.some.inj hp).symm)]
    exact h.2 p x hx⟩
theorem Bs.kept {w w' : World} {a : Option Addr} {n cap : Nat} {l : List Nat} (h : Bs w a n cap l) (k : Kept64 w w') : Bs w' a n cap l := by
  obtain ⟨ws, ⟨h1, h2, h3, h4⟩, hr⟩ := h
  refine ⟨ws, ⟨h1, h2, h3, ?_⟩, hr⟩
  rcases h4 with h4 | ⟨b, o, h4, h5, h6⟩
  · exact .inl h4
  · exact .inr ⟨b, o, h4, Nat.lt_of_lt_of_le h5 k.1, fun j hj => k.2 _ _ (h6 j hj)⟩
theorem bd0 {w w3 : World} (h : Below w.drew.heap.size w.drew w3) : Below w.heap.size w w3 := (Below.refl w.heap.size w).drew.trans (h.mono (by simp))
theorem bd1 {w w3 : World} {o : Obj} (h : Below (w.alloc o).drew.heap.size (w.alloc o).drew w3) : Below w.heap.size w w3 := bel1 (bd0 h)
theorem bd2 {w w3 : World} {o o2 : Obj} (h : Below ((w.alloc o).alloc o2).drew.heap.size ((w.alloc o).alloc o2).drew w3) : Below w.heap.size w w3 := bel2 (bd0 h)
def Spot (w : World) (g : Nat) (x : Value) : Prop := w.cell? ⟨g, 0, none⟩ = some x ∧ w.frozen? ⟨g, 0, none⟩ = false ∧ g < w.heap.size
theorem bw0 (w : World) : Below w.heap.size w w.drew := (Below.refl _ _).drew
theorem bw1 (w : World) (o : Obj) : Below w.heap.size w (w.alloc o).drew := ((Below.refl _ _).alloc (Nat.le_refl _) _).drew
theorem bw2 (w : World) (o o2 : Obj) : Below w.heap.size w ((w.alloc o).alloc o2).drew := (((Below.refl w.heap.size w).alloc (Nat.le_refl _) _).alloc (by simp) _).drew
theorem al1 {w w1 : World} (h : Below w.heap.size w w1) (o : Obj) : Below w.heap.size w (w1.alloc o) := h.alloc h.size _
theorem al2 {w w1 : World} (h : Below w.heap.size w w1) (o o2 : Obj) : Below w.heap.size w ((w1.alloc o).alloc o2) := al1 (al1 h o) o2
theorem nn1 {w w3 : World} {x : Value} {T : TypeId} (h : Below (w.alloc (.cells #[x] T)).heap.size (w.alloc (.cells #[x] T)) w3) : Spot w3 w.heap.size x :=
  ⟨(h.cell (p := ⟨w.heap.size, 0, none⟩) (by rw [World.size_alloc]; exact Nat.lt_succ_self _)).trans (new1 w x T).1, (h.frozen (p := ⟨w.heap.size, 0, none⟩) (by rw [World.size_alloc]; exact Nat.lt_succ_self _)).trans (new1 w x T).2, by have := h.size; rw [World.size_alloc] at this; exact this⟩
theorem nn2 {w w3 : World} {x y : Value} {T U : TypeId} (h : Below ((w.alloc (.cells #[x] T)).alloc (.cells #[y] U)).heap.size ((w.alloc (.cells #[x] T)).alloc (.cells #[y] U)) w3) : Spot w3 w.heap.size x ∧ Spot w3 (w.heap.size + 1) y := by
  have h2 := nn1 h
  rw [World.size_alloc] at h2
  exact ⟨nn1 (w3 := w3) (w := w) (x := x) (T := T) (bel1 h), h2⟩
theorem nd1 {w w3 : World} {x : Value} {T : TypeId} (h : Below (w.alloc (.cells #[x] T)).drew.heap.size (w.alloc (.cells #[x] T)).drew w3) : Spot w3 w.heap.size x := nn1 (bd0 h)
theorem nd2 {w w3 : World} {x y : Value} {T U : TypeId} (h : Below ((w.alloc (.cells #[x] T)).alloc (.cells #[y] U)).drew.heap.size ((w.alloc (.cells #[x] T)).alloc (.cells #[y] U)).drew w3) : Spot w3 w.heap.size x ∧ Spot w3 (w.heap.size + 1) y := nn2 (bd0 h)
theorem Spot.kept {w w2 : World} {g : Nat} {x : Value} (hc : Spot w g x) (h : Below w.heap.size w w2) : Spot w2 g x :=
  ⟨(h.cell (p := ⟨g, 0, none⟩) hc.2.2).trans hc.1, (h.frozen (p := ⟨g, 0, none⟩) hc.2.2).trans hc.2.1, Nat.lt_of_lt_of_le hc.2.2 h.size⟩
/-- What is known behind the two allocs and stores of the pair of sets. -/
def AfterW (wr w4 WF : World) (g11 g12 : Nat) (v3 v4 : Value) : Prop := Spot WF g11 v3 ∧ Spot WF g12 v4 ∧ Below wr.heap.size wr WF ∧ Kept64 w4 WF ∧ wr.heap.size ≤ g11 ∧ wr.heap.size ≤ g12
theorem spot_new (w : World) (x : Value) (T : TypeId) : Spot (w.alloc (.cells #[x] T)) w.heap.size x := ⟨(new1 w x T).1, (new1 w x T).2, by rw [World.size_alloc]; exact Nat.lt_succ_self _⟩
theorem Spot.alloc {w : World} {g : Nat} {x : Value} (h : Spot w g x) (o : Obj) : Spot (w.alloc o) g x := h.kept ((Below.refl _ _).alloc (Nat.le_refl _) _)
theorem Spot.same {w : World} {g : Nat} {x : Value} (h : Spot w g x) (u : Value) : Spot (w.setCell ⟨g, 0, none⟩ u) g u :=
  ⟨World.cell?_setCell_same _ _ _ h.1, by rw [World.frozen?_setCell]; exact h.2.1, by simpa using h.2.2⟩
theorem Spot.other {w : World} {g k : Nat} {x : Value} (h : Spot w g x) (u : Value) (hne : g ≠ k) : Spot (w.setCell ⟨k, 0, none⟩ u) g x :=
  ⟨(World.cell?_setCell_other _ _ _ _ (fun e => hne (by injection e with e; first | exact e.symm | exact e))).trans h.1, by rw [World.frozen?_setCell]; exact h.2.1, by simpa using h.2.2⟩
theorem ns (x : Int) : (Value.slice none 0 0) ≠ .int .u64 x := by intro h; cases h
theorem aw1 {wr w4 : World} (h : Below wr.heap.size wr w4) (v3 v4 : Value) (T : TypeId) : AfterW wr w4 ((w4.alloc (.cells #[v3] T)).alloc (.cells #[v4] T)) w4.heap.size (w4.heap.size + 1) v3 v4 := by
  have h2 := spot_new (w4.alloc (.cells #[v3] T)) v4 T
  rw [World.size_alloc] at h2
  exact ⟨(spot_new w4 v3 T).alloc _, h2, (h.alloc h.size _).alloc (h.alloc h.size _).size _, ((Kept64.refl _).alloc _).alloc _, h.size, Nat.le_succ_of_le h.size⟩
theorem aw2 {wr w4 : World} (h : Below wr.heap.size wr w4) (v3 v4 : Value) (T : TypeId) : AfterW wr w4 ((w4.alloc (.cells #[v4] T)).alloc (.cells #[v3] T)) (w4.heap.size + 1) w4.heap.size v3 v4 := by
  obtain ⟨a, b, c, d, e, f⟩ := aw1 h v4 v3 T
  exact ⟨b, a, c, d, f, e⟩
theorem aw3 {wr w4 : World} (h : Below wr.heap.size wr w4) (v3 v4 : Value) (T : TypeId) {X : Nat} (hX : Spot w4 X (.slice none 0 0)) (hr : wr.heap.size ≤ X) : AfterW wr w4 ((w4.setCell ⟨X, 0, none⟩ v3).alloc (.cells #[v4] T)) X w4.heap.size v3 v4 := by
  have h2 := spot_new (w4.setCell ⟨X, 0, none⟩ v3) v4 T
  rw [World.size_setCell] at h2
  have h3 : Below wr.heap.size wr (w4.setCell ⟨X, 0, none⟩ v3) := h.setCell hr v3
  exact ⟨(hX.same v3).alloc _, h2, h3.alloc h3.size _, ((Kept64.refl _).set hX.1 ns).alloc _, hr, h.size⟩
theorem aw4 {wr w4 : World} (h : Below wr.heap.size wr w4) (v3 v4 : Value) (T : TypeId) {X : Nat} (hX : Spot w4 X (.slice none 0 0)) (hr : wr.heap.size ≤ X) : AfterW wr w4 ((w4.setCell ⟨X, 0, none⟩ v4).alloc (.cells #[v3] T)) w4.heap.size X v3 v4 := by
  obtain ⟨a, b, c, d, e, f⟩ := aw3 h v4 v3 T hX hr
  exact ⟨b, a, c, d, f, e⟩
theorem aw5 {wr w4 : World} (h : Below wr.heap.size wr w4) (v3 v4 : Value) {X Y : Nat} (hX : Spot w4 X (.slice none 0 0)) (hY : Spot w4 Y (.slice none 0 0)) (hne : X ≠ Y) (hr : wr.heap.size ≤ X) (hr2 : wr.heap.size ≤ Y) :
    AfterW wr w4 ((w4.setCell ⟨X, 0, none⟩ v3).setCell ⟨Y, 0, none⟩ v4) X Y v3 v4 := by
  have h3 : Below wr.heap.size wr (w4.setCell ⟨X, 0, none⟩ v3) := h.setCell hr v3
  have hY2 := hY.other v3 (fun e => hne e.symm)
  exact ⟨(hX.same v3).other v4 hne, hY2.same v4, h3.setCell hr2 v4, ((Kept64.refl _).set hX.1 ns).set hY2.1 ns, hr, hr2⟩
theorem iw_one (w : World) (x : Int) : Iw (w.alloc (.cells #[.int .i64 x] 3)) (some ⟨w.heap.size, 0, none⟩) 1 1 [x] := iw_lit w _ [x] 1 rfl rfl (by omega)
theorem iw_one' (w : World) (x : Int) : Iw (w.alloc (.cells #[.int .i64 x] 3)).drew (some ⟨w.heap.size, 0, none⟩) 1 1 [x] := iw_one w x
theorem hasB_cs (S : List Nat) (i : Int) : hasB S i = decide (i ∈ cs S) := by
  unfold hasB
  by_cases h : 0 ≤ i
  · obtain ⟨m, rfl⟩ : ∃ m : Nat, i = m := ⟨i.toNat, by omega⟩
    simp [mem_cs]
  · have : i ∉ cs S := fun hm => by
      unfold cs at hm
      obtain ⟨y, _, e⟩ := List.mem_map.1 hm
      omega
    simp [h, this]
theorem asc_without {l : List Nat} (h : Asc l) (i : Int) : Asc (withoutL l i) := asc_filter h _
theorem abs_wp {P : Program} {c : Code} {Q : Exit → Act → World → Prop} {a : Act} {W : World} (F : World → Prop) (hF : F W) (h : ∀ W', F W' → c.wp P Q a W') : c.wp P Q a W := h W hF
set_option maxRecDepth 20000 in
theorem bitsChanges_walk (a b : Option Addr) (n m cap dap : Nat) (zs xs : List Int) (i : Int) (w : World) (hW : Wld w) (h : Iw w a n cap zs) (h2 : Iw w b m dap xs) :
    Calls Tryd.prog 10 #[.slice a n cap, .slice b m dap, .int .i64 i] w fun e w' => e = .returned (.bool true) ∧ Below w.heap.size w w' := by
  obtain ⟨n', ys, hn, hi, hf⟩ := few_do a n cap zs w h
  obtain ⟨m', us, hm, hj, hg⟩ := few_do b m dap xs w h2
  obtain ⟨L, eL⟩ : ∃ L, L = ofL ys := ⟨_, rfl⟩
  have AL : Hid (Asc L) := by rw [eL]; exact asc_ofL ys
  have EL := Lib.hid eL
  have HW := Lib.hid hW
  have HF := Lib.hid hf
  have HI := Lib.hid hi
  have HG := Lib.hid hg
  have HJ := Lib.hid hj
  have hmd := hj.2.1
  have hmd2 := hj.2.2.1
  clear hW hf hi h hg hj h2 eL
  have tk0 : Hid True := trivial
  go_enter Tryd.func10, Tryd.ntmps10
  go_wp2_with (first
    | (go_at_call 13; (with_reducible refine (awake_any _ HW.out).mono ?_); rintro e w0 ⟨rfl, hB⟩)
    | (go_at_call 14; (with_reducible refine (HF.out _ hB).mono ?_); rintro e wf ⟨rfl, hw⟩; rw [hw]; clear hw)
    | (go_at_call 14; (with_reducible refine (HG.out _ hB).mono ?_); rintro e wf ⟨rfl, hw⟩; rw [hw]; clear hw)
    | (go_at_call 16; clear tk0; (with_reducible refine (of_any _ _ _ _ _ (HI.out.below hB) (by omega)).mono ?_); have tk1 : Hid True := trivial; rintro e w1 ⟨a1, n1, c1, rfl, hs1, hb⟩; have hB := step_call hB hb; clear hb; rw [← EL.out] at hs1)
    | (go_at_call 17; clear tk1; (with_reducible refine (r_of _ _ _ _ _ (HI.out.below hB)).mono ?_); have tk2 : Hid True := trivial; rintro e w2 ⟨a2, n2, c2, rfl, hi2, hb⟩; have hB := step_call hB hb; have hs1 := hs1.below hb; clear hb; rw [← EL.out] at hi2))
  have HS0 := Lib.hid hs1
  have HI0 := Lib.hid hi2
  have HB0 := Lib.hid hB
  have hg0 := hB.size
  clear hs1 hi2 hB
  go_loopw [8, 25] (fun v8 v25 wr => ∃ (k : Nat) (sa ra : Option Addr) (sn sc rn rc : Nat) (S : List Nat), k ≤ m' ∧ v25 = .int .i64 k ∧ v8 = .slice ra rn rc ∧ Asc S ∧ wr.cell? ⟨w2.heap.size, 0, none⟩ = some (.slice sa sn sc) ∧ wr.frozen? ⟨w2.heap.size, 0, none⟩ = false ∧ w2.heap.size < wr.heap.size ∧ Hid (Bs wr sa sn sc S) ∧ Hid (Iw wr ra rn rc (cs S)) ∧ Hid (Below w.heap.size w wr)) (fun _ v _ => m' - (intOf v).toNat)
  case atStart => exact ⟨0, _, _, _, _, _, _, L, Nat.zero_le _, rfl, rfl, AL.out, (new1 w2 _ _).1, (new1 w2 _ _).2, by simp, HS0.out.below ((Below.refl _ _).alloc (Nat.le_refl _) _), HI0.out.below ((Below.refl _ _).alloc (Nat.le_refl _) _), HB0.out.alloc hg0 _⟩
  case round =>
    obtain ⟨k, sa, ra, sn, sc, rn, rc, S, hk, rfl, rfl, hS, q0, f0, hgz, HS, HR, HB⟩ := hrel
    have hzr := HB.out.size
    have AS := Lib.hid hS
    have HQ0 : Hid (∀ W', Below wr.heap.size wr W' → W'.cell? ⟨w2.heap.size, 0, none⟩ = some (.slice sa sn sc)) := fun W' hb => (hb.cell (p := ⟨w2.heap.size, 0, none⟩) hgz).trans q0
    clear hS
    by_cases hlt : k < m'
    · obtain ⟨b', o, rfl, hb', hc0⟩ := HJ.out.at hlt
      have hc := (HB.out.cell (p := ⟨b', o + k, none⟩) hb').trans hc0
      clear hc0
      generalize zg us k = x at hc
      go_wp2_with fail
      go_region_held3 (fun w' => w'.cell? ⟨w2.heap.size, 0, none⟩ = some (.slice sa sn sc))
        (first | exact HQ0.out _ (bw0 _) | exact HQ0.out _ hb4 | exact HQ0.out _ hb3 | exact HQ0.out _ (al1 hb4 _) | exact HQ0.out _ (al2 hb4 _ _) | exact HQ0.out _ (al1 hb3 _) | exact HQ0.out _ (al2 hb3 _ _) | exact HQ0.out _ (bw1 _ _) | exact HQ0.out _ (bw2 _ _ _) | (refine HQ0.out _ ?_; go_grown; done))
        (first
          | (go_at_call 40; (with_reducible refine (with_any sa sn sc S x _ (HS.out.below (bw0 wr))).mono ?_); rintro e w3 ⟨a3, n3, c3, rfl, hs3, hb3⟩; (first | (have ee := nd2 hb3; obtain ⟨P1, P2⟩ := ee; have HP1 := Lib.hid P1; have HP2 := Lib.hid P2; clear P1 P2) | (have ee := nd1 hb3; have HP1 := Lib.hid ee; clear ee) | skip); replace hb3 : Below wr.heap.size wr w3 := (by first | exact bd0 hb3 | exact bd1 hb3 | exact bd2 hb3); have hz3 := hb3.size)
          | (go_at_call 40; (with_reducible refine (with_any sa sn sc S x _ (HS.out.below (bw1 wr _))).mono ?_); rintro e w3 ⟨a3, n3, c3, rfl, hs3, hb3⟩; (first | (have ee := nd2 hb3; obtain ⟨P1, P2⟩ := ee; have HP1 := Lib.hid P1; have HP2 := Lib.hid P2; clear P1 P2) | (have ee := nd1 hb3; have HP1 := Lib.hid ee; clear ee) | skip); replace hb3 : Below wr.heap.size wr w3 := (by first | exact bd0 hb3 | exact bd1 hb3 | exact bd2 hb3); have hz3 := hb3.size)
          | (go_at_call 40; (with_reducible refine (with_any sa sn sc S x _ (HS.out.below (bw2 wr _ _))).mono ?_); rintro e w3 ⟨a3, n3, c3, rfl, hs3, hb3⟩; (first | (have ee := nd2 hb3; obtain ⟨P1, P2⟩ := ee; have HP1 := Lib.hid P1; have HP2 := Lib.hid P2; clear P1 P2) | (have ee := nd1 hb3; have HP1 := Lib.hid ee; clear ee) | skip); replace hb3 : Below wr.heap.size wr w3 := (by first | exact bd0 hb3 | exact bd1 hb3 | exact bd2 hb3); have hz3 := hb3.size)
          | (go_at_call 41; (with_reducible refine (without_any sa sn sc S x _ (HS.out.below (hb3))).mono ?_); rintro e w4 ⟨a4, n4, c4, rfl, hs4, hb4⟩; (first | (have ee := nn2 hb4; obtain ⟨⟨e3, g3, s3⟩, ⟨e4, g4, s4⟩⟩ := ee) | (have ee := nn1 hb4; obtain ⟨e3, g3, s3⟩ := ee) | skip); replace hb4 : Below w3.heap.size w3 w4 := (by first | exact hb4 | exact bel1 hb4 | exact bel2 hb4); (first | (have ee := HP1.out.kept hb4; obtain ⟨e5, g5, s5⟩ := ee) | skip); (first | (have ee := HP2.out.kept hb4; obtain ⟨e6, g6, s6⟩ := ee) | skip); have hk34 := Kept64.below hb4; have hz34 := hb4.size; (first | (have t1 : wr.heap.size < w3.heap.size := HP1.out.2.2; have m1 : wr.heap.size ≠ w3.heap.size := (by omega); have m2 : w3.heap.size ≠ wr.heap.size := (by omega); have m3 : wr.heap.size ≠ w4.heap.size := (by omega); have m4 : w4.heap.size ≠ wr.heap.size := (by omega)) | skip); (first | (have t3 : w3.heap.size < w4.heap.size := s3; have m5 : w3.heap.size ≠ w4.heap.size := (by omega); have m6 : w4.heap.size ≠ w3.heap.size := (by omega)) | skip); replace hb4 : Below wr.heap.size wr w4 := hb3.trans (hb4.mono hb3.size))
          | (go_at_call 41; (with_reducible refine (without_any sa sn sc S x _ (HS.out.below (al1 hb3 _))).mono ?_); rintro e w4 ⟨a4, n4, c4, rfl, hs4, hb4⟩; (first | (have ee := nn2 hb4; obtain ⟨⟨e3, g3, s3⟩, ⟨e4, g4, s4⟩⟩ := ee) | (have ee := nn1 hb4; obtain ⟨e3, g3, s3⟩ := ee) | skip); replace hb4 : Below w3.heap.size w3 w4 := (by first | exact hb4 | exact bel1 hb4 | exact bel2 hb4); (first | (have ee := HP1.out.kept hb4; obtain ⟨e5, g5, s5⟩ := ee) | skip); (first | (have ee := HP2.out.kept hb4; obtain ⟨e6, g6, s6⟩ := ee) | skip); have hk34 := Kept64.below hb4; have hz34 := hb4.size; (first | (have t1 : wr.heap.size < w3.heap.size := HP1.out.2.2; have m1 : wr.heap.size ≠ w3.heap.size := (by omega); have m2 : w3.heap.size ≠ wr.heap.size := (by omega); have m3 : wr.heap.size ≠ w4.heap.size := (by omega); have m4 : w4.heap.size ≠ wr.heap.size := (by omega)) | skip); (first | (have t3 : w3.heap.size < w4.heap.size := s3; have m5 : w3.heap.size ≠ w4.heap.size := (by omega); have m6 : w4.heap.size ≠ w3.heap.size := (by omega)) | skip); replace hb4 : Below wr.heap.size wr w4 := hb3.trans (hb4.mono hb3.size))
          | (go_at_call 41; (with_reducible refine (without_any sa sn sc S x _ (HS.out.below (al2 hb3 _ _))).mono ?_); rintro e w4 ⟨a4, n4, c4, rfl, hs4, hb4⟩; (first | (have ee := nn2 hb4; obtain ⟨⟨e3, g3, s3⟩, ⟨e4, g4, s4⟩⟩ := ee) | (have ee := nn1 hb4; obtain ⟨e3, g3, s3⟩ := ee) | skip); replace hb4 : Below w3.heap.size w3 w4 := (by first | exact hb4 | exact bel1 hb4 | exact bel2 hb4); (first | (have ee := HP1.out.kept hb4; obtain ⟨e5, g5, s5⟩ := ee) | skip); (first | (have ee := HP2.out.kept hb4; obtain ⟨e6, g6, s6⟩ := ee) | skip); have hk34 := Kept64.below hb4; have hz34 := hb4.size; (first | (have t1 : wr.heap.size < w3.heap.size := HP1.out.2.2; have m1 : wr.heap.size ≠ w3.heap.size := (by omega); have m2 : w3.heap.size ≠ wr.heap.size := (by omega); have m3 : wr.heap.size ≠ w4.heap.size := (by omega); have m4 : w4.heap.size ≠ wr.heap.size := (by omega)) | skip); (first | (have t3 : w3.heap.size < w4.heap.size := s3; have m5 : w3.heap.size ≠ w4.heap.size := (by omega); have m6 : w4.heap.size ≠ w3.heap.size := (by omega)) | skip); replace hb4 : Below wr.heap.size wr w4 := hb3.trans (hb4.mono hb3.size)))
      all_goals go_wp2_with fail
      refine abs_wp (fun W' => AfterW wr w4 W' (w4.heap.size) (w4.heap.size + 1) (.slice a3 n3 c3) (.slice a4 n4 c4)) (aw1 hb4 (.slice a3 n3 c3) (.slice a4 n4 c4) 27) (fun WF hF => ?_)
      generalize w4.heap.size + 1 = g12 at hF ⊢; generalize w4.heap.size = g11 at hF ⊢
      rotate_left
      refine abs_wp (fun W' => AfterW wr w4 W' (w4.heap.size + 1) (w4.heap.size) (.slice a3 n3 c3) (.slice a4 n4 c4)) (aw2 hb4 (.slice a3 n3 c3) (.slice a4 n4 c4) 27) (fun WF hF => ?_)
      generalize w4.heap.size + 1 = g11 at hF ⊢; generalize w4.heap.size = g12 at hF ⊢
      rotate_left
      refine abs_wp (fun W' => AfterW wr w4 W' (w3.heap.size) (w4.heap.size) (.slice a3 n3 c3) (.slice a4 n4 c4)) (aw3 hb4 (.slice a3 n3 c3) (.slice a4 n4 c4) 27 ⟨e3, g3, s3⟩ (by omega)) (fun WF hF => ?_)
      generalize w3.heap.size = g11 at hF ⊢; generalize w4.heap.size = g12 at hF ⊢
      rotate_left
      refine abs_wp (fun W' => AfterW wr w4 W' (w3.heap.size) (w3.heap.size + 1) (.slice a3 n3 c3) (.slice a4 n4 c4)) (aw5 hb4 (.slice a3 n3 c3) (.slice a4 n4 c4) ⟨e3, g3, s3⟩ ⟨e4, g4, s4⟩ (by omega) (by omega) (by omega)) (fun WF hF => ?_)
      generalize w3.heap.size + 1 = g12 at hF ⊢; generalize w3.heap.size = g11 at hF ⊢
      rotate_left
      refine abs_wp (fun W' => AfterW wr w4 W' (w4.heap.size) (w3.heap.size) (.slice a3 n3 c3) (.slice a4 n4 c4)) (aw4 hb4 (.slice a3 n3 c3) (.slice a4 n4 c4) 27 ⟨e3, g3, s3⟩ (by omega)) (fun WF hF => ?_)
      generalize w4.heap.size = g11 at hF ⊢; generalize w3.heap.size = g12 at hF ⊢
      rotate_left
      refine abs_wp (fun W' => AfterW wr w4 W' (w3.heap.size + 1) (w3.heap.size) (.slice a3 n3 c3) (.slice a4 n4 c4)) (aw5 hb4 (.slice a3 n3 c3) (.slice a4 n4 c4) ⟨e4, g4, s4⟩ ⟨e3, g3, s3⟩ (by omega) (by omega) (by omega)) (fun WF hF => ?_)
      generalize w3.heap.size + 1 = g11 at hF ⊢; generalize w3.heap.size = g12 at hF ⊢
      rotate_left
      refine abs_wp (fun W' => AfterW wr w4 W' (wr.heap.size) (w4.heap.size) (.slice a3 n3 c3) (.slice a4 n4 c4)) (aw3 hb4 (.slice a3 n3 c3) (.slice a4 n4 c4) 27 ⟨e5, g5, s5⟩ (by omega)) (fun WF hF => ?_)
      generalize wr.heap.size = g11 at hF ⊢; generalize w4.heap.size = g12 at hF ⊢
      rotate_left
      refine abs_wp (fun W' => AfterW wr w4 W' (wr.heap.size) (w3.heap.size) (.slice a3 n3 c3) (.slice a4 n4 c4)) (aw5 hb4 (.slice a3 n3 c3) (.slice a4 n4 c4) ⟨e5, g5, s5⟩ ⟨e3, g3, s3⟩ (by omega) (by omega) (by omega)) (fun WF hF => ?_)
      generalize wr.heap.size = g11 at hF ⊢; generalize w3.heap.size = g12 at hF ⊢
      rotate_left
      refine abs_wp (fun W' => AfterW wr w4 W' (wr.heap.size) (wr.heap.size + 1) (.slice a3 n3 c3) (.slice a4 n4 c4)) (aw5 hb4 (.slice a3 n3 c3) (.slice a4 n4 c4) ⟨e5, g5, s5⟩ ⟨e6, g6, s6⟩ (by omega) (by omega) (by omega)) (fun WF hF => ?_)
      generalize wr.heap.size + 1 = g12 at hF ⊢; generalize wr.heap.size = g11 at hF ⊢
      rotate_left
      refine abs_wp (fun W' => AfterW wr w4 W' (w4.heap.size) (wr.heap.size) (.slice a3 n3 c3) (.slice a4 n4 c4)) (aw4 hb4 (.slice a3 n3 c3) (.slice a4 n4 c4) 27 ⟨e5, g5, s5⟩ (by omega)) (fun WF hF => ?_)
      generalize w4.heap.size = g11 at hF ⊢; generalize wr.heap.size = g12 at hF ⊢
      rotate_left
      refine abs_wp (fun W' => AfterW wr w4 W' (w3.heap.size) (wr.heap.size) (.slice a3 n3 c3) (.slice a4 n4 c4)) (aw5 hb4 (.slice a3 n3 c3) (.slice a4 n4 c4) ⟨e3, g3, s3⟩ ⟨e5, g5, s5⟩ (by omega) (by omega) (by omega)) (fun WF hF => ?_)
      generalize w3.heap.size = g11 at hF ⊢; generalize wr.heap.size = g12 at hF ⊢
      rotate_left
      refine abs_wp (fun W' => AfterW wr w4 W' (wr.heap.size + 1) (wr.heap.size) (.slice a3 n3 c3) (.slice a4 n4 c4)) (aw5 hb4 (.slice a3 n3 c3) (.slice a4 n4 c4) ⟨e6, g6, s6⟩ ⟨e5, g5, s5⟩ (by omega) (by omega) (by omega)) (fun WF hF => ?_)
      generalize wr.heap.size + 1 = g11 at hF ⊢; generalize wr.heap.size = g12 at hF ⊢
      rotate_left
      all_goals
        obtain ⟨p11, p12, hBW, hK4, hx11, hx12⟩ := hF
        have HSA := Lib.hid (hs3.kept (hk34.trans hK4))
        have HSB := Lib.hid (hs4.kept hK4)
        have hzW := hBW.size
        have HRW : Hid (Iw WF ra rn rc (cs S)) := HR.out.below hBW
        have HSW : Hid (Bs WF sa sn sc S) := HS.out.below hBW
        have HBB : Hid (Below w.heap.size w WF) := HB.out.trans (hBW.mono hzr)
        have P00 : Hid (Spot WF w2.heap.size (.slice sa sn sc)) := Spot.kept ⟨q0, f0, hgz⟩ hBW
        have P11 := Lib.hid p11
        have P12 := Lib.hid p12
        have ng11 : g11 ≠ w2.heap.size := by omega
        have ng12 : g12 ≠ w2.heap.size := by omega
        have HQ : Hid (∀ W', Below WF.heap.size WF W' → W'.cell? ⟨g11, 0, none⟩ = some (.slice a3 n3 c3) ∧ W'.cell? ⟨g12, 0, none⟩ = some (.slice a4 n4 c4) ∧ W'.cell? ⟨w2.heap.size, 0, none⟩ = some (.slice sa sn sc)) := fun W' hb => ⟨(P11.out.kept hb).1, (P12.out.kept hb).1, (P00.out.kept hb).1⟩
        clear hs3 hs4 hb3 hb4 hk34 hK4 p11 p12 hBW hc q0 f0
        by_cases hp : x.tmod 2 = 0
        · have hpb : (x.tmod 2 == 0) = true := by rw [hp]; rfl
          go_region_held3 (fun w' => w'.cell? ⟨g11, 0, none⟩ = some (.slice a3 n3 c3) ∧ w'.cell? ⟨g12, 0, none⟩ = some (.slice a4 n4 c4) ∧ w'.cell? ⟨w2.heap.size, 0, none⟩ = some (.slice sa sn sc))
            (first | exact HQ.out _ (Below.refl _ _).drew | exact HQ.out _ hb9 | exact HQ.out _ hb8 | exact HQ.out _ hb7 | exact HQ.out _ (hb6.alloc hb6.size _) | exact HQ.out _ hb6 | exact HQ.out _ hb5)
            (first
              | (go_at_call 42; (with_reducible refine (r_with ra rn rc S x _ (HRW.out.below (Below.refl WF.heap.size WF).drew) AS.out).mono ?_); rintro e w5 ⟨a5, n5, c5, rfl, hi5, hb5⟩; replace hb5 := bd0 hb5)
              | (go_at_call 15; (with_reducible refine (is_yes _ _ _ _ _ _ _ _ (HSA.out.below hb5) hi5 (HW.out.below (step_call HBB.out hb5))).mono ?_); rintro e w6 ⟨rfl, hb6⟩; replace hb6 := hb5.trans (hb6.mono hb5.size); clear hi5)
              | (go_at_call 39; (with_reducible refine (r_minus1 ra _ rn rc 1 S x _ (HRW.out.below (hb6.alloc hb6.size _)) (iw_one w6 x) AS.out).mono ?_); rintro e w7 ⟨a7, n7, c7, rfl, hi7, hb7⟩; replace hb7 : Below WF.heap.size WF w7 := hb6.trans ((bel1 hb7).mono hb6.size))
              | (go_at_call 15; (with_reducible refine (is_yes _ _ _ _ _ _ _ _ (HSB.out.below hb7) hi7 (HW.out.below (step_call HBB.out hb7))).mono ?_); rintro e w8 ⟨rfl, hb8⟩; replace hb8 := hb7.trans (hb8.mono hb7.size); clear hi7)
              | (go_at_call 15; (with_reducible refine (is_yes _ _ _ _ _ _ _ _ (HSW.out.below hb8) (HRW.out.below hb8) (HW.out.below (step_call HBB.out hb8))).mono ?_); rintro e w9 ⟨rfl, hb9⟩; replace hb9 := hb8.trans (hb9.mono hb8.size)))
          go_wp2_with fail
          go_region_held3 (fun w' => w'.cell? ⟨g11, 0, none⟩ = some (.slice a3 n3 c3))
            (first | exact (HQ.out _ hb9.drew).1 | exact (HQ.out _ hb10).1 | exact HL.out.1)
            (first | (go_at_call 42; (with_reducible refine (r_with ra rn rc S x _ (HRW.out.below hb9.drew) AS.out).mono ?_); rintro e w10 ⟨a10, n10, c10, rfl, hi10, hb10⟩; replace hb10 := bd0 hb10; replace hb10 := hb9.trans (hb10.mono hb9.size); have P10 := P00.out.kept hb10; have q10 := P10.1; have f10 := P10.2.1; have z10 := P10.2.2; have HL : Hid (Spot (w10.setCell ⟨w2.heap.size, 0, none⟩ (.slice a3 n3 c3)) g11 (.slice a3 n3 c3)) := (P11.out.kept hb10).other _ ng11))
          go_wp2_with fail
          go_roundw
          case rel => exact ⟨k + 1, a3, a10, n3, c3, n10, c10, withL S x, by omega, by go_num, rfl, asc_withL AS.out x, World.cell?_setCell_same _ _ _ q10, by rw [World.frozen?_setCell]; exact f10, by simpa using z10, (HSA.out.below hb10).set q10 (by intro y h; cases h), hi10.set q10 (by intro y h; cases h), (step_call HBB.out hb10).setCell hg0 _⟩
          case measure => simp [intOf]; omega
        · have hpb : (x.tmod 2 == 0) = false := beq_eq_false_iff_ne.2 hp
          go_region_held3 (fun w' => w'.cell? ⟨g11, 0, none⟩ = some (.slice a3 n3 c3) ∧ w'.cell? ⟨g12, 0, none⟩ = some (.slice a4 n4 c4) ∧ w'.cell? ⟨w2.heap.size, 0, none⟩ = some (.slice sa sn sc))
            (first | exact HQ.out _ (Below.refl _ _).drew | exact HQ.out _ hb9 | exact HQ.out _ hb8 | exact HQ.out _ hb7 | exact HQ.out _ (hb6.alloc hb6.size _) | exact HQ.out _ hb6 | exact HQ.out _ hb5)
            (first
              | (go_at_call 42; (with_reducible refine (r_with ra rn rc S x _ (HRW.out.below (Below.refl WF.heap.size WF).drew) AS.out).mono ?_); rintro e w5 ⟨a5, n5, c5, rfl, hi5, hb5⟩; replace hb5 := bd0 hb5)
              | (go_at_call 15; (with_reducible refine (is_yes _ _ _ _ _ _ _ _ (HSA.out.below hb5) hi5 (HW.out.below (step_call HBB.out hb5))).mono ?_); rintro e w6 ⟨rfl, hb6⟩; replace hb6 := hb5.trans (hb6.mono hb5.size); clear hi5)
              | (go_at_call 39; (with_reducible refine (r_minus1 ra _ rn rc 1 S x _ (HRW.out.below (hb6.alloc hb6.size _)) (iw_one w6 x) AS.out).mono ?_); rintro e w7 ⟨a7, n7, c7, rfl, hi7, hb7⟩; replace hb7 : Below WF.heap.size WF w7 := hb6.trans ((bel1 hb7).mono hb6.size))
              | (go_at_call 15; (with_reducible refine (is_yes _ _ _ _ _ _ _ _ (HSB.out.below hb7) hi7 (HW.out.below (step_call HBB.out hb7))).mono ?_); rintro e w8 ⟨rfl, hb8⟩; replace hb8 := hb7.trans (hb8.mono hb7.size); clear hi7)
              | (go_at_call 15; (with_reducible refine (is_yes _ _ _ _ _ _ _ _ (HSW.out.below hb8) (HRW.out.below hb8) (HW.out.below (step_call HBB.out hb8))).mono ?_); rintro e w9 ⟨rfl, hb9⟩; replace hb9 := hb8.trans (hb9.mono hb8.size)))
          go_wp2_with fail
          go_region_held3 (fun w' => w'.cell? ⟨g12, 0, none⟩ = some (.slice a4 n4 c4))
            (first | exact (HQ.out _ hb9.drew).2.1 | exact (HQ.out _ hb10).2.1 | exact HL.out.1 | exact (HQ.out _ (hb9.alloc hb9.size _).drew).2.1)
            (first | (go_at_call 39; (with_reducible refine (r_minus1 ra _ rn rc 1 S x _ (HRW.out.below (hb9.alloc hb9.size _).drew) (iw_one' w9 x) AS.out).mono ?_); rintro e w10 ⟨a10, n10, c10, rfl, hi10, hb10⟩; replace hb10 := bd1 hb10; replace hb10 := hb9.trans (hb10.mono hb9.size); have P10 := P00.out.kept hb10; have q10 := P10.1; have f10 := P10.2.1; have z10 := P10.2.2; have HL : Hid (Spot (w10.setCell ⟨w2.heap.size, 0, none⟩ (.slice a4 n4 c4)) g12 (.slice a4 n4 c4)) := (P12.out.kept hb10).other _ ng12))
          go_wp2_with fail
          go_roundw
          case rel => exact ⟨k + 1, a4, a10, n4, c4, n10, c10, withoutL S x, by omega, by go_num, rfl, asc_without AS.out x, World.cell?_setCell_same _ _ _ q10, by rw [World.frozen?_setCell]; exact f10, by simpa using z10, (HSB.out.below hb10).set q10 (by intro y h; cases h), hi10.set q10 (by intro y h; cases h), (step_call HBB.out hb10).setCell hg0 _⟩
          case measure => simp [intOf]; omega
    · obtain ⟨p, hpp⟩ : ∃ p, hasB S i = p := ⟨_, rfl⟩
      have HP1 := Lib.hid hpp
      have HP2 : Hid (decide (i ∈ cs S) = p) := (hasB_cs S i).symm.trans hpp
      clear hpp
      go_wp2_with (first
        | (go_at_call 15; (with_reducible refine (is_yes _ _ _ _ _ _ _ _ HS.out HR.out (HW.out.below HB.out)).mono ?_); rintro e w5 ⟨rfl, hb5⟩; have q5 := HQ0.out _ hb5)
        | (go_at_call 43; (with_reducible refine (has_any _ _ _ S i _ (HS.out.below hb5)).mono ?_); rintro e w6 ⟨rfl, hb6⟩; rw [HP1.out]; have hb6 := hb5.trans (hb6.mono hb5.size))
        | (go_at_call 44; (with_reducible refine (rhas_any _ _ _ _ i _ (HR.out.below hb6)).mono ?_); rintro e w7 ⟨rfl, hw⟩; rw [hw, HP2.out]; clear hw))
      go_ret
      exact ⟨ret_bool (by simp), step_call HB.out hb6⟩
end Go.Proofs.YtaekkpoknpnnbaaDoor
