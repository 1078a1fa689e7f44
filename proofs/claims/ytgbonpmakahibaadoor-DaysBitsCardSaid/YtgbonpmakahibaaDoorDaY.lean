/- Contracts: the closures of DaysBits. -/
import Derived.Test.YtgbonpmakahibaaDoorDaX
import Derived.Deep.AppendLies
namespace Go.Proofs.YtgbonpmakahibaaDoor.Dy
open Go.RowKit Go.PlainAid
set_option linter.unusedVariables false
set_option linter.unusedSimpArgs false
set_option maxHeartbeats 8000000

def tz' (w : World) : Prop := Tz w
def lowP (p : Nat × Nat) : Int × Int := (min (((p.1 % 301 : Nat) : Int)) ((p.2 % 301 : Nat) : Int), max (((p.1 % 301 : Nat) : Int)) ((p.2 % 301 : Nat) : Int))
theorem low_ok (l : List (Nat × Nat)) : ∀ p ∈ l.map lowP, Lo p := by
  intro p hp
  obtain ⟨q, -, rfl⟩ := List.mem_map.1 hp
  unfold lowP Lo
  dsimp only
  omega
theorem Lo.okp {p : Int × Int} (h : Lo p) : Okp p := by unfold Lo at h; unfold Okp; omega
/-- What make2 gives. -/
def Make2P (w : World) (e : Ending) (w' : World) : Prop :=
  ∃ a n c r b m d s, e = .returned (.tuple #[.agg #[.slice a n c], .agg #[.slice b m d], .bool true]) ∧ Ds w' a n c r ∧ Bs w' b m d s ∧ RelB r s ∧ RowKit.Below w.heap.size w w'
theorem Bs.down {w w' : World} {a : Option Addr} {n cap N : Nat} {l : List Nat} (h : Bs w a n cap l) (hb : RowKit.Below N w w') (hN : w.heap.size ≤ N) : Bs w' a n cap l := h.below (hb.mono hN)
/-- A store of a set's slice leaves words as they are. -/
theorem Bs.set {w : World} {a : Option Addr} {n cap : Nat} {l : List Nat} {p : Addr} {v u : Value} (h : Bs w a n cap l) (hp : w.cell? p = some v) (hv : ∀ x : Int, v ≠ .int .u64 x) : Bs (w.setCell p u) a n cap l := by
  obtain ⟨ws, ⟨h1, h2, h3, h4⟩, hr⟩ := h
  refine ⟨ws, ⟨h1, h2, h3, ?_⟩, hr⟩
  rcases h4 with h4 | ⟨b, o, h4, hb, hc⟩
  · exact .inl h4
  · refine .inr ⟨b, o, h4, by simpa using hb, fun j hj => ?_⟩
    rw [World.cell?_setCell_other]
    · exact hc j hj
    · intro e
      rw [e, hc j hj] at hp
      exact hv _ (Option.some.inj hp).symm
theorem iw_none (w : World) : Iw w none 0 0 [] := ⟨rfl, Nat.le_refl _, by omega, .inl ⟨rfl, rfl, rfl⟩⟩
theorem of_none (w : World) : Calls Tryd.prog 31 #[.slice none 0 0] w (SetPost w []) := by
  have h := Go.Proofs.YtgbonpmakahibaaDoor.of_any none 0 0 [] w (iw_none w) (by omega)
  have e : ofL [] = [] := by
    unfold ofL
    exact List.filter_eq_nil_iff.2 (by simp)
  rwa [e] at h

/-- The words of b6 lie apart from the row v. -/
def BitK (w : World) (v : Value) (a : Option Addr) (n cap : Nat) (l : List Nat) : Prop := Bs w a n cap l ∧ (n = 0 ∨ ∃ g, a = some ⟨g, 0, none⟩ ∧ v.ownBlock ≠ some g)
theorem Bs.grown {w w' : World} {a : Option Addr} {n cap : Nat} {l : List Nat} {row : Option Nat} (h : Bs w a n cap l) (hg : w.grownBy w' row) (hr : n = 0 ∨ ∃ g, a = some ⟨g, 0, none⟩ ∧ row ≠ some g) : Bs w' a n cap l := by
  obtain ⟨ws, ⟨h1, h2, h3, h4⟩, hrp⟩ := h
  refine ⟨ws, ⟨h1, h2, h3, ?_⟩, hrp⟩
  rcases h4 with h4 | ⟨b, o, h4, hb, hc⟩
  · exact .inl h4
  · refine .inr ⟨b, o, h4, Nat.lt_of_lt_of_le hb hg.size, fun j hj => ?_⟩
    rcases hr with hr | ⟨g, he, hr⟩
    · omega
    · rw [h4] at he
      cases he
      exact hg.cell (hc j hj) (fun e => hr e.symm)
/-- What the round carries. -/
def St (w1 : World) (N : Nat) (v : Value) (L : List (Int × Int)) (a : Option Addr) (n c : Nat) (b : List Nat) (w : World) : Prop :=
  w.cell? ⟨N, 0, none⟩ = some (.slice a n c) ∧ w.frozen? ⟨N, 0, none⟩ = false ∧ N < w.heap.size ∧ RowKit.Below N w1 w ∧ Os 60 w (N + 1) v L ∧ Bs w a n c b
theorem St.go {w1 w w' : World} {N : Nat} {v : Value} {L : List (Int × Int)} {a : Option Addr} {n c : Nat} {b : List Nat} (h : St w1 N v L a n c b w) (hb : RowKit.Below w.heap.size w w') : St w1 N v L a n c b w' := by
  obtain ⟨h1, h2, h3, h4, h5, h6⟩ := h
  exact ⟨(hb.cell (p := ⟨N, 0, none⟩) h3).trans h1, (hb.frozen (p := ⟨N, 0, none⟩) h3).trans h2, Nat.lt_of_lt_of_le h3 hb.size, h4.trans (hb.mono (Nat.le_of_lt h3)), h5.below (Nat.le_refl _) hb, h6.below hb⟩
theorem St.grown {w1 w w' : World} {N : Nat} {v v' : Value} {L L' : List (Int × Int)} {a : Option Addr} {n c : Nat} {b : List Nat} (h : St w1 N v L a n c b w) (hr : n = 0 ∨ ∃ g, a = some ⟨g, 0, none⟩ ∧ v.ownBlock ≠ some g)
    (hg : w.grownBy w' v.ownBlock) (h' : Os 60 w' (N + 1) v' L') : St w1 N v' L' a n c b w' := by
  obtain ⟨h1, h2, h3, h4, h5, h6⟩ := h
  have hne : some N ≠ v.ownBlock := fun e => by have := (h5.lt N e.symm).1; omega
  exact ⟨(hg.cell_far ⟨N, 0, none⟩ h3 hne).trans h1, (hg.frozen_far ⟨N, 0, none⟩ h3 hne).trans h2, Nat.lt_of_lt_of_le h3 hg.size, h4.grown hg (Nat.le_of_lt h3) (fun k hk => Nat.le_of_succ_le (h5.lt k hk).1), h', Bs.grown h6 hg hr⟩
theorem St.put {w1 w w2 : World} {N : Nat} {v : Value} {L : List (Int × Int)} {a : Option Addr} {n c : Nat} {b b' : List Nat} {g k : Nat} (h : St w1 N v L a n c b w) (hs : w2.heap.size ≤ g) (h2 : Os 60 w2 (N + 1) v L) (hb : Bs w (some ⟨g, 0, none⟩) k k b') :
    let w' := w.setCell ⟨N, 0, none⟩ (.slice (some ⟨g, 0, none⟩) k k)
    w'.cell? ⟨N, 0, none⟩ = some (.slice (some ⟨g, 0, none⟩) k k) ∧ w'.frozen? ⟨N, 0, none⟩ = false ∧ BitK w' v (some ⟨g, 0, none⟩) k k b' ∧ RowKit.Below N w1 w' ∧ Os 60 w' (N + 1) v L ∧ N + 1 ≤ w'.heap.size := by
  obtain ⟨h1, h2', h3, h4, h5, h6⟩ := h
  refine ⟨World.cell?_setCell_same _ _ _ h1, by rw [World.frozen?_setCell]; exact h2', ⟨Bs.set hb h1 (fun x e => by cases e), .inr ⟨g, rfl, fun e => ?_⟩⟩, h4.setCell (Nat.le_refl _) _, ownsRow_setCell_below h5 (Nat.lt_succ_self _) _, by rw [World.size_setCell]; exact h3⟩
  have := (h2.lt g e).2
  omega
/-- What is known at the loop's end. -/
def Rd (w : World) (N : Nat) (a : Option Addr) (n c : Nat) (b : List Nat) (W : World) : Prop :=
  W.cell? ⟨N, 0, none⟩ = some (.slice a n c) ∧ (W.cell? ⟨w.heap.size, 0, none⟩ = some (.slice none 0 0) ∧ W.frozen? ⟨w.heap.size, 0, none⟩ = false) ∧ (W.cell? ⟨w.heap.size + 1, 0, none⟩ = some (.slice none 0 0) ∧ W.frozen? ⟨w.heap.size + 1, 0, none⟩ = false) ∧ Bs W a n c b ∧ RowKit.Below w.heap.size w W ∧ w.heap.size + 2 ≤ N ∧ N < W.heap.size
theorem Rd.go {w W W' : World} {N : Nat} {a : Option Addr} {n c : Nat} {b : List Nat} (h : Rd w N a n c b W) (hb : RowKit.Below W.heap.size W W') : Rd w N a n c b W' := by
  obtain ⟨h1, ⟨h2, h3⟩, ⟨h4, h5⟩, h6, h7, h8, h9⟩ := h
  have l0 : w.heap.size < W.heap.size := by omega
  have l1 : w.heap.size + 1 < W.heap.size := by omega
  exact ⟨(hb.cell (p := ⟨N, 0, none⟩) h9).trans h1, ⟨(hb.cell (p := ⟨_, 0, none⟩) l0).trans h2, (hb.frozen (p := ⟨_, 0, none⟩) l0).trans h3⟩, ⟨(hb.cell (p := ⟨_, 0, none⟩) l1).trans h4, (hb.frozen (p := ⟨_, 0, none⟩) l1).trans h5⟩, h6.below hb, h7.trans (hb.mono (Nat.le_of_lt l0)), h8, Nat.lt_of_lt_of_le h9 hb.size⟩
/-- What is known behind 's := days.Of(..)'. -/
def Fin (w : World) (N sb : Nat) (a3 : Option Addr) (n3 c3 : Nat) (r : List (Int × Int)) (a : Option Addr) (n c : Nat) (b : List Nat) (W : World) : Prop :=
  (W.cell? ⟨sb, 0, none⟩ = some (.slice a3 n3 c3) ∧ N < sb) ∧ Rd w N a n c b W ∧ Ds W a3 n3 c3 r
theorem S2 {W : World} {sb N k : Nat} {x y v : Value} (h1 : sb ≠ k) (h2 : N ≠ k) (h : W.cell? ⟨sb, 0, none⟩ = some x ∧ W.cell? ⟨N, 0, none⟩ = some y) : (W.setCell ⟨k, 0, none⟩ v).cell? ⟨sb, 0, none⟩ = some x ∧ (W.setCell ⟨k, 0, none⟩ v).cell? ⟨N, 0, none⟩ = some y :=
  ⟨(World.cell?_setCell_other _ _ _ _ (fun e => by injection e with e1; omega)).trans h.1, (World.cell?_setCell_other _ _ _ _ (fun e => by injection e with e1; omega)).trans h.2⟩
set_option maxRecDepth 100000 in
theorem make2_any (a : Option Addr) (n cap : Nat) (l : List (Nat × Nat)) (w : World) (h : Us w a n cap l) :
    Calls Tryd.prog 30 #[.slice a n cap] w (Make2P w) := by
  obtain ⟨i0, hi, hz0, hz1, hz2⟩ := info_parts infoSpan
  obtain ⟨hl, hc, hm, h4⟩ := h
  have H4 := Lib.hid h4
  obtain ⟨L, eL⟩ : ∃ L, L = l.map lowP := ⟨_, rfl⟩
  have HEL := Lib.hid eL
  have HLL : Hid (L.length = n) := by show _ = _; rw [eL, List.length_map, hl]
  have HOK : Hid (∀ p ∈ L, Lo p) := by show ∀ p ∈ L, Lo p; rw [eL]; exact low_ok l
  have HL := Lib.hid hl
  clear h4 hl eL
  have hE := RowKit.Below.refl (w.heap.size + 2) ((w.alloc (.cells #[.slice none 0 0] 26)).alloc (.cells #[.slice none 0 0] 55))
  obtain ⟨qa, qb, fb, -, hD0⟩ := box2 hE
  have fa : ((w.alloc (.cells #[.slice none 0 0] 26)).alloc (.cells #[.slice none 0 0] 55)).frozen? ⟨w.heap.size, 0, none⟩ = false := by simp
  go_enter Tryd.func30, Tryd.ntmps30
  go_wp2_with (first
    | (go_at_call 31; (with_reducible refine (of_none _).mono ?_); rintro e w1 ⟨a1, n1, c1, rfl, hs1, hb1⟩; have hE1 := hE.trans (hb1.mono (by simp)); have HS1 := Lib.hid hs1; clear hs1))
  have hz1' := hE1.size
  simp only [World.size_alloc] at hz1'
  obtain ⟨qa1, qb1, fb1, -, hD1⟩ := box2 hE1
  have fa1 : w1.frozen? ⟨w.heap.size, 0, none⟩ = false := (hE1.frozen (p := ⟨w.heap.size, 0, none⟩) (show w.heap.size < w.heap.size + 2 by omega)).trans fa
  obtain ⟨N, hN⟩ : ∃ N, w1.heap.size = N := ⟨_, rfl⟩
  have HN := Lib.hid hN
  have hwN : w.heap.size + 2 ≤ N := by omega
  have q6 := new1 w1 (.slice a1 n1 c1) 55
  have hW0 := (RowKit.Below.refl w1.heap.size w1).alloc (Nat.le_refl _) (.cells #[.slice a1 n1 c1] 55)
  have hz0' : (w1.alloc (.cells #[.slice a1 n1 c1] 55)).heap.size = N + 1 := by rw [World.size_alloc, hN]
  have hBs0 := HS1.out.below hW0
  have hn1 : n1 = 0 := by
    obtain ⟨ws, hw, hr⟩ := HS1.out
    have := hr.uniq Rp.nil
    rw [← hw.1, this]; rfl
  have hBK : BitK (w1.alloc (.cells #[.slice a1 n1 c1] 55)) (.slice none 0 0) a1 n1 c1 [] := ⟨hBs0, .inl hn1⟩
  rw [hN] at q6 hW0
  clear hN hb1 hE hE1 qa qb fb fa hD0 HS1 hBs0 hn1 hz1'
  generalize hWX : w1.alloc (.cells #[.slice a1 n1 c1] 55) = wx at q6 hW0 hz0' hBK ⊢
  have HWX := Lib.hid hWX
  have hDx : RowKit.Below w.heap.size w wx := hD1.trans (hW0.mono (by omega))
  have hNle : N ≤ wx.heap.size := by omega
  clear hWX
  rw [HN.out]
  go_loopw [5, 7] (fun v5 v7 wr => ∃ (j : Nat) (a6 : Option Addr) (n6 c6 : Nat) (b6 : List Nat), j ≤ n ∧ j ≤ 6 ∧ v7 = .int .i64 j ∧ Hid ((L.take j).length = j) ∧ Os 60 wr (N + 1) v5 (L.take j) ∧ wr.cell? ⟨N, 0, none⟩ = some (.slice a6 n6 c6) ∧ wr.frozen? ⟨N, 0, none⟩ = false ∧ BitK wr v5 a6 n6 c6 b6 ∧ Hid (RelM (L.take j) b6) ∧ RowKit.Below N w1 wr ∧ N + 1 ≤ wr.heap.size) (fun _ v _ => 6 - (intOf v).toNat)
  case atStart => exact ⟨0, a1, n1, c1, [], by omega, by omega, rfl, rfl, Os.nil _ _ _, q6.1, q6.2, hBK, RelM.nil, hW0, by omega⟩
  case round =>
    obtain ⟨j, a6, n6, c6, b6, hj, hj6, rfl, htl, hown, g6, f6, hbk, hrel6, hbel, hzr⟩ := hrel
    have hj0 : (0 : Int) ≤ (j : Int) := Int.natCast_nonneg _
    by_cases hjn : j < n
    · have hj1 : (j : Int) < (n : Int) := by omega
      by_cases hj5 : j < 6
      · have hj2 : (j : Int) < 6 := by omega
        rcases H4.out with ⟨_, h0, _⟩ | ⟨b, o, rfl, hb, hcell⟩
        · omega
        obtain ⟨⟨x, y⟩, hp⟩ : ∃ p, l[j]? = some p := ⟨_, List.getElem?_eq_getElem (by rw [HL.out]; exact hjn)⟩
        obtain ⟨⟨hx, hy⟩, c1', c2'⟩ := hcell j _ hp
        have hwr := hD1.trans (hbel.mono (by omega : w.heap.size ≤ N))
        have c1 := (hwr.cell (p := ⟨b, _, none⟩) hb).trans c1'
        have c2 := (hwr.cell (p := ⟨b, _, none⟩) hb).trans c2'
        dsimp only at c1 c2 hx hy
        obtain ⟨X, eX⟩ : ∃ X, X = x % 301 := ⟨_, rfl⟩
        obtain ⟨Y, eY⟩ : ∃ Y, Y = y % 301 := ⟨_, rfl⟩
        have HTL : Hid ((L.take (j + 1)).length = j + 1) := by show _ = _; rw [List.length_take, HLL.out]; omega
        have hX : X ≤ 300 := by omega
        have hY : Y ≤ 300 := by omega
        have e1 : IntKind.i64.wrap (X : Int) = X := by rw [IntKind.wrap_i64]; omega
        have e2 : IntKind.i64.wrap (Y : Int) = Y := by rw [IntKind.wrap_i64]; omega
        have e3 : Int.tmod (x : Int) 301 = (X : Int) := by rw [Int.tmod_eq_emod_of_nonneg (by omega)]; omega
        have e4 : Int.tmod (y : Int) 301 = (Y : Int) := by rw [Int.tmod_eq_emod_of_nonneg (by omega)]; omega
        have e5 : (x : Int) % 301 = (X : Int) := by omega
        have e6 : (y : Int) % 301 = (Y : Int) := by omega
        have hLp : L[j]? = some (min (X : Int) (Y : Int), max (X : Int) (Y : Int)) := by rw [HEL.out, List.getElem?_map, hp, eX, eY]; rfl
        have HT : Hid (L.take j ++ [(min (X : Int) (Y : Int), max (X : Int) (Y : Int))] = L.take (j + 1)) := by show _ = _; rw [take_snoc' hLp]
        have hlo := HOK.out _ (List.mem_of_getElem? hLp)
        have HRM := Lib.hid (hrel6.out.step hlo)
        rw [HT.out] at HRM
        clear hcell hp eX eY hLp c1' c2' hlo
        go_wp2_with fail
        all_goals first | (exfalso; omega) | skip
        refine wp_region_noPanic ?_
        refine region_ord (S := fun w' => w'.cell? ⟨b, o + j * 2, none⟩ = some (.int .u16 (x : Nat)) ∧ w'.cell? ⟨b, o + j * 2 + 1, none⟩ = some (.int .u16 (y : Nat))) [0, 1, 2, 3, 4, 5, 6, 7, 8, 9, 10, 11, 12, 13, 14, 15] (by kernel_rfl) (by decide +kernel) (fun _ _ _ _ _ h => h) (⟨c1, c2⟩) (fun _ => ?_)
        repeat (first
          | (refine ord_skip rfl rfl rfl ?_; (try simp only [Act.put, List.setIfInBounds_toArray, List.set_cons_zero, List.set_cons_succ]))
          | (refine' ord_light (v := _) rfl rfl rfl (fun w' hSw => ?_) ?_; rotate_left; (focus ((try dsimp only at hSw); go_simp <;> (with_reducible rfl))); (try simp only [Act.put, List.setIfInBounds_toArray, List.set_cons_zero, List.set_cons_succ]))
          | (refine ord_heavy rfl rfl (fun K hK => ?_); go_simp; (try go_wp2_with fail); refine hK.out _ _ (⟨c1, c2⟩) ?_; clear hK K; (try simp only [Act.put, List.setIfInBounds_toArray, List.set_cons_zero, List.set_cons_succ])))
        refine ord_nil (NoPanic.normal ?_)
        have hst0 := (show St w1 N _ (L.take j) a6 n6 c6 b6 wr from ⟨g6, f6, hzr, hbel, hown, hbk.1⟩).go (((RowKit.Below.refl wr.heap.size wr).alloc (Nat.le_refl _) (.cells #[.int .i64 (min (X : Int) (Y : Int)), .int .i64 (max (X : Int) (Y : Int))] 60)).drew)
        have hown1 := hst0.2.2.2.2.1
        have hzz := hst0.2.2.1
        clear e1 e2 e3 e4 e5 e6 c1 c2 hwr hown g6 f6
        go_wp2_with (at_builtin; refine wpList_append_ds rfl (.tmp 43) (.tmp 47) 24 60 rfl Tryd.underlying24 (N + 1) i0 hi hz0 hz1 hz2 _ _ rfl hown1 _ 1 1 [(min (X : Int) (Y : Int), max (X : Int) (Y : Int))] rfl (Ds.one _ _ _ _ _ rfl) (by rw [htl.out]; omega) hzz ?_)
        all_goals first | (exfalso; omega) | skip
        intro v6 w6 hown6 hg6
        rw [HT.out] at hown6
        have hst1 := hst0.grown hbk.2 hg6 hown6
        clear hst0 hg6 hown1 hzz hbel hbk hown6
        have hm1 : 0 ≤ min (X : Int) (Y : Int) := by omega
        have hm3 : min (X : Int) (Y : Int) ≤ max (X : Int) (Y : Int) := by omega
        have hm2 : max (X : Int) (Y : Int) ≤ 300 := by omega
        clear HT hX hY
        generalize min (X : Int) (Y : Int) = p at *
        generalize max (X : Int) (Y : Int) = q at *
        have e7 : IntKind.i64.wrap (q + 1) = q + 1 := by rw [IntKind.wrap_i64]; omega
        go_wp2_with fail
        all_goals first | (exfalso; omega) | skip
        have hst := hst1.go ((RowKit.Below.refl w6.heap.size w6).drew)
        clear hst1
        have q6 := hst.1
        refine wp_region_noPanic ?_
        refine wp_region_held_drew (S := fun _ => True) (by kernel_rfl) trivial (fun _ => ?_)
        refine' wpAnyH_take (i := 1) (v := _) rfl (by kernel_rfl) (by kernel_rfl) (by kernel_rfl) (fun _ _ _ h => h) (Or.inl ⟨by rfl, fun w' _ => ?_⟩) trivial ?_; rotate_left; (focus (go_simp <;> (with_reducible rfl))); (try simp only [Act.put, List.setIfInBounds_toArray, List.set_cons_zero, List.set_cons_succ])
        refine' wpAnyH_take (i := 2) (v := _) rfl (by kernel_rfl) (by kernel_rfl) (by kernel_rfl) (fun _ _ _ h => h) (Or.inl ⟨by rfl, fun w' _ => ?_⟩) trivial ?_; rotate_left; (focus (go_simp <;> (with_reducible rfl))); (try simp only [Act.put, List.setIfInBounds_toArray, List.set_cons_zero, List.set_cons_succ])
        refine' wpAnyH_take (i := 4) (v := _) rfl (by kernel_rfl) (by kernel_rfl) (by kernel_rfl) (fun _ _ _ h => h) (Or.inl ⟨by rfl, fun w' _ => ?_⟩) trivial ?_; rotate_left; (focus (go_simp <;> (with_reducible rfl))); (try simp only [Act.put, List.setIfInBounds_toArray, List.set_cons_zero, List.set_cons_succ])
        refine wpAnyH_ready (rs := [0, 3]) (by kernel_rfl) (by simp) ?_
        refine AllReadyH.cons rfl (fun K hK => ?_) (AllReadyH.cons rfl (fun K hK => ?_) AllReadyH.nil)
        · go_simp; (try go_wp2_with fail); refine hK.out _ _ trivial (fun _ => ?_); clear hK K; (try simp only [Act.put, List.setIfInBounds_toArray, List.set_cons_zero, List.set_cons_succ])
          refine wpAnyH_ready (rs := [3]) (by kernel_rfl) (by simp) ?_
          refine AllReadyH.cons rfl (fun K hK => ?_) AllReadyH.nil
          · go_simp; go_at_call 33; (with_reducible refine (Go.Proofs.YtgbonpmakahibaaDoor.below_any (q + 1) _).mono ?_); rintro e wa ⟨aa, na, ca, rfl, hsa, hba⟩; have hst := hst.go hba; have q6 := hst.1; clear hba; (try go_wp2_with fail); refine hK.out _ _ trivial (fun _ => ?_); clear hK K; (try simp only [Act.put, List.setIfInBounds_toArray, List.set_cons_zero, List.set_cons_succ])
            refine wpAnyH_ready (rs := [5]) (by kernel_rfl) (by simp) ?_
            refine AllReadyH.cons rfl (fun K hK => ?_) AllReadyH.nil
            · go_simp; go_at_call 33; (with_reducible refine (Go.Proofs.YtgbonpmakahibaaDoor.below_any p _).mono ?_); rintro e wb ⟨ab, nb, cb, rfl, hsb, hbb⟩; have hst := hst.go hbb; have q6 := hst.1; have hsa2 := hsa.below hbb; clear hbb; (try go_wp2_with fail); refine hK.out _ _ trivial (fun _ => ?_); clear hK K; (try simp only [Act.put, List.setIfInBounds_toArray, List.set_cons_zero, List.set_cons_succ])
              refine wpAnyH_ready (rs := [6]) (by kernel_rfl) (by simp) ?_
              refine AllReadyH.cons rfl (fun K hK => ?_) AllReadyH.nil
              · go_simp; go_at_call 34; (with_reducible refine (Go.Proofs.YtgbonpmakahibaaDoor.minus_any aa ab na nb ca cb _ _ _ hsa2 hsb).mono ?_); rintro e wc ⟨am, nm, cm, rfl, hsm, hbm⟩; have hst := hst.go hbm; have q6 := hst.1; have hb6 := hst.2.2.2.2.2; clear hbm; (try go_wp2_with fail); refine hK.out _ _ trivial (fun _ => ?_); clear hK K; (try simp only [Act.put, List.setIfInBounds_toArray, List.set_cons_zero, List.set_cons_succ])
                refine wpAnyH_ready (rs := [7]) (by kernel_rfl) (by simp) ?_
                refine AllReadyH.cons rfl (fun K hK => ?_) AllReadyH.nil
                · go_simp; go_at_call 32; (with_reducible refine (Go.Proofs.YtgbonpmakahibaaDoor.or_fresh a6 am n6 nm c6 cm _ _ _ hb6 hsm).mono ?_); rintro e wd ⟨g, k, rfl, hgg, hso, hbo⟩; have hstw := hst.2.2.2.2.1; have hst := hst.go hbo; have q6 := hst.1; have f6 := hst.2.1; clear hbo; (try go_wp2_with fail); refine hK.out _ _ trivial (fun _ => ?_); clear hK K; (try simp only [Act.put, List.setIfInBounds_toArray, List.set_cons_zero, List.set_cons_succ])
                  refine wpAnyH_ready (rs := [8]) (by kernel_rfl) (by simp) ?_
                  refine AllReadyH.cons rfl (fun K hK => ?_) AllReadyH.nil
                  · go_simp; (try go_wp2_with fail); refine hK.out _ _ trivial (fun _ => ?_); clear hK K; (try simp only [Act.put, List.setIfInBounds_toArray, List.set_cons_zero, List.set_cons_succ])
                    refine wpAnyH_done (by kernel_rfl) (NoPanic.normal ?_) _
                    obtain ⟨p1, p2, p3, p4, p5, p6⟩ := hst.put hgg hstw hso
                    clear hst q6 f6 hstw hso
                    go_wp2_with fail
                    go_roundw
                    case rel => exact ⟨j + 1, some ⟨g, 0, none⟩, k, k, _, by omega, by omega, by go_num, HTL.out, p5, p1, p2, p3, HRM, p4, p6⟩
                    case measure => simp [intOf]; omega
        · go_simp; go_at_call 33; (with_reducible refine (Go.Proofs.YtgbonpmakahibaaDoor.below_any (q + 1) _).mono ?_); rintro e wa ⟨aa, na, ca, rfl, hsa, hba⟩; have hst := hst.go hba; have q6 := hst.1; clear hba; (try go_wp2_with fail); refine hK.out _ _ trivial (fun _ => ?_); clear hK K; (try simp only [Act.put, List.setIfInBounds_toArray, List.set_cons_zero, List.set_cons_succ])
          refine wpAnyH_ready (rs := [0, 5]) (by kernel_rfl) (by simp) ?_
          refine AllReadyH.cons rfl (fun K hK => ?_) (AllReadyH.cons rfl (fun K hK => ?_) AllReadyH.nil)
          · go_simp; (try go_wp2_with fail); refine hK.out _ _ trivial (fun _ => ?_); clear hK K; (try simp only [Act.put, List.setIfInBounds_toArray, List.set_cons_zero, List.set_cons_succ])
            refine wpAnyH_ready (rs := [5]) (by kernel_rfl) (by simp) ?_
            refine AllReadyH.cons rfl (fun K hK => ?_) AllReadyH.nil
            · go_simp; go_at_call 33; (with_reducible refine (Go.Proofs.YtgbonpmakahibaaDoor.below_any p _).mono ?_); rintro e wb ⟨ab, nb, cb, rfl, hsb, hbb⟩; have hst := hst.go hbb; have q6 := hst.1; have hsa2 := hsa.below hbb; clear hbb; (try go_wp2_with fail); refine hK.out _ _ trivial (fun _ => ?_); clear hK K; (try simp only [Act.put, List.setIfInBounds_toArray, List.set_cons_zero, List.set_cons_succ])
              refine wpAnyH_ready (rs := [6]) (by kernel_rfl) (by simp) ?_
              refine AllReadyH.cons rfl (fun K hK => ?_) AllReadyH.nil
              · go_simp; go_at_call 34; (with_reducible refine (Go.Proofs.YtgbonpmakahibaaDoor.minus_any aa ab na nb ca cb _ _ _ hsa2 hsb).mono ?_); rintro e wc ⟨am, nm, cm, rfl, hsm, hbm⟩; have hst := hst.go hbm; have q6 := hst.1; have hb6 := hst.2.2.2.2.2; clear hbm; (try go_wp2_with fail); refine hK.out _ _ trivial (fun _ => ?_); clear hK K; (try simp only [Act.put, List.setIfInBounds_toArray, List.set_cons_zero, List.set_cons_succ])
                refine wpAnyH_ready (rs := [7]) (by kernel_rfl) (by simp) ?_
                refine AllReadyH.cons rfl (fun K hK => ?_) AllReadyH.nil
                · go_simp; go_at_call 32; (with_reducible refine (Go.Proofs.YtgbonpmakahibaaDoor.or_fresh a6 am n6 nm c6 cm _ _ _ hb6 hsm).mono ?_); rintro e wd ⟨g, k, rfl, hgg, hso, hbo⟩; have hstw := hst.2.2.2.2.1; have hst := hst.go hbo; have q6 := hst.1; have f6 := hst.2.1; clear hbo; (try go_wp2_with fail); refine hK.out _ _ trivial (fun _ => ?_); clear hK K; (try simp only [Act.put, List.setIfInBounds_toArray, List.set_cons_zero, List.set_cons_succ])
                  refine wpAnyH_ready (rs := [8]) (by kernel_rfl) (by simp) ?_
                  refine AllReadyH.cons rfl (fun K hK => ?_) AllReadyH.nil
                  · go_simp; (try go_wp2_with fail); refine hK.out _ _ trivial (fun _ => ?_); clear hK K; (try simp only [Act.put, List.setIfInBounds_toArray, List.set_cons_zero, List.set_cons_succ])
                    refine wpAnyH_done (by kernel_rfl) (NoPanic.normal ?_) _
                    obtain ⟨p1, p2, p3, p4, p5, p6⟩ := hst.put hgg hstw hso
                    clear hst q6 f6 hstw hso
                    go_wp2_with fail
                    go_roundw
                    case rel => exact ⟨j + 1, some ⟨g, 0, none⟩, k, k, _, by omega, by omega, by go_num, HTL.out, p5, p1, p2, p3, HRM, p4, p6⟩
                    case measure => simp [intOf]; omega
          · go_simp; go_at_call 33; (with_reducible refine (Go.Proofs.YtgbonpmakahibaaDoor.below_any p _).mono ?_); rintro e wb ⟨ab, nb, cb, rfl, hsb, hbb⟩; have hst := hst.go hbb; have q6 := hst.1; have hsa2 := hsa.below hbb; clear hbb; (try go_wp2_with fail); refine hK.out _ _ trivial (fun _ => ?_); clear hK K; (try simp only [Act.put, List.setIfInBounds_toArray, List.set_cons_zero, List.set_cons_succ])
            refine wpAnyH_ready (rs := [0, 6]) (by kernel_rfl) (by simp) ?_
            refine AllReadyH.cons rfl (fun K hK => ?_) (AllReadyH.cons rfl (fun K hK => ?_) AllReadyH.nil)
            · go_simp; (try go_wp2_with fail); refine hK.out _ _ trivial (fun _ => ?_); clear hK K; (try simp only [Act.put, List.setIfInBounds_toArray, List.set_cons_zero, List.set_cons_succ])
              refine wpAnyH_ready (rs := [6]) (by kernel_rfl) (by simp) ?_
              refine AllReadyH.cons rfl (fun K hK => ?_) AllReadyH.nil
              · go_simp; go_at_call 34; (with_reducible refine (Go.Proofs.YtgbonpmakahibaaDoor.minus_any aa ab na nb ca cb _ _ _ hsa2 hsb).mono ?_); rintro e wc ⟨am, nm, cm, rfl, hsm, hbm⟩; have hst := hst.go hbm; have q6 := hst.1; have hb6 := hst.2.2.2.2.2; clear hbm; (try go_wp2_with fail); refine hK.out _ _ trivial (fun _ => ?_); clear hK K; (try simp only [Act.put, List.setIfInBounds_toArray, List.set_cons_zero, List.set_cons_succ])
                refine wpAnyH_ready (rs := [7]) (by kernel_rfl) (by simp) ?_
                refine AllReadyH.cons rfl (fun K hK => ?_) AllReadyH.nil
                · go_simp; go_at_call 32; (with_reducible refine (Go.Proofs.YtgbonpmakahibaaDoor.or_fresh a6 am n6 nm c6 cm _ _ _ hb6 hsm).mono ?_); rintro e wd ⟨g, k, rfl, hgg, hso, hbo⟩; have hstw := hst.2.2.2.2.1; have hst := hst.go hbo; have q6 := hst.1; have f6 := hst.2.1; clear hbo; (try go_wp2_with fail); refine hK.out _ _ trivial (fun _ => ?_); clear hK K; (try simp only [Act.put, List.setIfInBounds_toArray, List.set_cons_zero, List.set_cons_succ])
                  refine wpAnyH_ready (rs := [8]) (by kernel_rfl) (by simp) ?_
                  refine AllReadyH.cons rfl (fun K hK => ?_) AllReadyH.nil
                  · go_simp; (try go_wp2_with fail); refine hK.out _ _ trivial (fun _ => ?_); clear hK K; (try simp only [Act.put, List.setIfInBounds_toArray, List.set_cons_zero, List.set_cons_succ])
                    refine wpAnyH_done (by kernel_rfl) (NoPanic.normal ?_) _
                    obtain ⟨p1, p2, p3, p4, p5, p6⟩ := hst.put hgg hstw hso
                    clear hst q6 f6 hstw hso
                    go_wp2_with fail
                    go_roundw
                    case rel => exact ⟨j + 1, some ⟨g, 0, none⟩, k, k, _, by omega, by omega, by go_num, HTL.out, p5, p1, p2, p3, HRM, p4, p6⟩
                    case measure => simp [intOf]; omega
            · go_simp; go_at_call 34; (with_reducible refine (Go.Proofs.YtgbonpmakahibaaDoor.minus_any aa ab na nb ca cb _ _ _ hsa2 hsb).mono ?_); rintro e wc ⟨am, nm, cm, rfl, hsm, hbm⟩; have hst := hst.go hbm; have q6 := hst.1; have hb6 := hst.2.2.2.2.2; clear hbm; (try go_wp2_with fail); refine hK.out _ _ trivial (fun _ => ?_); clear hK K; (try simp only [Act.put, List.setIfInBounds_toArray, List.set_cons_zero, List.set_cons_succ])
              refine wpAnyH_ready (rs := [0]) (by kernel_rfl) (by simp) ?_
              refine AllReadyH.cons rfl (fun K hK => ?_) AllReadyH.nil
              · go_simp; (try go_wp2_with fail); refine hK.out _ _ trivial (fun _ => ?_); clear hK K; (try simp only [Act.put, List.setIfInBounds_toArray, List.set_cons_zero, List.set_cons_succ])
                refine wpAnyH_ready (rs := [7]) (by kernel_rfl) (by simp) ?_
                refine AllReadyH.cons rfl (fun K hK => ?_) AllReadyH.nil
                · go_simp; go_at_call 32; (with_reducible refine (Go.Proofs.YtgbonpmakahibaaDoor.or_fresh a6 am n6 nm c6 cm _ _ _ hb6 hsm).mono ?_); rintro e wd ⟨g, k, rfl, hgg, hso, hbo⟩; have hstw := hst.2.2.2.2.1; have hst := hst.go hbo; have q6 := hst.1; have f6 := hst.2.1; clear hbo; (try go_wp2_with fail); refine hK.out _ _ trivial (fun _ => ?_); clear hK K; (try simp only [Act.put, List.setIfInBounds_toArray, List.set_cons_zero, List.set_cons_succ])
                  refine wpAnyH_ready (rs := [8]) (by kernel_rfl) (by simp) ?_
                  refine AllReadyH.cons rfl (fun K hK => ?_) AllReadyH.nil
                  · go_simp; (try go_wp2_with fail); refine hK.out _ _ trivial (fun _ => ?_); clear hK K; (try simp only [Act.put, List.setIfInBounds_toArray, List.set_cons_zero, List.set_cons_succ])
                    refine wpAnyH_done (by kernel_rfl) (NoPanic.normal ?_) _
                    obtain ⟨p1, p2, p3, p4, p5, p6⟩ := hst.put hgg hstw hso
                    clear hst q6 f6 hstw hso
                    go_wp2_with fail
                    go_roundw
                    case rel => exact ⟨j + 1, some ⟨g, 0, none⟩, k, k, _, by omega, by omega, by go_num, HTL.out, p5, p1, p2, p3, HRM, p4, p6⟩
                    case measure => simp [intOf]; omega
      · have hj6' : ¬ (j : Int) < 6 := by omega
        have HLF : Hid (L.take j = L.take 6) := by show _ = _; rw [show j = 6 by omega]
        obtain ⟨ax, nx, cx, rfl, hnx, hdx⟩ := hown.dn
        have hrd : Rd w N a6 n6 c6 b6 wr := ⟨g6, ⟨(hbel.cell (p := ⟨w.heap.size, 0, none⟩) (show w.heap.size < N by omega)).trans qa1, (hbel.frozen (p := ⟨w.heap.size, 0, none⟩) (show w.heap.size < N by omega)).trans fa1⟩, ⟨(hbel.cell (p := ⟨w.heap.size + 1, 0, none⟩) (show w.heap.size + 1 < N by omega)).trans qb1, (hbel.frozen (p := ⟨w.heap.size + 1, 0, none⟩) (show w.heap.size + 1 < N by omega)).trans fb1⟩, hbk.1, hD1.trans (hbel.mono (by omega)), hwN, hzr⟩
        have hnx6 : nx ≤ 100000 := by rw [hnx, htl.out]; omega
        have HE : Hid (errL (L.take j) = 0) := ok_errL (fun p hp => (HOK.out p (List.mem_of_mem_take hp)).okp)
        have HOF := Lib.hid (fun W (hb : RowKit.Below wr.heap.size wr W) => of_any ax nx cx (L.take j) W (hdx.below hb (Nat.le_refl _)) hnx6)
        have HRL := Lib.hid (fun (r : List (Int × Int)) (hr : Can r) (e : ∀ d, Dm r d = Dm (L.take j) d) => RelM.done hrel6.out (fun p hp => HOK.out p (List.mem_of_mem_take hp)) hr e)
        have hW := RowKit.Below.refl wr.heap.size wr
        clear hdx hnx hnx6 hown g6 f6 hbk hbel hrel6 H4 hD1 hDx qa1 qb1 fa1 fb1
        go_wp2_with fail
        all_goals first | (exfalso; omega) | skip
        go_wp2_with (go_at_call 14; (with_reducible refine (HOF.out _ hW).mono ?_); rintro e w3 ⟨a3, n3, c3, r, rfl, hd3, hc3, hm3, hb3⟩; rw [HE.out]; have hW3 := hW.trans (hb3.mono hW.size); have HC3 := Lib.hid hc3; have HM3 := Lib.hid hm3; have HD3 := Lib.hid hd3; clear hd3 hc3 hm3)
        have hfin : Fin w N w3.heap.size a3 n3 c3 r a6 n6 c6 b6 (w3.alloc (.cells #[.slice a3 n3 c3] 26)) := ⟨⟨(new1 w3 (.slice a3 n3 c3) 26).1, Nat.lt_of_lt_of_le hrd.2.2.2.2.2.2 hW3.size⟩, hrd.go (hW3.alloc hW3.size _), HD3.out.below ((RowKit.Below.refl w3.heap.size w3).alloc (Nat.le_refl _) _) (Nat.le_refl _)⟩
        generalize w3.alloc (.cells #[.slice a3 n3 c3] 26) = ww at hfin ⊢
        generalize w3.heap.size = sb at *
        obtain ⟨⟨s1, hsb⟩, ⟨s2, ⟨qa, fa⟩, ⟨qb, fb⟩, hbs, hbl, hwN', hNW⟩, hds⟩ := hfin
        have hx1 : sb ≠ w.heap.size := by omega
        have hy1 : N ≠ w.heap.size := by omega
        have hx2 : sb ≠ w.heap.size + 1 := by omega
        have hy2 : N ≠ w.heap.size + 1 := by omega
        clear hrd hW3 HD3
        refine wp_region_noPanic ?_
        refine region_ord (S := fun w' => w'.cell? ⟨sb, 0, none⟩ = some (.slice a3 n3 c3) ∧ w'.cell? ⟨N, 0, none⟩ = some (.slice a6 n6 c6)) [0, 1, 2, 3, 4, 5, 6] (by kernel_rfl) (by decide +kernel) (fun _ _ _ _ _ h => h) (⟨s1, s2⟩) (fun _ => ?_)
        repeat (first
          | (refine ord_skip rfl rfl rfl ?_; (try simp only [Act.put, List.setIfInBounds_toArray, List.set_cons_zero, List.set_cons_succ]))
          | (refine' ord_light (v := _) rfl rfl rfl (fun w' hSw => ?_) ?_; rotate_left; (focus ((try dsimp only at hSw); go_simp <;> (with_reducible rfl))); (try simp only [Act.put, List.setIfInBounds_toArray, List.set_cons_zero, List.set_cons_succ]))
          | (refine ord_heavy rfl rfl (fun K hK => ?_); go_simp; (try go_wp2_with fail); refine hK.out _ _ (by first | exact S2 hx1 hy1 ⟨s1, s2⟩ | exact S2 hx2 hy2 (S2 hx1 hy1 ⟨s1, s2⟩)) ?_; clear hK K; (try simp only [Act.put, List.setIfInBounds_toArray, List.set_cons_zero, List.set_cons_succ])))
        refine ord_nil (NoPanic.normal ?_)
        have qb' := (World.cell?_setCell_other ww ⟨w.heap.size, 0, none⟩ ⟨w.heap.size + 1, 0, none⟩ (.slice a3 n3 c3) (fun e => by injection e with e1; omega)).trans qb
        have cs1 := (World.cell?_setCell_other (ww.setCell ⟨w.heap.size, 0, none⟩ (.slice a3 n3 c3)) ⟨w.heap.size + 1, 0, none⟩ ⟨w.heap.size, 0, none⟩ (.slice a6 n6 c6) (fun e => by injection e with e1; omega)).trans (World.cell?_setCell_same _ _ _ qa)
        have cs2 := World.cell?_setCell_same (ww.setCell ⟨w.heap.size, 0, none⟩ (.slice a3 n3 c3)) ⟨w.heap.size + 1, 0, none⟩ (.slice a6 n6 c6) qb'
        go_wp2_with fail
        refine bodyPost_ret (v := .tuple #[.agg #[.slice a3 n3 c3], .agg #[.slice a6 n6 c6], .bool true]) (by simp [results, Tryd.results30, go_sem, cs1, cs2]) rfl ?_
        exact ⟨a3, n3, c3, r, a6, n6, c6, b6, rfl, (hds.set qa (fun x e => by cases e)).set qb' (fun x e => by cases e), Bs.set (Bs.set hbs qa (fun x e => by cases e)) qb' (fun x e => by cases e), HRL.out r HC3.out (fun d => (HM3.out d).trans (by rw [decide_eq_true HE.out])), ((hbl.setCell (p := ⟨w.heap.size, 0, none⟩) (Nat.le_refl _) _).setCell (p := ⟨w.heap.size + 1, 0, none⟩) (Nat.le_succ _) _).drew⟩
    · have hj1 : ¬ (j : Int) < (n : Int) := by omega
      have HLF : Hid (L.take j = L.take 6) := by
        show _ = _
        rw [List.take_of_length_le (by rw [HLL.out]; omega), List.take_of_length_le (by rw [HLL.out]; omega)]
      obtain ⟨ax, nx, cx, rfl, hnx, hdx⟩ := hown.dn
      have hrd : Rd w N a6 n6 c6 b6 wr := ⟨g6, ⟨(hbel.cell (p := ⟨w.heap.size, 0, none⟩) (show w.heap.size < N by omega)).trans qa1, (hbel.frozen (p := ⟨w.heap.size, 0, none⟩) (show w.heap.size < N by omega)).trans fa1⟩, ⟨(hbel.cell (p := ⟨w.heap.size + 1, 0, none⟩) (show w.heap.size + 1 < N by omega)).trans qb1, (hbel.frozen (p := ⟨w.heap.size + 1, 0, none⟩) (show w.heap.size + 1 < N by omega)).trans fb1⟩, hbk.1, hD1.trans (hbel.mono (by omega)), hwN, hzr⟩
      have hnx6 : nx ≤ 100000 := by rw [hnx, htl.out]; omega
      have HE : Hid (errL (L.take j) = 0) := ok_errL (fun p hp => (HOK.out p (List.mem_of_mem_take hp)).okp)
      have HOF := Lib.hid (fun W (hb : RowKit.Below wr.heap.size wr W) => of_any ax nx cx (L.take j) W (hdx.below hb (Nat.le_refl _)) hnx6)
      have HRL := Lib.hid (fun (r : List (Int × Int)) (hr : Can r) (e : ∀ d, Dm r d = Dm (L.take j) d) => RelM.done hrel6.out (fun p hp => HOK.out p (List.mem_of_mem_take hp)) hr e)
      have hW := RowKit.Below.refl wr.heap.size wr
      clear hdx hnx hnx6 hown g6 f6 hbk hbel hrel6 H4 hD1 hDx qa1 qb1 fa1 fb1
      go_wp2_with fail
      all_goals first | (exfalso; omega) | skip
      go_wp2_with (go_at_call 14; (with_reducible refine (HOF.out _ hW).mono ?_); rintro e w3 ⟨a3, n3, c3, r, rfl, hd3, hc3, hm3, hb3⟩; rw [HE.out]; have hW3 := hW.trans (hb3.mono hW.size); have HC3 := Lib.hid hc3; have HM3 := Lib.hid hm3; have HD3 := Lib.hid hd3; clear hd3 hc3 hm3)
      have hfin : Fin w N w3.heap.size a3 n3 c3 r a6 n6 c6 b6 (w3.alloc (.cells #[.slice a3 n3 c3] 26)) := ⟨⟨(new1 w3 (.slice a3 n3 c3) 26).1, Nat.lt_of_lt_of_le hrd.2.2.2.2.2.2 hW3.size⟩, hrd.go (hW3.alloc hW3.size _), HD3.out.below ((RowKit.Below.refl w3.heap.size w3).alloc (Nat.le_refl _) _) (Nat.le_refl _)⟩
      generalize w3.alloc (.cells #[.slice a3 n3 c3] 26) = ww at hfin ⊢
      generalize w3.heap.size = sb at *
      obtain ⟨⟨s1, hsb⟩, ⟨s2, ⟨qa, fa⟩, ⟨qb, fb⟩, hbs, hbl, hwN', hNW⟩, hds⟩ := hfin
      have hx1 : sb ≠ w.heap.size := by omega
      have hy1 : N ≠ w.heap.size := by omega
      have hx2 : sb ≠ w.heap.size + 1 := by omega
      have hy2 : N ≠ w.heap.size + 1 := by omega
      clear hrd hW3 HD3
      refine wp_region_noPanic ?_
      refine region_ord (S := fun w' => w'.cell? ⟨sb, 0, none⟩ = some (.slice a3 n3 c3) ∧ w'.cell? ⟨N, 0, none⟩ = some (.slice a6 n6 c6)) [0, 1, 2, 3, 4, 5, 6] (by kernel_rfl) (by decide +kernel) (fun _ _ _ _ _ h => h) (⟨s1, s2⟩) (fun _ => ?_)
      repeat (first
        | (refine ord_skip rfl rfl rfl ?_; (try simp only [Act.put, List.setIfInBounds_toArray, List.set_cons_zero, List.set_cons_succ]))
        | (refine' ord_light (v := _) rfl rfl rfl (fun w' hSw => ?_) ?_; rotate_left; (focus ((try dsimp only at hSw); go_simp <;> (with_reducible rfl))); (try simp only [Act.put, List.setIfInBounds_toArray, List.set_cons_zero, List.set_cons_succ]))
        | (refine ord_heavy rfl rfl (fun K hK => ?_); go_simp; (try go_wp2_with fail); refine hK.out _ _ (by first | exact S2 hx1 hy1 ⟨s1, s2⟩ | exact S2 hx2 hy2 (S2 hx1 hy1 ⟨s1, s2⟩)) ?_; clear hK K; (try simp only [Act.put, List.setIfInBounds_toArray, List.set_cons_zero, List.set_cons_succ])))
      refine ord_nil (NoPanic.normal ?_)
      have qb' := (World.cell?_setCell_other ww ⟨w.heap.size, 0, none⟩ ⟨w.heap.size + 1, 0, none⟩ (.slice a3 n3 c3) (fun e => by injection e with e1; omega)).trans qb
      have cs1 := (World.cell?_setCell_other (ww.setCell ⟨w.heap.size, 0, none⟩ (.slice a3 n3 c3)) ⟨w.heap.size + 1, 0, none⟩ ⟨w.heap.size, 0, none⟩ (.slice a6 n6 c6) (fun e => by injection e with e1; omega)).trans (World.cell?_setCell_same _ _ _ qa)
      have cs2 := World.cell?_setCell_same (ww.setCell ⟨w.heap.size, 0, none⟩ (.slice a3 n3 c3)) ⟨w.heap.size + 1, 0, none⟩ (.slice a6 n6 c6) qb'
      go_wp2_with fail
      refine bodyPost_ret (v := .tuple #[.agg #[.slice a3 n3 c3], .agg #[.slice a6 n6 c6], .bool true]) (by simp [results, Tryd.results30, go_sem, cs1, cs2]) rfl ?_
      exact ⟨a3, n3, c3, r, a6, n6, c6, b6, rfl, (hds.set qa (fun x e => by cases e)).set qb' (fun x e => by cases e), Bs.set (Bs.set hbs qa (fun x e => by cases e)) qb' (fun x e => by cases e), HRL.out r HC3.out (fun d => (HM3.out d).trans (by rw [decide_eq_true HE.out])), ((hbl.setCell (p := ⟨w.heap.size, 0, none⟩) (Nat.le_refl _) _).setCell (p := ⟨w.heap.size + 1, 0, none⟩) (Nat.le_succ _) _).drew⟩
end Go.Proofs.YtgbonpmakahibaaDoor.Dy
