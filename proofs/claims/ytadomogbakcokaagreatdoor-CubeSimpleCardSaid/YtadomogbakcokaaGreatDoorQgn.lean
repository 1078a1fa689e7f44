/- Contract: Minus. -/
import Derived.Test.YtadomogbakcokaaGreatDoorQgl
namespace Go.Proofs.YtadomogbakcokaaGreatDoor
open Go.RowKit Go.PlainAid Go.Shelf
attribute [local go_sem] Oper.semAt_some
set_option linter.unusedVariables false
set_option linter.unusedSimpArgs false
set_option maxHeartbeats 4000000

def MinusPost (w : World) (x y : Cu) (e : Ending) (w' : World) : Prop := ∃ v, e = .returned v ∧ Co w' w.heap.size v (minusC x y) ∧ Below w.heap.size w w'
theorem minusC_e {x y : Cu} (h : emptyC x = true) : minusC x y = [] := by unfold minusC; rw [if_pos h]
theorem minusC_m {x y : Cu} (h : emptyC x = false) (h2 : emptyC (bothC x y) = true) : minusC x y = [x] := by
  unfold minusC; rw [if_neg (by rw [h]; decide), if_pos h2]
theorem minusC_l {x y : Cu} (h : emptyC x = false) (h2 : emptyC (bothC x y) = false) : minusC x y = ((orL y.1 y.2).foldl (minusGo y) (x, [])).2 := by
  unfold minusC; rw [if_neg (by rw [h]; decide), if_neg (by rw [h2]; decide)]
theorem co_lit (w : World) (B : Nat) (a b : Option Addr) (n c m d : Nat) (x : Cu) (h : Cb w ⟨a, n, c, b, m, d⟩ x) (hB : B ≤ w.heap.size) : Co (w.alloc (.cells #[.slice a n c, .slice b m d] 34)) B (.slice (some ⟨w.heap.size, 0, none⟩) 1 1) [x] :=
  ⟨[⟨a, n, c, b, m, d⟩], World.ownsRow_lit (size := 2) w _ 1 hB (by unfold maxLen; omega) rfl, AllC.one (h.below ((Below.refl _ _).alloc (Nat.le_refl _) _))⟩

set_option maxRecDepth 100000 in
theorem minus_easy (a b a' b' : Option Addr) (n c m d n' c' m' d' : Nat) (x y : Cu) (w : World) (h : Cb w ⟨a, n, c, b, m, d⟩ x) (k : Cb w ⟨a', n', c', b', m', d'⟩ y) (he : emptyC x = true ∨ emptyC (bothC x y) = true) :
    Calls Tryz.prog 40 #[.agg #[.slice a n c, .slice b m d], .agg #[.slice a' n' c', .slice b' m' d']] w (MinusPost w x y) := by
  have HE0 := Lib.hid (fun w' (hb : Below w.heap.size w w') => emptyC_any a b n c m d x w' (h.below hb))
  have HM := Lib.hid (fun w' (hb : Below w.heap.size w w') => meet_any a b a' b' n c m d n' c' m' d' x y w' (h.below hb) (k.below hb))
  have HC := Lib.hid h
  have hb0 := Lib.hid (((Below.refl w.heap.size w).alloc (Nat.le_refl _) (.cells #[.slice a n c, .slice b m d] 34)).alloc (by simp) (.cells #[.slice a' n' c', .slice b' m' d'] 34))
  unfold MinusPost
  cases hx : emptyC x
  · have hy : emptyC (bothC x y) = true := by
      rcases he with he | he
      · rw [hx] at he; cases he
      · exact he
    rw [minusC_m hx hy]
    rw [hx] at HE0
    unfold MeetPost at HM
    rw [hy] at HM
    clear he hx hy h k
    go_enter Tryz.func40, Tryz.ntmps40
    go_wp2_with (first
      | (go_at_call 21; refine (HE0.out _ hb0.out).mono ?_; rintro e w1 ⟨rfl, hb1⟩; obtain ⟨c0, c1, c2, c3, hz, hB⟩ := boxCC (hb1.mono (by simp)))
      | (go_at_call 36; refine (HM.out _ hB).mono ?_; rintro e w2 ⟨a2, n2, k2, b2, m2, d2, rfl, hc2, hb2⟩; have q0 := bx1 (w := w) c0 (show w.heap.size < w1.heap.size by omega) hb2; have q1 := (hb2.cell (p := ⟨w.heap.size, 1, none⟩) (show w.heap.size < w1.heap.size by omega)).trans c1; have hB2 := hB.trans (hb2.mono hB.size); have hz2 := hb2.size; have l2 : w.heap.size < w2.heap.size := (by omega); have l3 : w.heap.size + 1 < w2.heap.size := (by omega)))
    refine bodyPost_ret (v := .slice (some ⟨w2.heap.size + 1, 0, none⟩) 1 1) (by simp [results, Tryz.results40, go_sem]) rfl ?_
    refine ⟨_, rfl, ?_, (hB2.alloc hB2.size _).alloc (by simp; omega) _⟩
    have := co_lit (w2.alloc (.cells #[.slice a2 n2 k2, .slice b2 m2 d2] 34)) w.heap.size a b n c m d x ((HC.out.below hB2).below ((Below.refl _ _).alloc (Nat.le_refl _) _)) (by simp; omega)
    rw [World.size_alloc] at this
    exact this
  · rw [minusC_e hx]
    rw [hx] at HE0
    clear he hx h k
    go_enter Tryz.func40, Tryz.ntmps40
    go_wp2_with (go_at_call 21; refine (HE0.out _ hb0.out).mono ?_; rintro e w1 ⟨rfl, hb1⟩; obtain ⟨c0, c1, c2, c3, hz, hB⟩ := boxCC (hb1.mono (by simp)))
    go_ret
    exact ⟨_, rfl, Co.nil _ _, hB⟩
def inB (l : List Nat) (r : Nat) : Bool := decide (r ∈ l)
theorem has_n (a : Option Addr) (n cap : Nat) (l : List Nat) (r : Nat) (w : World) (h : Bs w a n cap l) :
    Calls Tryz.prog 73 #[.agg #[.slice a n cap], .int .i64 ((r : Nat) : Int)] w (BoolPost w (inB l r)) := by
  have := has_any a n cap l (r : Int) w h
  rw [hasB_nat] at this
  exact this
theorem minusGo_in (y s : Cu) (out : List Cu) (r : Nat) : minusGo y (s, out) r = if inB y.1 r && !inB s.1 r then ((withL s.1 r, s.2), out ++ [(s.1, withL s.2 r)]) else if inB y.2 r && !inB s.2 r then ((s.1, withL s.2 r), out ++ [(withL s.1 r, s.2)]) else (s, out) := rfl
theorem fold_len (y : Cu) : ∀ (l : List Nat) (st : Cu × List Cu), (l.foldl (minusGo y) st).2.length ≤ st.2.length + l.length
  | [], st => by simp
  | r :: l, st => by
    rw [List.foldl_cons, List.length_cons]
    have := fold_len y l (minusGo y st r)
    have h2 : (minusGo y st r).2.length ≤ st.2.length + 1 := by
      unfold minusGo
      split
      · simp
      · split
        · simp
        · omega
    omega
theorem row_cells_k {B k sz : Nat} {e : TypeId} {v : Value} {xs : List Value} {w : World} (h : w.ownsRow B e sz v k xs) : ∀ (j : Nat) (o : Obj), v.ownBlock = some j → w.heap[j]? = some o → o.isCells = true := by
  intro j o hj ho
  rcases h.2 with ⟨rfl, _⟩ | ⟨g, cap, cur, rfl, _, hg, _⟩
  · cases hj
  · simp only [Value.ownBlock, Option.some.injEq] at hj
    subst hj
    rw [hg] at ho; cases ho; rfl
theorem Bs.apart {w : World} {a : Option Addr} {n cap k : Nat} {l : List Nat} {cs : Array Value} {T : TypeId} {fz : Nat × Nat} (h : Bs w a n cap l) (hk : w.heap[k]? = some (.cells cs T fz)) (hT : T ≠ 23) : ∀ p, a = some p → p.block ≠ k ∧ p.block < w.heap.size := by
  obtain ⟨ws, ⟨_, _, _, h4⟩, _⟩ := h
  rintro p rfl
  rcases h4 with ⟨h4, _⟩ | ⟨b, o, h4, ⟨hb, cs', fz', ht⟩, _⟩
  · cases h4
  · cases h4
    refine ⟨fun e => ?_, hb⟩
    dsimp only at e
    subst e
    rw [ht] at hk
    injection hk with hk
    injection hk with _ e2 _
    exact hT e2.symm
theorem step_all {N A T7 : Nat} {a : Option Addr} {n c : Nat} {b : Option Addr} {m d : Nat} {b1 : Option Addr} {n1 c1 : Nat} {b2 : Option Addr} {n2 c2 : Nat} {v v' : Value} {s y : Cu} {out : List Cu} {W wc w6 w9 w11 : World} {o : Obj} {i : Nat}
    (hcur : Below W.heap.size W wc) (hJ : MJ N A T7 a n c b m d b1 n1 c1 b2 n2 c2 v s y out wc) (hNW : N ≤ W.heap.size) (hb6 : Below wc.drew.heap.size wc.drew w6) (hg : (w6.alloc o).grownBy w9 v.ownBlock) (hb11 : Below (w9.setCell ⟨T7, 0, none⟩ v').heap.size (w9.setCell ⟨T7, 0, none⟩ v') w11) (u : Value) :
    KeepsOthers W (w11.setCell ⟨A, i, none⟩ u) ∧ But N A T7 W (w11.setCell ⟨A, i, none⟩ u) := by
  have hd : Below wc.heap.size wc w6 := (Below.refl _ _).drew.trans hb6
  have hJ6 := (hJ.below hd).below ((Below.refl w6.heap.size w6).alloc (Nat.le_refl _) o)
  have hown := hJ6.2.2.2.2.2.1
  have hgl := hown.lt
  have hz := hJ.2.2.2.2.2.2.2.2
  have b6 : Below W.heap.size W w6 := hcur.trans (hd.mono hcur.size)
  constructor
  · refine ((((kept_below b6).trans (KeepsOthers.alloc _ _)).trans (KeepsOthers.of_grownBy hg fun j o' ej hj => ?_)).trans (KeepsOthers.setCell _ _ _)).trans ((kept_below hb11).trans (KeepsOthers.setCell _ _ _))
    obtain ⟨hs, k1, _⟩ := hown
    exact row_cells_k k1 j o' ej hj
  · have g1 : Below N (w6.alloc o) w9 := (Below.refl N _).grown hg (by have := hd.size; simp; omega) (fun k hk => (hgl k hk).1)
    have g2 : Below N wc w9 := ((hd.mono hz).alloc (by have := hd.size; omega) o).trans g1
    refine ((((But.of (hcur.mono hNW)).trans (But.of g2)).trans (But.set ⟨T7, 0, none⟩ v' (.inr (.inl rfl)))).trans (But.of (hb11.mono ?_))).trans (But.set ⟨A, i, none⟩ u (.inl rfl))
    have := g2.size
    simp; omega
set_option maxRecDepth 100000 in
theorem minus_loop (a b a' b' : Option Addr) (n c m d n' c' m' d' : Nat) (x0 y : Cu) (w : World) (h : Cb w ⟨a, n, c, b, m, d⟩ x0) (k : Cb w ⟨a', n', c', b', m', d'⟩ y) (hT : Tz w) (hx : emptyC x0 = false) (hy : emptyC (bothC x0 y) = false) :
    Calls Tryz.prog 40 #[.agg #[.slice a n c, .slice b m d], .agg #[.slice a' n' c', .slice b' m' d']] w (MinusPost w x0 y) := by
  have HE0 := Lib.hid (fun w' (hb : Below w.heap.size w w') => emptyC_any a b n c m d x0 w' (h.below hb))
  have HM := Lib.hid (fun w' (hb : Below w.heap.size w w') => meet_any a b a' b' n c m d n' c' m' d' x0 y w' (h.below hb) (k.below hb))
  have HO := Lib.hid (fun w' (hb : Below w.heap.size w w') => or_any a' b' n' m' c' d' y.1 y.2 w' (k.1.below hb) (k.2.below hb))
  have HC := Lib.hid h
  have HK := Lib.hid k
  have HT := Lib.hid hT
  have HX : Hid (CuOk x0) := h.ok
  have HY : Hid (CuOk y) := k.ok
  have hb0 := Lib.hid (((Below.refl w.heap.size w).alloc (Nat.le_refl _) (.cells #[.slice a n c, .slice b m d] 34)).alloc (by simp) (.cells #[.slice a' n' c', .slice b' m' d'] 34))
  unfold MinusPost
  rw [minusC_l hx hy]
  rw [hx] at HE0
  unfold MeetPost at HM
  rw [hy] at HM
  have HL4 : Hid ((orL y.1 y.2).length ≤ 4096) := asc_length (asc_or _ _)
  obtain ⟨L, hL⟩ : ∃ L, L = orL y.1 y.2 := ⟨_, rfl⟩
  rw [← hL] at HL4 HO ⊢
  clear hL hx hy h k hT
  refine (callsIn_wide (n := 3)).1 ?_
  refine callsIn_of_wp_marks Tryz.func40 rfl trivial ?_ rfl
  simp only [Tryz.ntmps40, List.size_toArray, List.length_cons, List.length_nil, Nat.reduceAdd, Nat.reduceSub, Array.replicate_succ, Array.replicate_zero, List.push_toArray, List.append_toArray, List.nil_append, List.cons_append]
  gi_wp2_with (first
    | (refine ⟨trivial, ?_⟩; gi_at_call 21; refine (callsIn_wide.2 (HE0.out _ hb0.out)).mono ?_; rintro e w1 ⟨rfl, hb1⟩; obtain ⟨c0, c1, c2, c3, hz, hB⟩ := boxCC (hb1.mono (by simp)))
    | (refine ⟨trivial, ?_⟩; gi_at_call 36; refine (callsIn_wide.2 (HM.out _ hB)).mono ?_; rintro e w2 ⟨a2, n2, k2, b2, m2, d2, rfl, -, hb2⟩; have q0 := bx1 (w := w) c0 (show w.heap.size < w1.heap.size by omega) hb2; have q1 := (hb2.cell (p := ⟨w.heap.size, 1, none⟩) (show w.heap.size < w1.heap.size by omega)).trans c1; have q2 := bx1 (w := w) c2 (show w.heap.size + 1 < w1.heap.size by omega) hb2; have q3 := (hb2.cell (p := ⟨w.heap.size + 1, 1, none⟩) (show w.heap.size + 1 < w1.heap.size by omega)).trans c3; have hB2 := hB.trans (hb2.mono hB.size); have hz2 := hb2.size; have l2 : w.heap.size < w2.heap.size := (by omega); have l3 : w.heap.size + 1 < w2.heap.size := (by omega))
    | (refine ⟨trivial, ?_⟩; gi_at_call 71; refine (callsIn_wide.2 (HO.out _ ((hB2.alloc hB2.size _).alloc (by simp; omega) _))).mono ?_; rintro e w3 ⟨a3, n3, k3, rfl, hs3, hb3⟩)
    | (refine ⟨trivial, ?_⟩; gi_at_call 72; refine (all_in 2 _ _ _ _).mono ?_; rintro e w4 ⟨rfl, rfl⟩))
  have hz3 := hb3.size
  simp only [World.size_alloc] at hz3
  have hq : Below w2.heap.size w2 w3 := bel2 hb3
  have h5 := heap_alloc_new (w2.alloc (.cells #[.slice a2 n2 k2, .slice b2 m2 d2] 34)) (.cells #[.slice none 0 0] 41)
  rw [World.size_alloc] at h5
  have k7 : w3.heap[w2.heap.size + 1]? = some (.cells #[.slice none 0 0] 41 (0, 0)) := (hb3.block (w2.heap.size + 1) (by simp)).trans h5
  have hB3 : Below w.heap.size w w3 := hB2.trans (hq.mono hB2.size)
  have kA : w1.heap[w.heap.size]? = some (.cells #[.slice a n c, .slice b m d] 34 (0, 0)) := (hb1.block w.heap.size (by simp; omega)).trans ((Below.heap_alloc _ _ w.heap.size (by simp)).trans (heap_alloc_new w _))
  have h6 := heap_alloc_new (w.alloc (.cells #[.slice a n c, .slice b m d] 34)) (.cells #[.slice a' n' c', .slice b' m' d'] 34)
  rw [World.size_alloc] at h6
  have kB : w1.heap[w.heap.size + 1]? = some (.cells #[.slice a' n' c', .slice b' m' d'] 34 (0, 0)) := (hb1.block (w.heap.size + 1) (by simp)).trans h6
  have kA3 : w3.heap[w.heap.size]? = some (.cells #[.slice a n c, .slice b m d] 34 (0, 0)) := (hq.block _ l2).trans ((hb2.block _ (by omega)).trans kA)
  have kB3 : w3.heap[w.heap.size + 1]? = some (.cells #[.slice a' n' c', .slice b' m' d'] 34 (0, 0)) := (hq.block _ l3).trans ((hb2.block _ (by omega)).trans kB)
  have hal : Below w3.heap.size w3 (w3.alloc (.cells #[.slice a3 n3 k3] 32)) := (Below.refl _ _).alloc (Nat.le_refl _) _
  have hJ0 : MJ (w3.heap.size + 1) w.heap.size (w2.heap.size + 1) a n c b m d a' n' c' b' m' d' (.slice none 0 0) x0 y [] (w3.alloc (.cells #[.slice a3 n3 k3] 32)) :=
    ⟨(hal.block _ (by omega)).trans kA3, (hal.block _ (by omega)).trans kB3, (hal.block _ (by omega)).trans k7, (HC.out.below hB3).below hal, (HK.out.below hB3).below hal, Co.nil _ _, by omega, by omega, by simp⟩
  have hT4 : Tzn (w3.heap.size + 1) (w3.alloc (.cells #[.slice a3 n3 k3] 32)) := by
    have := Tz.to (HT.out.below (hB3.alloc hB3.size (.cells #[.slice a3 n3 k3] 32)))
    rwa [World.size_alloc] at this
  have hgA : 1 < w.heap.size := HT.out.1
  have ap1 := Lib.hid (hs3.apart kA3 (by decide))
  have ap2 := Lib.hid (hs3.apart k7 (by decide))
  have bN := new1 w3 (.slice a3 n3 k3) 32
  have hs4 := hs3.below hal
  refine wpIn_rangeFunc_ownG (F := Fence.wide) rfl (show 1 ≤ 3 by omega) (gf := 100) (lb := #[.pointer (some ⟨w3.heap.size, 0, none⟩)]) rfl trivial (enters_of Tryz.func100 (by kernel_rfl) rfl)
    (all_stopsK (3 - 1) (by omega) w3.heap.size (w3.heap.size + 1) a3 n3 k3 L _ (by simp) (by simp) hT4 bN.1 hs4 (But (w3.heap.size + 1) w.heap.size (w2.heap.size + 1)) (But.refl _ _ _) But.trans (fun h => h.tzn (by omega) (by omega)) (fun p hp A B h j => (h.cell (by have := (ap1.out p hp).2; omega) (ap1.out p hp).1 (ap2.out p hp).1).symm))
    But.trans (fun W l o o' hl _ _ _ => But.putObj l o o' (by simpa using hl)) (Below.refl _ _) (fun _ => rfl)
    (fun pre W => MState (w3.heap.size + 1) w.heap.size (w2.heap.size + 1) (w3.alloc (.cells #[.slice a3 n3 k3] 32)) a' n' c' b' m' d' y ((vals pre).foldl (minusGo y) (x0, [])) W)
    (fun _ _ _ => False)
    (by rw [World.size_alloc]; exact MState.own _)
    (fun _ _ _ _ _ hs _ _ => hs)
    ⟨_, _, _, _, _, _, _, hJ0, But.refl _ _ _ _⟩
    (fun x => { tmps := #[.agg #[.slice a n c, .slice b m d], .agg #[.slice a' n' c', .slice b' m' d'], .pointer (some ⟨w.heap.size, 0, none⟩), .pointer (some ⟨w.heap.size + 1, 0, none⟩), .slice none 0 0, .pointer (some ⟨w2.heap.size, 0, none⟩), .bool true, .pointer (some ⟨w2.heap.size + 1, 0, none⟩), .int .i64 ((x.1 : Nat) : Int), .agg #[.slice a n c, .slice b m d], .bool false, .tuple #[.agg #[.slice a2 n2 k2, .slice b2 m2 d2], .bool true], .agg #[.slice a n c, .slice b m d], .agg #[.slice a' n' c', .slice b' m' d'], .tuple #[.agg #[.slice a2 n2 k2, .slice b2 m2 d2], .bool true], .agg #[.slice a2 n2 k2, .slice b2 m2 d2], .bool true, .bool true, .bool false, undef, undef, .pointer (some ⟨w.heap.size + 1, 0, none⟩), .agg #[.slice a' n' c'], .pointer (some ⟨w.heap.size + 1, 1, none⟩), .agg #[.slice b' m' d'], .agg #[.slice a3 n3 k3], .func (.func 100) #[] #[.pointer (some ⟨w3.heap.size, 0, none⟩)], .int .i64 ((x.1 : Nat) : Int), undef, undef, undef, undef, undef, undef, undef, undef, undef, undef, undef, undef, undef, undef, undef, undef, undef, undef, undef, undef, undef, undef, undef, undef, undef, undef, undef, undef, undef, undef, undef, undef, undef, undef, undef, undef, undef, undef, undef, undef, undef, undef, undef, undef, undef, undef, undef, undef, undef, undef, undef, undef, undef, undef, undef], defers := [] }) ?assign ?body ?done ?stop
  case assign =>
    intro lk x W K hK
    gi_wp2
    exact hK
  case body =>
    rintro lk pre x W ⟨a1, n1, k1, b1, m1, d1, v1, hJ, hBut⟩ hlt
    obtain ⟨⟨s, out⟩, hst⟩ : ∃ st, st = (vals pre).foldl (minusGo y) (x0, []) := ⟨_, rfl⟩
    rw [← hst] at hJ
    dsimp only at hJ
    have hNW : w3.heap.size + 1 ≤ W.heap.size := hJ.2.2.2.2.2.2.2.2
    have hv : ∃ z k l, v1 = .slice z k l := by
      obtain ⟨z, k, e, _⟩ := hJ.2.2.2.2.2.1.len
      exact ⟨z, _, k, e⟩
    have hvs := Lib.hid hv
    have hob : out.length + 1 ≤ 1000000000 := by
      have h1 := fold_len y (vals pre) (x0, [])
      rw [← hst] at h1
      have h2 : (vals pre).length = pre.length := by rw [vals, List.length_map]
      have h3 := HL4.out
      dsimp only [List.length_nil] at h1
      omega
    have HV0 : Hid ((vals (pre ++ [x])).foldl (minusGo y) (x0, []) = minusGo y (s, out) x.1) := by
      show _ = _
      rw [vals, List.map_append, List.foldl_append]
      show minusGo y ((vals pre).foldl (minusGo y) (x0, [])) x.1 = _
      rw [← hst]
    have hcur : Below W.heap.size W W := Below.refl _ _
    have hJc := hJ
    have H1 := Lib.hid (fun w' (hb : Below W.heap.size W w') => has_n a' n' c' y.1 x.1 w' (hJ.below hb).2.2.2.2.1.1)
    have H2 := Lib.hid (fun w' (hb : Below W.heap.size W w') => has_n a1 n1 k1 s.1 x.1 w' (hJ.below hb).2.2.2.1.1)
    have H3 := Lib.hid (fun w' (hb : Below W.heap.size W w') => has_n b' m' d' y.2 x.1 w' (hJ.below hb).2.2.2.2.1.2)
    have H4 := Lib.hid (fun w' (hb : Below W.heap.size W w') => has_n b1 m1 d1 s.2 x.1 w' (hJ.below hb).2.2.2.1.2)
    obtain ⟨⟨z0, z1⟩, z2, z3, z4, z5, z6, z7⟩ := hJ.cells
    rw [minusGo_in] at HV0
    clear hst hlt hv
    cases h1 : inB y.1 x.1
    · rw [h1] at H1 HV0
      clear h1
      cases h3 : inB y.2 x.1
      · rw [h3] at H3 HV0
        clear h3
        have HV : Hid ((vals (pre ++ [x])).foldl (minusGo y) (x0, []) = (s, out)) := HV0.out
        gi_wp2_with (first
          | ((first | refine ⟨trivial, ?_⟩ | skip); gi_at_call 73; (with_reducible refine (CallsIn.inRound lk (callsIn_wide.2 (H1.out _ hcur))).mono ?_); rintro e wz ⟨rfl, hbz⟩; have hcur := hcur.trans (hbz.mono hcur.size); have hJc := hJ.below hcur; obtain ⟨⟨z0, z1⟩, z2, z3, z4, z5, z6, z7⟩ := hJc.cells; clear hbz)
          | ((first | refine ⟨trivial, ?_⟩ | skip); gi_at_call 73; (with_reducible refine (CallsIn.inRound lk (callsIn_wide.2 (H2.out _ hcur))).mono ?_); rintro e wz ⟨rfl, hbz⟩; have hcur := hcur.trans (hbz.mono hcur.size); have hJc := hJ.below hcur; obtain ⟨⟨z0, z1⟩, z2, z3, z4, z5, z6, z7⟩ := hJc.cells; clear hbz)
          | ((first | refine ⟨trivial, ?_⟩ | skip); gi_at_call 73; (with_reducible refine (CallsIn.inRound lk (callsIn_wide.2 (H3.out _ hcur))).mono ?_); rintro e wz ⟨rfl, hbz⟩; have hcur := hcur.trans (hbz.mono hcur.size); have hJc := hJ.below hcur; obtain ⟨⟨z0, z1⟩, z2, z3, z4, z5, z6, z7⟩ := hJc.cells; clear hbz)
          | ((first | refine ⟨trivial, ?_⟩ | skip); gi_at_call 73; (with_reducible refine (CallsIn.inRound lk (callsIn_wide.2 (H4.out _ hcur))).mono ?_); rintro e wz ⟨rfl, hbz⟩; have hcur := hcur.trans (hbz.mono hcur.size); have hJc := hJ.below hcur; obtain ⟨⟨z0, z1⟩, z2, z3, z4, z5, z6, z7⟩ := hJc.cells; clear hbz)
          | (refine ⟨trivial, ?_⟩))
        exact ⟨(kept_below hcur).from _, But.of (hcur.mono hNW), _, _, _, _, _, _, _, by rw [HV.out]; exact hJc, hBut.trans (But.of (hcur.mono hNW))⟩
      · rw [h3] at H3 HV0
        clear h3
        cases h4 : inB s.2 x.1
        · rw [h4] at H4 HV0
          clear h4
          have HV : Hid ((vals (pre ++ [x])).foldl (minusGo y) (x0, []) = ((s.1, withL s.2 x.1), out ++ [(withL s.1 x.1, s.2)])) := HV0.out
          gi_wp2_with (first
          | ((first | refine ⟨trivial, ?_⟩ | skip); gi_at_call 73; (with_reducible refine (CallsIn.inRound lk (callsIn_wide.2 (H1.out _ hcur))).mono ?_); rintro e wz ⟨rfl, hbz⟩; have hcur := hcur.trans (hbz.mono hcur.size); have hJc := hJ.below hcur; obtain ⟨⟨z0, z1⟩, z2, z3, z4, z5, z6, z7⟩ := hJc.cells; clear hbz)
          | ((first | refine ⟨trivial, ?_⟩ | skip); gi_at_call 73; (with_reducible refine (CallsIn.inRound lk (callsIn_wide.2 (H2.out _ hcur))).mono ?_); rintro e wz ⟨rfl, hbz⟩; have hcur := hcur.trans (hbz.mono hcur.size); have hJc := hJ.below hcur; obtain ⟨⟨z0, z1⟩, z2, z3, z4, z5, z6, z7⟩ := hJc.cells; clear hbz)
          | ((first | refine ⟨trivial, ?_⟩ | skip); gi_at_call 73; (with_reducible refine (CallsIn.inRound lk (callsIn_wide.2 (H3.out _ hcur))).mono ?_); rintro e wz ⟨rfl, hbz⟩; have hcur := hcur.trans (hbz.mono hcur.size); have hJc := hJ.below hcur; obtain ⟨⟨z0, z1⟩, z2, z3, z4, z5, z6, z7⟩ := hJc.cells; clear hbz)
          | ((first | refine ⟨trivial, ?_⟩ | skip); gi_at_call 73; (with_reducible refine (CallsIn.inRound lk (callsIn_wide.2 (H4.out _ hcur))).mono ?_); rintro e wz ⟨rfl, hbz⟩; have hcur := hcur.trans (hbz.mono hcur.size); have hJc := hJ.below hcur; obtain ⟨⟨z0, z1⟩, z2, z3, z4, z5, z6, z7⟩ := hJc.cells; clear hbz)
          | (refine ⟨trivial, ?_⟩))
          obtain ⟨wc, hwc⟩ : ∃ wc, wc = wz := ⟨_, rfl⟩
          rw [← hwc] at hcur hJc ⊢
          clear hwc z0 z1 z2 z3 z4 z5 z6 z7
          refine wpIn_region_round (S := fun w' => w'.cell? ⟨w.heap.size, 0, none⟩ = some (.slice a1 n1 k1) ∧ w'.cell? ⟨w.heap.size, 1, none⟩ = some (.slice b1 m1 d1)) (by kernel_rfl) (by kernel_rfl) ?_ (hJc.cells.1) (fun hS0 => ?_)
          · exact fun _ _ h => h
          have hJd := hJc.below (Below.refl wc.heap.size wc).drew
          have z4d := hJd.cells.2.2.2.1
          have hcbd : Bs wc.drew a1 n1 k1 s.1 := hJd.2.2.2.1.1
          refine' wpAnyH_take (i := 1) (v := _) rfl (by kernel_rfl) (by kernel_rfl) (by kernel_rfl) (fun _ _ _ h => h) (Or.inl ⟨by rfl, fun w' hSw => ?_⟩) hS0 ?_; rotate_left; (focus ((try dsimp only at hSw); go_simp <;> (with_reducible rfl))); (try simp only [Act.put, List.setIfInBounds_toArray, List.set_cons_zero, List.set_cons_succ])
          refine' wpAnyH_take (i := 2) (v := _) rfl (by kernel_rfl) (by kernel_rfl) (by kernel_rfl) (fun _ _ _ h => h) (Or.inl ⟨by rfl, fun w' hSw => ?_⟩) hS0 ?_; rotate_left; (focus ((try dsimp only at hSw); go_simp <;> (with_reducible rfl))); (try simp only [Act.put, List.setIfInBounds_toArray, List.set_cons_zero, List.set_cons_succ])
          refine' wpAnyH_take (i := 3) (v := _) rfl (by kernel_rfl) (by kernel_rfl) (by kernel_rfl) (fun _ _ _ h => h) (Or.inl ⟨by rfl, fun w' hSw => ?_⟩) hS0 ?_; rotate_left; (focus ((try dsimp only at hSw); go_simp <;> (with_reducible rfl))); (try simp only [Act.put, List.setIfInBounds_toArray, List.set_cons_zero, List.set_cons_succ])
          refine' wpAnyH_take (i := 5) (v := _) rfl (by kernel_rfl) (by kernel_rfl) (by kernel_rfl) (fun _ _ _ h => h) (Or.inl ⟨by rfl, fun w' hSw => ?_⟩) hS0 ?_; rotate_left; (focus ((try dsimp only at hSw); go_simp <;> (with_reducible rfl))); (try simp only [Act.put, List.setIfInBounds_toArray, List.set_cons_zero, List.set_cons_succ])
          refine' wpAnyH_take (i := 6) (v := _) rfl (by kernel_rfl) (by kernel_rfl) (by kernel_rfl) (fun _ _ _ h => h) (Or.inl ⟨by rfl, fun w' hSw => ?_⟩) hS0 ?_; rotate_left; (focus ((try dsimp only at hSw); go_simp <;> (with_reducible rfl))); (try simp only [Act.put, List.setIfInBounds_toArray, List.set_cons_zero, List.set_cons_succ])
          refine wpAnyH_ready (rs := [0, 4]) (by kernel_rfl) (by simp) ?_
          refine AllReadyH.cons rfl (fun K hK => ?_) (AllReadyH.cons rfl (fun K hK => ?_) (AllReadyH.nil))
          · go_simp; (try go_wp2_with fail); refine hK.out _ _ (hJd.cells.1) (fun hSb => ?_); clear hK K; (try simp only [Act.put, List.setIfInBounds_toArray, List.set_cons_zero, List.set_cons_succ])
            refine wpAnyH_ready (rs := [4]) (by kernel_rfl) (by simp) ?_
            refine AllReadyH.cons rfl (fun K hK => ?_) AllReadyH.nil
            go_simp; go_at_call 70; (with_reducible refine (with_any a1 n1 k1 s.1 ((x.1 : Nat) : Int) _ hcbd).mono ?_); rintro e w6 ⟨a6, n6, k6, rfl, hs6, hb6⟩; have hJ6 := hJd.below hb6; have z4 := hJ6.cells.2.2.2.1; (try go_wp2_with fail); refine hK.out _ _ (hJ6.cells.1) (fun hS11 => ?_); clear hK K; (try simp only [Act.put, List.setIfInBounds_toArray, List.set_cons_zero, List.set_cons_succ])
            refine' wpAnyH_take (i := 7) (v := _) rfl (by kernel_rfl) (by kernel_rfl) (by kernel_rfl) (fun _ _ _ h => h) (Or.inl ⟨by rfl, fun w' hSw => ?_⟩) hS11 ?_; rotate_left; (focus ((try dsimp only at hSw); go_simp <;> (with_reducible rfl))); (try simp only [Act.put, List.setIfInBounds_toArray, List.set_cons_zero, List.set_cons_succ])
            refine wpAnyH_ready (rs := [8]) (by kernel_rfl) (by simp) ?_
            refine AllReadyH.cons rfl (fun K hK => ?_) AllReadyH.nil
            go_simp; have hJ7 := hJ6.below ((Below.refl w6.heap.size w6).alloc (Nat.le_refl _) (.cells #[.slice a6 n6 k6, .slice b1 m1 d1] 34)); have z4' := hJ7.cells.2.2.2.1; have hap : Cs (w6.alloc (.cells #[.slice a6 n6 k6, .slice b1 m1 d1] 34)) (some ⟨w6.heap.size, 0, none⟩) 1 1 [(withL s.1 x.1, s.2)] := Cs.one w6 a6 b1 n6 k6 m1 d1 (withL s.1 x.1, s.2) ⟨hs6, hJ6.2.2.2.1.2⟩ _ rfl; (try go_wp2_with fail); refine hK.out _ _ (hJ7.cells.1) (fun hS12 => ?_); clear hK K; (try simp only [Act.put, List.setIfInBounds_toArray, List.set_cons_zero, List.set_cons_succ])
            refine wpAnyH_ready (rs := [9]) (by kernel_rfl) (by simp) ?_
            refine AllReadyH.cons rfl (fun K hK => ?_) AllReadyH.nil
            rw [if_pos (by rfl)]
            refine wp_append_co (.tmp 67) (.tmp 75) rfl (w3.heap.size + 1) v1 out rfl hJ7.2.2.2.2.2.1 _ 1 1 _ rfl hap hob hJ7.2.2.2.2.2.2.2.2 ?_
            rintro v9 w9 hown9 hg9
            obtain ⟨a9, q9, k9, rfl, -, -⟩ := hown9.dn
            obtain ⟨m0, m1', m2'⟩ := hJ7.mid hg9
            refine hK.out _ _ m0 (fun hSn => ?_); clear hK K; (try simp only [Act.put, List.setIfInBounds_toArray, List.set_cons_zero, List.set_cons_succ])
            have hJ10 := hJ7.append hg9 hown9 hvs.out
            refine wpAnyH_ready (rs := [10]) (by kernel_rfl) (by simp) ?_
            refine AllReadyH.cons rfl (fun K hK => ?_) AllReadyH.nil
            go_simp; (try go_wp2_with fail); refine hK.out _ _ (hJ10.cells.1) (fun hS14 => ?_); clear hK K; (try simp only [Act.put, List.setIfInBounds_toArray, List.set_cons_zero, List.set_cons_succ])
            refine wpAnyH_done (by kernel_rfl) (NoPanic.normal ?_) _
            have hcb10 : Bs _ b1 m1 d1 s.2 := hJ10.2.2.2.1.2
            obtain ⟨⟨z0, z1⟩, z2, z3, z4, z5, z6, z7⟩ := hJ10.cells
            gi_wp2_with ((first | refine ⟨trivial, ?_⟩ | skip); gi_at_call 70; (with_reducible refine (CallsIn.inRound lk (callsIn_wide.2 (with_any b1 m1 d1 s.2 ((x.1 : Nat) : Int) _ hcb10))).mono ?_); rintro e w11 ⟨a11, n11, k11, rfl, hs11, hb11⟩; have hJ11 := hJ10.below hb11; obtain ⟨⟨z0, z1⟩, z2, z3, z4, z5, z6, z7⟩ := hJ11.cells)
            have hE := step_all hcur hJc hNW hb6 hg9 hb11 (i := 1) (Value.slice a11 n11 k11)
            exact ⟨hE.1.from _, hE.2, _, _, _, _, _, _, _, by rw [HV.out]; exact hJ11.set2 hs11, hBut.trans hE.2⟩
          · go_simp; go_at_call 70; (with_reducible refine (with_any a1 n1 k1 s.1 ((x.1 : Nat) : Int) _ hcbd).mono ?_); rintro e w6 ⟨a6, n6, k6, rfl, hs6, hb6⟩; have hJ6 := hJd.below hb6; have z4 := hJ6.cells.2.2.2.1; (try go_wp2_with fail); refine hK.out _ _ (hJ6.cells.1) (fun hSb => ?_); clear hK K; (try simp only [Act.put, List.setIfInBounds_toArray, List.set_cons_zero, List.set_cons_succ])
            refine' wpAnyH_take (i := 7) (v := _) rfl (by kernel_rfl) (by kernel_rfl) (by kernel_rfl) (fun _ _ _ h => h) (Or.inl ⟨by rfl, fun w' hSw => ?_⟩) hSb ?_; rotate_left; (focus ((try dsimp only at hSw); go_simp <;> (with_reducible rfl))); (try simp only [Act.put, List.setIfInBounds_toArray, List.set_cons_zero, List.set_cons_succ])
            refine wpAnyH_ready (rs := [0, 8]) (by kernel_rfl) (by simp) ?_
            refine AllReadyH.cons rfl (fun K hK => ?_) (AllReadyH.cons rfl (fun K hK => ?_) (AllReadyH.nil))
            · go_simp; (try go_wp2_with fail); refine hK.out _ _ (hJ6.cells.1) (fun hSb => ?_); clear hK K; (try simp only [Act.put, List.setIfInBounds_toArray, List.set_cons_zero, List.set_cons_succ])
              refine wpAnyH_ready (rs := [8]) (by kernel_rfl) (by simp) ?_
              refine AllReadyH.cons rfl (fun K hK => ?_) AllReadyH.nil
              go_simp; have hJ7 := hJ6.below ((Below.refl w6.heap.size w6).alloc (Nat.le_refl _) (.cells #[.slice a6 n6 k6, .slice b1 m1 d1] 34)); have z4' := hJ7.cells.2.2.2.1; have hap : Cs (w6.alloc (.cells #[.slice a6 n6 k6, .slice b1 m1 d1] 34)) (some ⟨w6.heap.size, 0, none⟩) 1 1 [(withL s.1 x.1, s.2)] := Cs.one w6 a6 b1 n6 k6 m1 d1 (withL s.1 x.1, s.2) ⟨hs6, hJ6.2.2.2.1.2⟩ _ rfl; (try go_wp2_with fail); refine hK.out _ _ (hJ7.cells.1) (fun hS21 => ?_); clear hK K; (try simp only [Act.put, List.setIfInBounds_toArray, List.set_cons_zero, List.set_cons_succ])
              refine wpAnyH_ready (rs := [9]) (by kernel_rfl) (by simp) ?_
              refine AllReadyH.cons rfl (fun K hK => ?_) AllReadyH.nil
              rw [if_pos (by rfl)]
              refine wp_append_co (.tmp 67) (.tmp 75) rfl (w3.heap.size + 1) v1 out rfl hJ7.2.2.2.2.2.1 _ 1 1 _ rfl hap hob hJ7.2.2.2.2.2.2.2.2 ?_
              rintro v9 w9 hown9 hg9
              obtain ⟨a9, q9, k9, rfl, -, -⟩ := hown9.dn
              obtain ⟨m0, m1', m2'⟩ := hJ7.mid hg9
              refine hK.out _ _ m0 (fun hSn => ?_); clear hK K; (try simp only [Act.put, List.setIfInBounds_toArray, List.set_cons_zero, List.set_cons_succ])
              have hJ10 := hJ7.append hg9 hown9 hvs.out
              refine wpAnyH_ready (rs := [10]) (by kernel_rfl) (by simp) ?_
              refine AllReadyH.cons rfl (fun K hK => ?_) AllReadyH.nil
              go_simp; (try go_wp2_with fail); refine hK.out _ _ (hJ10.cells.1) (fun hS23 => ?_); clear hK K; (try simp only [Act.put, List.setIfInBounds_toArray, List.set_cons_zero, List.set_cons_succ])
              refine wpAnyH_done (by kernel_rfl) (NoPanic.normal ?_) _
              have hcb10 : Bs _ b1 m1 d1 s.2 := hJ10.2.2.2.1.2
              obtain ⟨⟨z0, z1⟩, z2, z3, z4, z5, z6, z7⟩ := hJ10.cells
              gi_wp2_with ((first | refine ⟨trivial, ?_⟩ | skip); gi_at_call 70; (with_reducible refine (CallsIn.inRound lk (callsIn_wide.2 (with_any b1 m1 d1 s.2 ((x.1 : Nat) : Int) _ hcb10))).mono ?_); rintro e w11 ⟨a11, n11, k11, rfl, hs11, hb11⟩; have hJ11 := hJ10.below hb11; obtain ⟨⟨z0, z1⟩, z2, z3, z4, z5, z6, z7⟩ := hJ11.cells)
              have hE := step_all hcur hJc hNW hb6 hg9 hb11 (i := 1) (Value.slice a11 n11 k11)
              exact ⟨hE.1.from _, hE.2, _, _, _, _, _, _, _, by rw [HV.out]; exact hJ11.set2 hs11, hBut.trans hE.2⟩
            · go_simp; have hJ7 := hJ6.below ((Below.refl w6.heap.size w6).alloc (Nat.le_refl _) (.cells #[.slice a6 n6 k6, .slice b1 m1 d1] 34)); have z4' := hJ7.cells.2.2.2.1; have hap : Cs (w6.alloc (.cells #[.slice a6 n6 k6, .slice b1 m1 d1] 34)) (some ⟨w6.heap.size, 0, none⟩) 1 1 [(withL s.1 x.1, s.2)] := Cs.one w6 a6 b1 n6 k6 m1 d1 (withL s.1 x.1, s.2) ⟨hs6, hJ6.2.2.2.1.2⟩ _ rfl; (try go_wp2_with fail); refine hK.out _ _ (hJ7.cells.1) (fun hSb => ?_); clear hK K; (try simp only [Act.put, List.setIfInBounds_toArray, List.set_cons_zero, List.set_cons_succ])
              refine wpAnyH_ready (rs := [0]) (by kernel_rfl) (by simp) ?_
              refine AllReadyH.cons rfl (fun K hK => ?_) AllReadyH.nil
              go_simp; (try go_wp2_with fail); refine hK.out _ _ (hJ7.cells.1) (fun hS21 => ?_); clear hK K; (try simp only [Act.put, List.setIfInBounds_toArray, List.set_cons_zero, List.set_cons_succ])
              refine wpAnyH_ready (rs := [9]) (by kernel_rfl) (by simp) ?_
              refine AllReadyH.cons rfl (fun K hK => ?_) AllReadyH.nil
              rw [if_pos (by rfl)]
              refine wp_append_co (.tmp 67) (.tmp 75) rfl (w3.heap.size + 1) v1 out rfl hJ7.2.2.2.2.2.1 _ 1 1 _ rfl hap hob hJ7.2.2.2.2.2.2.2.2 ?_
              rintro v9 w9 hown9 hg9
              obtain ⟨a9, q9, k9, rfl, -, -⟩ := hown9.dn
              obtain ⟨m0, m1', m2'⟩ := hJ7.mid hg9
              refine hK.out _ _ m0 (fun hSn => ?_); clear hK K; (try simp only [Act.put, List.setIfInBounds_toArray, List.set_cons_zero, List.set_cons_succ])
              have hJ10 := hJ7.append hg9 hown9 hvs.out
              refine wpAnyH_ready (rs := [10]) (by kernel_rfl) (by simp) ?_
              refine AllReadyH.cons rfl (fun K hK => ?_) AllReadyH.nil
              go_simp; (try go_wp2_with fail); refine hK.out _ _ (hJ10.cells.1) (fun hS23 => ?_); clear hK K; (try simp only [Act.put, List.setIfInBounds_toArray, List.set_cons_zero, List.set_cons_succ])
              refine wpAnyH_done (by kernel_rfl) (NoPanic.normal ?_) _
              have hcb10 : Bs _ b1 m1 d1 s.2 := hJ10.2.2.2.1.2
              obtain ⟨⟨z0, z1⟩, z2, z3, z4, z5, z6, z7⟩ := hJ10.cells
              gi_wp2_with ((first | refine ⟨trivial, ?_⟩ | skip); gi_at_call 70; (with_reducible refine (CallsIn.inRound lk (callsIn_wide.2 (with_any b1 m1 d1 s.2 ((x.1 : Nat) : Int) _ hcb10))).mono ?_); rintro e w11 ⟨a11, n11, k11, rfl, hs11, hb11⟩; have hJ11 := hJ10.below hb11; obtain ⟨⟨z0, z1⟩, z2, z3, z4, z5, z6, z7⟩ := hJ11.cells)
              have hE := step_all hcur hJc hNW hb6 hg9 hb11 (i := 1) (Value.slice a11 n11 k11)
              exact ⟨hE.1.from _, hE.2, _, _, _, _, _, _, _, by rw [HV.out]; exact hJ11.set2 hs11, hBut.trans hE.2⟩
        · rw [h4] at H4 HV0
          clear h4
          have HV : Hid ((vals (pre ++ [x])).foldl (minusGo y) (x0, []) = (s, out)) := HV0.out
          gi_wp2_with (first
          | ((first | refine ⟨trivial, ?_⟩ | skip); gi_at_call 73; (with_reducible refine (CallsIn.inRound lk (callsIn_wide.2 (H1.out _ hcur))).mono ?_); rintro e wz ⟨rfl, hbz⟩; have hcur := hcur.trans (hbz.mono hcur.size); have hJc := hJ.below hcur; obtain ⟨⟨z0, z1⟩, z2, z3, z4, z5, z6, z7⟩ := hJc.cells; clear hbz)
          | ((first | refine ⟨trivial, ?_⟩ | skip); gi_at_call 73; (with_reducible refine (CallsIn.inRound lk (callsIn_wide.2 (H2.out _ hcur))).mono ?_); rintro e wz ⟨rfl, hbz⟩; have hcur := hcur.trans (hbz.mono hcur.size); have hJc := hJ.below hcur; obtain ⟨⟨z0, z1⟩, z2, z3, z4, z5, z6, z7⟩ := hJc.cells; clear hbz)
          | ((first | refine ⟨trivial, ?_⟩ | skip); gi_at_call 73; (with_reducible refine (CallsIn.inRound lk (callsIn_wide.2 (H3.out _ hcur))).mono ?_); rintro e wz ⟨rfl, hbz⟩; have hcur := hcur.trans (hbz.mono hcur.size); have hJc := hJ.below hcur; obtain ⟨⟨z0, z1⟩, z2, z3, z4, z5, z6, z7⟩ := hJc.cells; clear hbz)
          | ((first | refine ⟨trivial, ?_⟩ | skip); gi_at_call 73; (with_reducible refine (CallsIn.inRound lk (callsIn_wide.2 (H4.out _ hcur))).mono ?_); rintro e wz ⟨rfl, hbz⟩; have hcur := hcur.trans (hbz.mono hcur.size); have hJc := hJ.below hcur; obtain ⟨⟨z0, z1⟩, z2, z3, z4, z5, z6, z7⟩ := hJc.cells; clear hbz)
          | (refine ⟨trivial, ?_⟩))
          exact ⟨(kept_below hcur).from _, But.of (hcur.mono hNW), _, _, _, _, _, _, _, by rw [HV.out]; exact hJc, hBut.trans (But.of (hcur.mono hNW))⟩
    · rw [h1] at H1 HV0
      clear h1
      cases h2 : inB s.1 x.1
      · rw [h2] at H2 HV0
        clear h2
        have HV : Hid ((vals (pre ++ [x])).foldl (minusGo y) (x0, []) = ((withL s.1 x.1, s.2), out ++ [(s.1, withL s.2 x.1)])) := HV0.out
        gi_wp2_with (first
          | ((first | refine ⟨trivial, ?_⟩ | skip); gi_at_call 73; (with_reducible refine (CallsIn.inRound lk (callsIn_wide.2 (H1.out _ hcur))).mono ?_); rintro e wz ⟨rfl, hbz⟩; have hcur := hcur.trans (hbz.mono hcur.size); have hJc := hJ.below hcur; obtain ⟨⟨z0, z1⟩, z2, z3, z4, z5, z6, z7⟩ := hJc.cells; clear hbz)
          | ((first | refine ⟨trivial, ?_⟩ | skip); gi_at_call 73; (with_reducible refine (CallsIn.inRound lk (callsIn_wide.2 (H2.out _ hcur))).mono ?_); rintro e wz ⟨rfl, hbz⟩; have hcur := hcur.trans (hbz.mono hcur.size); have hJc := hJ.below hcur; obtain ⟨⟨z0, z1⟩, z2, z3, z4, z5, z6, z7⟩ := hJc.cells; clear hbz)
          | ((first | refine ⟨trivial, ?_⟩ | skip); gi_at_call 73; (with_reducible refine (CallsIn.inRound lk (callsIn_wide.2 (H3.out _ hcur))).mono ?_); rintro e wz ⟨rfl, hbz⟩; have hcur := hcur.trans (hbz.mono hcur.size); have hJc := hJ.below hcur; obtain ⟨⟨z0, z1⟩, z2, z3, z4, z5, z6, z7⟩ := hJc.cells; clear hbz)
          | ((first | refine ⟨trivial, ?_⟩ | skip); gi_at_call 73; (with_reducible refine (CallsIn.inRound lk (callsIn_wide.2 (H4.out _ hcur))).mono ?_); rintro e wz ⟨rfl, hbz⟩; have hcur := hcur.trans (hbz.mono hcur.size); have hJc := hJ.below hcur; obtain ⟨⟨z0, z1⟩, z2, z3, z4, z5, z6, z7⟩ := hJc.cells; clear hbz)
          | (refine ⟨trivial, ?_⟩))
        obtain ⟨wc, hwc⟩ : ∃ wc, wc = wz := ⟨_, rfl⟩
        rw [← hwc] at hcur hJc ⊢
        clear hwc z0 z1 z2 z3 z4 z5 z6 z7
        refine wpIn_region_round (S := fun w' => w'.cell? ⟨w.heap.size, 0, none⟩ = some (.slice a1 n1 k1) ∧ w'.cell? ⟨w.heap.size, 1, none⟩ = some (.slice b1 m1 d1)) (by kernel_rfl) (by kernel_rfl) ?_ (hJc.cells.1) (fun hS0 => ?_)
        · exact fun _ _ h => h
        have hJd := hJc.below (Below.refl wc.heap.size wc).drew
        have z4d := hJd.cells.2.2.2.1
        have hcbd : Bs wc.drew b1 m1 d1 s.2 := hJd.2.2.2.1.2
        refine' wpAnyH_take (i := 1) (v := _) rfl (by kernel_rfl) (by kernel_rfl) (by kernel_rfl) (fun _ _ _ h => h) (Or.inl ⟨by rfl, fun w' hSw => ?_⟩) hS0 ?_; rotate_left; (focus ((try dsimp only at hSw); go_simp <;> (with_reducible rfl))); (try simp only [Act.put, List.setIfInBounds_toArray, List.set_cons_zero, List.set_cons_succ])
        refine' wpAnyH_take (i := 2) (v := _) rfl (by kernel_rfl) (by kernel_rfl) (by kernel_rfl) (fun _ _ _ h => h) (Or.inl ⟨by rfl, fun w' hSw => ?_⟩) hS0 ?_; rotate_left; (focus ((try dsimp only at hSw); go_simp <;> (with_reducible rfl))); (try simp only [Act.put, List.setIfInBounds_toArray, List.set_cons_zero, List.set_cons_succ])
        refine' wpAnyH_take (i := 3) (v := _) rfl (by kernel_rfl) (by kernel_rfl) (by kernel_rfl) (fun _ _ _ h => h) (Or.inl ⟨by rfl, fun w' hSw => ?_⟩) hS0 ?_; rotate_left; (focus ((try dsimp only at hSw); go_simp <;> (with_reducible rfl))); (try simp only [Act.put, List.setIfInBounds_toArray, List.set_cons_zero, List.set_cons_succ])
        refine' wpAnyH_take (i := 4) (v := _) rfl (by kernel_rfl) (by kernel_rfl) (by kernel_rfl) (fun _ _ _ h => h) (Or.inl ⟨by rfl, fun w' hSw => ?_⟩) hS0 ?_; rotate_left; (focus ((try dsimp only at hSw); go_simp <;> (with_reducible rfl))); (try simp only [Act.put, List.setIfInBounds_toArray, List.set_cons_zero, List.set_cons_succ])
        refine' wpAnyH_take (i := 5) (v := _) rfl (by kernel_rfl) (by kernel_rfl) (by kernel_rfl) (fun _ _ _ h => h) (Or.inl ⟨by rfl, fun w' hSw => ?_⟩) hS0 ?_; rotate_left; (focus ((try dsimp only at hSw); go_simp <;> (with_reducible rfl))); (try simp only [Act.put, List.setIfInBounds_toArray, List.set_cons_zero, List.set_cons_succ])
        refine wpAnyH_ready (rs := [0, 6]) (by kernel_rfl) (by simp) ?_
        refine AllReadyH.cons rfl (fun K hK => ?_) (AllReadyH.cons rfl (fun K hK => ?_) (AllReadyH.nil))
        · go_simp; (try go_wp2_with fail); refine hK.out _ _ (hJd.cells.1) (fun hSb => ?_); clear hK K; (try simp only [Act.put, List.setIfInBounds_toArray, List.set_cons_zero, List.set_cons_succ])
          refine wpAnyH_ready (rs := [6]) (by kernel_rfl) (by simp) ?_
          refine AllReadyH.cons rfl (fun K hK => ?_) AllReadyH.nil
          go_simp; go_at_call 70; (with_reducible refine (with_any b1 m1 d1 s.2 ((x.1 : Nat) : Int) _ hcbd).mono ?_); rintro e w6 ⟨a6, n6, k6, rfl, hs6, hb6⟩; have hJ6 := hJd.below hb6; have z4 := hJ6.cells.2.2.2.1; (try go_wp2_with fail); refine hK.out _ _ (hJ6.cells.1) (fun hS11 => ?_); clear hK K; (try simp only [Act.put, List.setIfInBounds_toArray, List.set_cons_zero, List.set_cons_succ])
          refine' wpAnyH_take (i := 7) (v := _) rfl (by kernel_rfl) (by kernel_rfl) (by kernel_rfl) (fun _ _ _ h => h) (Or.inl ⟨by rfl, fun w' hSw => ?_⟩) hS11 ?_; rotate_left; (focus ((try dsimp only at hSw); go_simp <;> (with_reducible rfl))); (try simp only [Act.put, List.setIfInBounds_toArray, List.set_cons_zero, List.set_cons_succ])
          refine wpAnyH_ready (rs := [8]) (by kernel_rfl) (by simp) ?_
          refine AllReadyH.cons rfl (fun K hK => ?_) AllReadyH.nil
          go_simp; have hJ7 := hJ6.below ((Below.refl w6.heap.size w6).alloc (Nat.le_refl _) (.cells #[.slice a1 n1 k1, .slice a6 n6 k6] 34)); have z4' := hJ7.cells.2.2.2.1; have hap : Cs (w6.alloc (.cells #[.slice a1 n1 k1, .slice a6 n6 k6] 34)) (some ⟨w6.heap.size, 0, none⟩) 1 1 [(s.1, withL s.2 x.1)] := Cs.one w6 a1 a6 n1 k1 n6 k6 (s.1, withL s.2 x.1) ⟨hJ6.2.2.2.1.1, hs6⟩ _ rfl; (try go_wp2_with fail); refine hK.out _ _ (hJ7.cells.1) (fun hS12 => ?_); clear hK K; (try simp only [Act.put, List.setIfInBounds_toArray, List.set_cons_zero, List.set_cons_succ])
          refine wpAnyH_ready (rs := [9]) (by kernel_rfl) (by simp) ?_
          refine AllReadyH.cons rfl (fun K hK => ?_) AllReadyH.nil
          rw [if_pos (by rfl)]
          refine wp_append_co (.tmp 40) (.tmp 48) rfl (w3.heap.size + 1) v1 out rfl hJ7.2.2.2.2.2.1 _ 1 1 _ rfl hap hob hJ7.2.2.2.2.2.2.2.2 ?_
          rintro v9 w9 hown9 hg9
          obtain ⟨a9, q9, k9, rfl, -, -⟩ := hown9.dn
          obtain ⟨m0, m1', m2'⟩ := hJ7.mid hg9
          refine hK.out _ _ m0 (fun hSn => ?_); clear hK K; (try simp only [Act.put, List.setIfInBounds_toArray, List.set_cons_zero, List.set_cons_succ])
          have hJ10 := hJ7.append hg9 hown9 hvs.out
          refine wpAnyH_ready (rs := [10]) (by kernel_rfl) (by simp) ?_
          refine AllReadyH.cons rfl (fun K hK => ?_) AllReadyH.nil
          go_simp; (try go_wp2_with fail); refine hK.out _ _ (hJ10.cells.1) (fun hS14 => ?_); clear hK K; (try simp only [Act.put, List.setIfInBounds_toArray, List.set_cons_zero, List.set_cons_succ])
          refine wpAnyH_done (by kernel_rfl) (NoPanic.normal ?_) _
          have hcb10 : Bs _ a1 n1 k1 s.1 := hJ10.2.2.2.1.1
          obtain ⟨⟨z0, z1⟩, z2, z3, z4, z5, z6, z7⟩ := hJ10.cells
          gi_wp2_with ((first | refine ⟨trivial, ?_⟩ | skip); gi_at_call 70; (with_reducible refine (CallsIn.inRound lk (callsIn_wide.2 (with_any a1 n1 k1 s.1 ((x.1 : Nat) : Int) _ hcb10))).mono ?_); rintro e w11 ⟨a11, n11, k11, rfl, hs11, hb11⟩; have hJ11 := hJ10.below hb11; obtain ⟨⟨z0, z1⟩, z2, z3, z4, z5, z6, z7⟩ := hJ11.cells)
          have hE := step_all hcur hJc hNW hb6 hg9 hb11 (i := 0) (Value.slice a11 n11 k11)
          exact ⟨hE.1.from _, hE.2, _, _, _, _, _, _, _, by rw [HV.out]; exact hJ11.set1 hs11, hBut.trans hE.2⟩
        · go_simp; go_at_call 70; (with_reducible refine (with_any b1 m1 d1 s.2 ((x.1 : Nat) : Int) _ hcbd).mono ?_); rintro e w6 ⟨a6, n6, k6, rfl, hs6, hb6⟩; have hJ6 := hJd.below hb6; have z4 := hJ6.cells.2.2.2.1; (try go_wp2_with fail); refine hK.out _ _ (hJ6.cells.1) (fun hSb => ?_); clear hK K; (try simp only [Act.put, List.setIfInBounds_toArray, List.set_cons_zero, List.set_cons_succ])
          refine' wpAnyH_take (i := 7) (v := _) rfl (by kernel_rfl) (by kernel_rfl) (by kernel_rfl) (fun _ _ _ h => h) (Or.inl ⟨by rfl, fun w' hSw => ?_⟩) hSb ?_; rotate_left; (focus ((try dsimp only at hSw); go_simp <;> (with_reducible rfl))); (try simp only [Act.put, List.setIfInBounds_toArray, List.set_cons_zero, List.set_cons_succ])
          refine wpAnyH_ready (rs := [0, 8]) (by kernel_rfl) (by simp) ?_
          refine AllReadyH.cons rfl (fun K hK => ?_) (AllReadyH.cons rfl (fun K hK => ?_) (AllReadyH.nil))
          · go_simp; (try go_wp2_with fail); refine hK.out _ _ (hJ6.cells.1) (fun hSb => ?_); clear hK K; (try simp only [Act.put, List.setIfInBounds_toArray, List.set_cons_zero, List.set_cons_succ])
            refine wpAnyH_ready (rs := [8]) (by kernel_rfl) (by simp) ?_
            refine AllReadyH.cons rfl (fun K hK => ?_) AllReadyH.nil
            go_simp; have hJ7 := hJ6.below ((Below.refl w6.heap.size w6).alloc (Nat.le_refl _) (.cells #[.slice a1 n1 k1, .slice a6 n6 k6] 34)); have z4' := hJ7.cells.2.2.2.1; have hap : Cs (w6.alloc (.cells #[.slice a1 n1 k1, .slice a6 n6 k6] 34)) (some ⟨w6.heap.size, 0, none⟩) 1 1 [(s.1, withL s.2 x.1)] := Cs.one w6 a1 a6 n1 k1 n6 k6 (s.1, withL s.2 x.1) ⟨hJ6.2.2.2.1.1, hs6⟩ _ rfl; (try go_wp2_with fail); refine hK.out _ _ (hJ7.cells.1) (fun hS21 => ?_); clear hK K; (try simp only [Act.put, List.setIfInBounds_toArray, List.set_cons_zero, List.set_cons_succ])
            refine wpAnyH_ready (rs := [9]) (by kernel_rfl) (by simp) ?_
            refine AllReadyH.cons rfl (fun K hK => ?_) AllReadyH.nil
            rw [if_pos (by rfl)]
            refine wp_append_co (.tmp 40) (.tmp 48) rfl (w3.heap.size + 1) v1 out rfl hJ7.2.2.2.2.2.1 _ 1 1 _ rfl hap hob hJ7.2.2.2.2.2.2.2.2 ?_
            rintro v9 w9 hown9 hg9
            obtain ⟨a9, q9, k9, rfl, -, -⟩ := hown9.dn
            obtain ⟨m0, m1', m2'⟩ := hJ7.mid hg9
            refine hK.out _ _ m0 (fun hSn => ?_); clear hK K; (try simp only [Act.put, List.setIfInBounds_toArray, List.set_cons_zero, List.set_cons_succ])
            have hJ10 := hJ7.append hg9 hown9 hvs.out
            refine wpAnyH_ready (rs := [10]) (by kernel_rfl) (by simp) ?_
            refine AllReadyH.cons rfl (fun K hK => ?_) AllReadyH.nil
            go_simp; (try go_wp2_with fail); refine hK.out _ _ (hJ10.cells.1) (fun hS23 => ?_); clear hK K; (try simp only [Act.put, List.setIfInBounds_toArray, List.set_cons_zero, List.set_cons_succ])
            refine wpAnyH_done (by kernel_rfl) (NoPanic.normal ?_) _
            have hcb10 : Bs _ a1 n1 k1 s.1 := hJ10.2.2.2.1.1
            obtain ⟨⟨z0, z1⟩, z2, z3, z4, z5, z6, z7⟩ := hJ10.cells
            gi_wp2_with ((first | refine ⟨trivial, ?_⟩ | skip); gi_at_call 70; (with_reducible refine (CallsIn.inRound lk (callsIn_wide.2 (with_any a1 n1 k1 s.1 ((x.1 : Nat) : Int) _ hcb10))).mono ?_); rintro e w11 ⟨a11, n11, k11, rfl, hs11, hb11⟩; have hJ11 := hJ10.below hb11; obtain ⟨⟨z0, z1⟩, z2, z3, z4, z5, z6, z7⟩ := hJ11.cells)
            have hE := step_all hcur hJc hNW hb6 hg9 hb11 (i := 0) (Value.slice a11 n11 k11)
            exact ⟨hE.1.from _, hE.2, _, _, _, _, _, _, _, by rw [HV.out]; exact hJ11.set1 hs11, hBut.trans hE.2⟩
          · go_simp; have hJ7 := hJ6.below ((Below.refl w6.heap.size w6).alloc (Nat.le_refl _) (.cells #[.slice a1 n1 k1, .slice a6 n6 k6] 34)); have z4' := hJ7.cells.2.2.2.1; have hap : Cs (w6.alloc (.cells #[.slice a1 n1 k1, .slice a6 n6 k6] 34)) (some ⟨w6.heap.size, 0, none⟩) 1 1 [(s.1, withL s.2 x.1)] := Cs.one w6 a1 a6 n1 k1 n6 k6 (s.1, withL s.2 x.1) ⟨hJ6.2.2.2.1.1, hs6⟩ _ rfl; (try go_wp2_with fail); refine hK.out _ _ (hJ7.cells.1) (fun hSb => ?_); clear hK K; (try simp only [Act.put, List.setIfInBounds_toArray, List.set_cons_zero, List.set_cons_succ])
            refine wpAnyH_ready (rs := [0]) (by kernel_rfl) (by simp) ?_
            refine AllReadyH.cons rfl (fun K hK => ?_) AllReadyH.nil
            go_simp; (try go_wp2_with fail); refine hK.out _ _ (hJ7.cells.1) (fun hS21 => ?_); clear hK K; (try simp only [Act.put, List.setIfInBounds_toArray, List.set_cons_zero, List.set_cons_succ])
            refine wpAnyH_ready (rs := [9]) (by kernel_rfl) (by simp) ?_
            refine AllReadyH.cons rfl (fun K hK => ?_) AllReadyH.nil
            rw [if_pos (by rfl)]
            refine wp_append_co (.tmp 40) (.tmp 48) rfl (w3.heap.size + 1) v1 out rfl hJ7.2.2.2.2.2.1 _ 1 1 _ rfl hap hob hJ7.2.2.2.2.2.2.2.2 ?_
            rintro v9 w9 hown9 hg9
            obtain ⟨a9, q9, k9, rfl, -, -⟩ := hown9.dn
            obtain ⟨m0, m1', m2'⟩ := hJ7.mid hg9
            refine hK.out _ _ m0 (fun hSn => ?_); clear hK K; (try simp only [Act.put, List.setIfInBounds_toArray, List.set_cons_zero, List.set_cons_succ])
            have hJ10 := hJ7.append hg9 hown9 hvs.out
            refine wpAnyH_ready (rs := [10]) (by kernel_rfl) (by simp) ?_
            refine AllReadyH.cons rfl (fun K hK => ?_) AllReadyH.nil
            go_simp; (try go_wp2_with fail); refine hK.out _ _ (hJ10.cells.1) (fun hS23 => ?_); clear hK K; (try simp only [Act.put, List.setIfInBounds_toArray, List.set_cons_zero, List.set_cons_succ])
            refine wpAnyH_done (by kernel_rfl) (NoPanic.normal ?_) _
            have hcb10 : Bs _ a1 n1 k1 s.1 := hJ10.2.2.2.1.1
            obtain ⟨⟨z0, z1⟩, z2, z3, z4, z5, z6, z7⟩ := hJ10.cells
            gi_wp2_with ((first | refine ⟨trivial, ?_⟩ | skip); gi_at_call 70; (with_reducible refine (CallsIn.inRound lk (callsIn_wide.2 (with_any a1 n1 k1 s.1 ((x.1 : Nat) : Int) _ hcb10))).mono ?_); rintro e w11 ⟨a11, n11, k11, rfl, hs11, hb11⟩; have hJ11 := hJ10.below hb11; obtain ⟨⟨z0, z1⟩, z2, z3, z4, z5, z6, z7⟩ := hJ11.cells)
            have hE := step_all hcur hJc hNW hb6 hg9 hb11 (i := 0) (Value.slice a11 n11 k11)
            exact ⟨hE.1.from _, hE.2, _, _, _, _, _, _, _, by rw [HV.out]; exact hJ11.set1 hs11, hBut.trans hE.2⟩
      · rw [h2] at H2 HV0
        clear h2
        cases h3 : inB y.2 x.1
        · rw [h3] at H3 HV0
          clear h3
          have HV : Hid ((vals (pre ++ [x])).foldl (minusGo y) (x0, []) = (s, out)) := HV0.out
          gi_wp2_with (first
          | ((first | refine ⟨trivial, ?_⟩ | skip); gi_at_call 73; (with_reducible refine (CallsIn.inRound lk (callsIn_wide.2 (H1.out _ hcur))).mono ?_); rintro e wz ⟨rfl, hbz⟩; have hcur := hcur.trans (hbz.mono hcur.size); have hJc := hJ.below hcur; obtain ⟨⟨z0, z1⟩, z2, z3, z4, z5, z6, z7⟩ := hJc.cells; clear hbz)
          | ((first | refine ⟨trivial, ?_⟩ | skip); gi_at_call 73; (with_reducible refine (CallsIn.inRound lk (callsIn_wide.2 (H2.out _ hcur))).mono ?_); rintro e wz ⟨rfl, hbz⟩; have hcur := hcur.trans (hbz.mono hcur.size); have hJc := hJ.below hcur; obtain ⟨⟨z0, z1⟩, z2, z3, z4, z5, z6, z7⟩ := hJc.cells; clear hbz)
          | ((first | refine ⟨trivial, ?_⟩ | skip); gi_at_call 73; (with_reducible refine (CallsIn.inRound lk (callsIn_wide.2 (H3.out _ hcur))).mono ?_); rintro e wz ⟨rfl, hbz⟩; have hcur := hcur.trans (hbz.mono hcur.size); have hJc := hJ.below hcur; obtain ⟨⟨z0, z1⟩, z2, z3, z4, z5, z6, z7⟩ := hJc.cells; clear hbz)
          | ((first | refine ⟨trivial, ?_⟩ | skip); gi_at_call 73; (with_reducible refine (CallsIn.inRound lk (callsIn_wide.2 (H4.out _ hcur))).mono ?_); rintro e wz ⟨rfl, hbz⟩; have hcur := hcur.trans (hbz.mono hcur.size); have hJc := hJ.below hcur; obtain ⟨⟨z0, z1⟩, z2, z3, z4, z5, z6, z7⟩ := hJc.cells; clear hbz)
          | (refine ⟨trivial, ?_⟩))
          exact ⟨(kept_below hcur).from _, But.of (hcur.mono hNW), _, _, _, _, _, _, _, by rw [HV.out]; exact hJc, hBut.trans (But.of (hcur.mono hNW))⟩
        · rw [h3] at H3 HV0
          clear h3
          cases h4 : inB s.2 x.1
          · rw [h4] at H4 HV0
            clear h4
            have HV : Hid ((vals (pre ++ [x])).foldl (minusGo y) (x0, []) = ((s.1, withL s.2 x.1), out ++ [(withL s.1 x.1, s.2)])) := HV0.out
            gi_wp2_with (first
          | ((first | refine ⟨trivial, ?_⟩ | skip); gi_at_call 73; (with_reducible refine (CallsIn.inRound lk (callsIn_wide.2 (H1.out _ hcur))).mono ?_); rintro e wz ⟨rfl, hbz⟩; have hcur := hcur.trans (hbz.mono hcur.size); have hJc := hJ.below hcur; obtain ⟨⟨z0, z1⟩, z2, z3, z4, z5, z6, z7⟩ := hJc.cells; clear hbz)
          | ((first | refine ⟨trivial, ?_⟩ | skip); gi_at_call 73; (with_reducible refine (CallsIn.inRound lk (callsIn_wide.2 (H2.out _ hcur))).mono ?_); rintro e wz ⟨rfl, hbz⟩; have hcur := hcur.trans (hbz.mono hcur.size); have hJc := hJ.below hcur; obtain ⟨⟨z0, z1⟩, z2, z3, z4, z5, z6, z7⟩ := hJc.cells; clear hbz)
          | ((first | refine ⟨trivial, ?_⟩ | skip); gi_at_call 73; (with_reducible refine (CallsIn.inRound lk (callsIn_wide.2 (H3.out _ hcur))).mono ?_); rintro e wz ⟨rfl, hbz⟩; have hcur := hcur.trans (hbz.mono hcur.size); have hJc := hJ.below hcur; obtain ⟨⟨z0, z1⟩, z2, z3, z4, z5, z6, z7⟩ := hJc.cells; clear hbz)
          | ((first | refine ⟨trivial, ?_⟩ | skip); gi_at_call 73; (with_reducible refine (CallsIn.inRound lk (callsIn_wide.2 (H4.out _ hcur))).mono ?_); rintro e wz ⟨rfl, hbz⟩; have hcur := hcur.trans (hbz.mono hcur.size); have hJc := hJ.below hcur; obtain ⟨⟨z0, z1⟩, z2, z3, z4, z5, z6, z7⟩ := hJc.cells; clear hbz)
          | (refine ⟨trivial, ?_⟩))
            obtain ⟨wc, hwc⟩ : ∃ wc, wc = wz := ⟨_, rfl⟩
            rw [← hwc] at hcur hJc ⊢
            clear hwc z0 z1 z2 z3 z4 z5 z6 z7
            refine wpIn_region_round (S := fun w' => w'.cell? ⟨w.heap.size, 0, none⟩ = some (.slice a1 n1 k1) ∧ w'.cell? ⟨w.heap.size, 1, none⟩ = some (.slice b1 m1 d1)) (by kernel_rfl) (by kernel_rfl) ?_ (hJc.cells.1) (fun hS0 => ?_)
            · exact fun _ _ h => h
            have hJd := hJc.below (Below.refl wc.heap.size wc).drew
            have z4d := hJd.cells.2.2.2.1
            have hcbd : Bs wc.drew a1 n1 k1 s.1 := hJd.2.2.2.1.1
            refine' wpAnyH_take (i := 1) (v := _) rfl (by kernel_rfl) (by kernel_rfl) (by kernel_rfl) (fun _ _ _ h => h) (Or.inl ⟨by rfl, fun w' hSw => ?_⟩) hS0 ?_; rotate_left; (focus ((try dsimp only at hSw); go_simp <;> (with_reducible rfl))); (try simp only [Act.put, List.setIfInBounds_toArray, List.set_cons_zero, List.set_cons_succ])
            refine' wpAnyH_take (i := 2) (v := _) rfl (by kernel_rfl) (by kernel_rfl) (by kernel_rfl) (fun _ _ _ h => h) (Or.inl ⟨by rfl, fun w' hSw => ?_⟩) hS0 ?_; rotate_left; (focus ((try dsimp only at hSw); go_simp <;> (with_reducible rfl))); (try simp only [Act.put, List.setIfInBounds_toArray, List.set_cons_zero, List.set_cons_succ])
            refine' wpAnyH_take (i := 3) (v := _) rfl (by kernel_rfl) (by kernel_rfl) (by kernel_rfl) (fun _ _ _ h => h) (Or.inl ⟨by rfl, fun w' hSw => ?_⟩) hS0 ?_; rotate_left; (focus ((try dsimp only at hSw); go_simp <;> (with_reducible rfl))); (try simp only [Act.put, List.setIfInBounds_toArray, List.set_cons_zero, List.set_cons_succ])
            refine' wpAnyH_take (i := 5) (v := _) rfl (by kernel_rfl) (by kernel_rfl) (by kernel_rfl) (fun _ _ _ h => h) (Or.inl ⟨by rfl, fun w' hSw => ?_⟩) hS0 ?_; rotate_left; (focus ((try dsimp only at hSw); go_simp <;> (with_reducible rfl))); (try simp only [Act.put, List.setIfInBounds_toArray, List.set_cons_zero, List.set_cons_succ])
            refine' wpAnyH_take (i := 6) (v := _) rfl (by kernel_rfl) (by kernel_rfl) (by kernel_rfl) (fun _ _ _ h => h) (Or.inl ⟨by rfl, fun w' hSw => ?_⟩) hS0 ?_; rotate_left; (focus ((try dsimp only at hSw); go_simp <;> (with_reducible rfl))); (try simp only [Act.put, List.setIfInBounds_toArray, List.set_cons_zero, List.set_cons_succ])
            refine wpAnyH_ready (rs := [0, 4]) (by kernel_rfl) (by simp) ?_
            refine AllReadyH.cons rfl (fun K hK => ?_) (AllReadyH.cons rfl (fun K hK => ?_) (AllReadyH.nil))
            · go_simp; (try go_wp2_with fail); refine hK.out _ _ (hJd.cells.1) (fun hSb => ?_); clear hK K; (try simp only [Act.put, List.setIfInBounds_toArray, List.set_cons_zero, List.set_cons_succ])
              refine wpAnyH_ready (rs := [4]) (by kernel_rfl) (by simp) ?_
              refine AllReadyH.cons rfl (fun K hK => ?_) AllReadyH.nil
              go_simp; go_at_call 70; (with_reducible refine (with_any a1 n1 k1 s.1 ((x.1 : Nat) : Int) _ hcbd).mono ?_); rintro e w6 ⟨a6, n6, k6, rfl, hs6, hb6⟩; have hJ6 := hJd.below hb6; have z4 := hJ6.cells.2.2.2.1; (try go_wp2_with fail); refine hK.out _ _ (hJ6.cells.1) (fun hS11 => ?_); clear hK K; (try simp only [Act.put, List.setIfInBounds_toArray, List.set_cons_zero, List.set_cons_succ])
              refine' wpAnyH_take (i := 7) (v := _) rfl (by kernel_rfl) (by kernel_rfl) (by kernel_rfl) (fun _ _ _ h => h) (Or.inl ⟨by rfl, fun w' hSw => ?_⟩) hS11 ?_; rotate_left; (focus ((try dsimp only at hSw); go_simp <;> (with_reducible rfl))); (try simp only [Act.put, List.setIfInBounds_toArray, List.set_cons_zero, List.set_cons_succ])
              refine wpAnyH_ready (rs := [8]) (by kernel_rfl) (by simp) ?_
              refine AllReadyH.cons rfl (fun K hK => ?_) AllReadyH.nil
              go_simp; have hJ7 := hJ6.below ((Below.refl w6.heap.size w6).alloc (Nat.le_refl _) (.cells #[.slice a6 n6 k6, .slice b1 m1 d1] 34)); have z4' := hJ7.cells.2.2.2.1; have hap : Cs (w6.alloc (.cells #[.slice a6 n6 k6, .slice b1 m1 d1] 34)) (some ⟨w6.heap.size, 0, none⟩) 1 1 [(withL s.1 x.1, s.2)] := Cs.one w6 a6 b1 n6 k6 m1 d1 (withL s.1 x.1, s.2) ⟨hs6, hJ6.2.2.2.1.2⟩ _ rfl; (try go_wp2_with fail); refine hK.out _ _ (hJ7.cells.1) (fun hS12 => ?_); clear hK K; (try simp only [Act.put, List.setIfInBounds_toArray, List.set_cons_zero, List.set_cons_succ])
              refine wpAnyH_ready (rs := [9]) (by kernel_rfl) (by simp) ?_
              refine AllReadyH.cons rfl (fun K hK => ?_) AllReadyH.nil
              rw [if_pos (by rfl)]
              refine wp_append_co (.tmp 67) (.tmp 75) rfl (w3.heap.size + 1) v1 out rfl hJ7.2.2.2.2.2.1 _ 1 1 _ rfl hap hob hJ7.2.2.2.2.2.2.2.2 ?_
              rintro v9 w9 hown9 hg9
              obtain ⟨a9, q9, k9, rfl, -, -⟩ := hown9.dn
              obtain ⟨m0, m1', m2'⟩ := hJ7.mid hg9
              refine hK.out _ _ m0 (fun hSn => ?_); clear hK K; (try simp only [Act.put, List.setIfInBounds_toArray, List.set_cons_zero, List.set_cons_succ])
              have hJ10 := hJ7.append hg9 hown9 hvs.out
              refine wpAnyH_ready (rs := [10]) (by kernel_rfl) (by simp) ?_
              refine AllReadyH.cons rfl (fun K hK => ?_) AllReadyH.nil
              go_simp; (try go_wp2_with fail); refine hK.out _ _ (hJ10.cells.1) (fun hS14 => ?_); clear hK K; (try simp only [Act.put, List.setIfInBounds_toArray, List.set_cons_zero, List.set_cons_succ])
              refine wpAnyH_done (by kernel_rfl) (NoPanic.normal ?_) _
              have hcb10 : Bs _ b1 m1 d1 s.2 := hJ10.2.2.2.1.2
              obtain ⟨⟨z0, z1⟩, z2, z3, z4, z5, z6, z7⟩ := hJ10.cells
              gi_wp2_with ((first | refine ⟨trivial, ?_⟩ | skip); gi_at_call 70; (with_reducible refine (CallsIn.inRound lk (callsIn_wide.2 (with_any b1 m1 d1 s.2 ((x.1 : Nat) : Int) _ hcb10))).mono ?_); rintro e w11 ⟨a11, n11, k11, rfl, hs11, hb11⟩; have hJ11 := hJ10.below hb11; obtain ⟨⟨z0, z1⟩, z2, z3, z4, z5, z6, z7⟩ := hJ11.cells)
              have hE := step_all hcur hJc hNW hb6 hg9 hb11 (i := 1) (Value.slice a11 n11 k11)
              exact ⟨hE.1.from _, hE.2, _, _, _, _, _, _, _, by rw [HV.out]; exact hJ11.set2 hs11, hBut.trans hE.2⟩
            · go_simp; go_at_call 70; (with_reducible refine (with_any a1 n1 k1 s.1 ((x.1 : Nat) : Int) _ hcbd).mono ?_); rintro e w6 ⟨a6, n6, k6, rfl, hs6, hb6⟩; have hJ6 := hJd.below hb6; have z4 := hJ6.cells.2.2.2.1; (try go_wp2_with fail); refine hK.out _ _ (hJ6.cells.1) (fun hSb => ?_); clear hK K; (try simp only [Act.put, List.setIfInBounds_toArray, List.set_cons_zero, List.set_cons_succ])
              refine' wpAnyH_take (i := 7) (v := _) rfl (by kernel_rfl) (by kernel_rfl) (by kernel_rfl) (fun _ _ _ h => h) (Or.inl ⟨by rfl, fun w' hSw => ?_⟩) hSb ?_; rotate_left; (focus ((try dsimp only at hSw); go_simp <;> (with_reducible rfl))); (try simp only [Act.put, List.setIfInBounds_toArray, List.set_cons_zero, List.set_cons_succ])
              refine wpAnyH_ready (rs := [0, 8]) (by kernel_rfl) (by simp) ?_
              refine AllReadyH.cons rfl (fun K hK => ?_) (AllReadyH.cons rfl (fun K hK => ?_) (AllReadyH.nil))
              · go_simp; (try go_wp2_with fail); refine hK.out _ _ (hJ6.cells.1) (fun hSb => ?_); clear hK K; (try simp only [Act.put, List.setIfInBounds_toArray, List.set_cons_zero, List.set_cons_succ])
                refine wpAnyH_ready (rs := [8]) (by kernel_rfl) (by simp) ?_
                refine AllReadyH.cons rfl (fun K hK => ?_) AllReadyH.nil
                go_simp; have hJ7 := hJ6.below ((Below.refl w6.heap.size w6).alloc (Nat.le_refl _) (.cells #[.slice a6 n6 k6, .slice b1 m1 d1] 34)); have z4' := hJ7.cells.2.2.2.1; have hap : Cs (w6.alloc (.cells #[.slice a6 n6 k6, .slice b1 m1 d1] 34)) (some ⟨w6.heap.size, 0, none⟩) 1 1 [(withL s.1 x.1, s.2)] := Cs.one w6 a6 b1 n6 k6 m1 d1 (withL s.1 x.1, s.2) ⟨hs6, hJ6.2.2.2.1.2⟩ _ rfl; (try go_wp2_with fail); refine hK.out _ _ (hJ7.cells.1) (fun hS21 => ?_); clear hK K; (try simp only [Act.put, List.setIfInBounds_toArray, List.set_cons_zero, List.set_cons_succ])
                refine wpAnyH_ready (rs := [9]) (by kernel_rfl) (by simp) ?_
                refine AllReadyH.cons rfl (fun K hK => ?_) AllReadyH.nil
                rw [if_pos (by rfl)]
                refine wp_append_co (.tmp 67) (.tmp 75) rfl (w3.heap.size + 1) v1 out rfl hJ7.2.2.2.2.2.1 _ 1 1 _ rfl hap hob hJ7.2.2.2.2.2.2.2.2 ?_
                rintro v9 w9 hown9 hg9
                obtain ⟨a9, q9, k9, rfl, -, -⟩ := hown9.dn
                obtain ⟨m0, m1', m2'⟩ := hJ7.mid hg9
                refine hK.out _ _ m0 (fun hSn => ?_); clear hK K; (try simp only [Act.put, List.setIfInBounds_toArray, List.set_cons_zero, List.set_cons_succ])
                have hJ10 := hJ7.append hg9 hown9 hvs.out
                refine wpAnyH_ready (rs := [10]) (by kernel_rfl) (by simp) ?_
                refine AllReadyH.cons rfl (fun K hK => ?_) AllReadyH.nil
                go_simp; (try go_wp2_with fail); refine hK.out _ _ (hJ10.cells.1) (fun hS23 => ?_); clear hK K; (try simp only [Act.put, List.setIfInBounds_toArray, List.set_cons_zero, List.set_cons_succ])
                refine wpAnyH_done (by kernel_rfl) (NoPanic.normal ?_) _
                have hcb10 : Bs _ b1 m1 d1 s.2 := hJ10.2.2.2.1.2
                obtain ⟨⟨z0, z1⟩, z2, z3, z4, z5, z6, z7⟩ := hJ10.cells
                gi_wp2_with ((first | refine ⟨trivial, ?_⟩ | skip); gi_at_call 70; (with_reducible refine (CallsIn.inRound lk (callsIn_wide.2 (with_any b1 m1 d1 s.2 ((x.1 : Nat) : Int) _ hcb10))).mono ?_); rintro e w11 ⟨a11, n11, k11, rfl, hs11, hb11⟩; have hJ11 := hJ10.below hb11; obtain ⟨⟨z0, z1⟩, z2, z3, z4, z5, z6, z7⟩ := hJ11.cells)
                have hE := step_all hcur hJc hNW hb6 hg9 hb11 (i := 1) (Value.slice a11 n11 k11)
                exact ⟨hE.1.from _, hE.2, _, _, _, _, _, _, _, by rw [HV.out]; exact hJ11.set2 hs11, hBut.trans hE.2⟩
              · go_simp; have hJ7 := hJ6.below ((Below.refl w6.heap.size w6).alloc (Nat.le_refl _) (.cells #[.slice a6 n6 k6, .slice b1 m1 d1] 34)); have z4' := hJ7.cells.2.2.2.1; have hap : Cs (w6.alloc (.cells #[.slice a6 n6 k6, .slice b1 m1 d1] 34)) (some ⟨w6.heap.size, 0, none⟩) 1 1 [(withL s.1 x.1, s.2)] := Cs.one w6 a6 b1 n6 k6 m1 d1 (withL s.1 x.1, s.2) ⟨hs6, hJ6.2.2.2.1.2⟩ _ rfl; (try go_wp2_with fail); refine hK.out _ _ (hJ7.cells.1) (fun hSb => ?_); clear hK K; (try simp only [Act.put, List.setIfInBounds_toArray, List.set_cons_zero, List.set_cons_succ])
                refine wpAnyH_ready (rs := [0]) (by kernel_rfl) (by simp) ?_
                refine AllReadyH.cons rfl (fun K hK => ?_) AllReadyH.nil
                go_simp; (try go_wp2_with fail); refine hK.out _ _ (hJ7.cells.1) (fun hS21 => ?_); clear hK K; (try simp only [Act.put, List.setIfInBounds_toArray, List.set_cons_zero, List.set_cons_succ])
                refine wpAnyH_ready (rs := [9]) (by kernel_rfl) (by simp) ?_
                refine AllReadyH.cons rfl (fun K hK => ?_) AllReadyH.nil
                rw [if_pos (by rfl)]
                refine wp_append_co (.tmp 67) (.tmp 75) rfl (w3.heap.size + 1) v1 out rfl hJ7.2.2.2.2.2.1 _ 1 1 _ rfl hap hob hJ7.2.2.2.2.2.2.2.2 ?_
                rintro v9 w9 hown9 hg9
                obtain ⟨a9, q9, k9, rfl, -, -⟩ := hown9.dn
                obtain ⟨m0, m1', m2'⟩ := hJ7.mid hg9
                refine hK.out _ _ m0 (fun hSn => ?_); clear hK K; (try simp only [Act.put, List.setIfInBounds_toArray, List.set_cons_zero, List.set_cons_succ])
                have hJ10 := hJ7.append hg9 hown9 hvs.out
                refine wpAnyH_ready (rs := [10]) (by kernel_rfl) (by simp) ?_
                refine AllReadyH.cons rfl (fun K hK => ?_) AllReadyH.nil
                go_simp; (try go_wp2_with fail); refine hK.out _ _ (hJ10.cells.1) (fun hS23 => ?_); clear hK K; (try simp only [Act.put, List.setIfInBounds_toArray, List.set_cons_zero, List.set_cons_succ])
                refine wpAnyH_done (by kernel_rfl) (NoPanic.normal ?_) _
                have hcb10 : Bs _ b1 m1 d1 s.2 := hJ10.2.2.2.1.2
                obtain ⟨⟨z0, z1⟩, z2, z3, z4, z5, z6, z7⟩ := hJ10.cells
                gi_wp2_with ((first | refine ⟨trivial, ?_⟩ | skip); gi_at_call 70; (with_reducible refine (CallsIn.inRound lk (callsIn_wide.2 (with_any b1 m1 d1 s.2 ((x.1 : Nat) : Int) _ hcb10))).mono ?_); rintro e w11 ⟨a11, n11, k11, rfl, hs11, hb11⟩; have hJ11 := hJ10.below hb11; obtain ⟨⟨z0, z1⟩, z2, z3, z4, z5, z6, z7⟩ := hJ11.cells)
                have hE := step_all hcur hJc hNW hb6 hg9 hb11 (i := 1) (Value.slice a11 n11 k11)
                exact ⟨hE.1.from _, hE.2, _, _, _, _, _, _, _, by rw [HV.out]; exact hJ11.set2 hs11, hBut.trans hE.2⟩
          · rw [h4] at H4 HV0
            clear h4
            have HV : Hid ((vals (pre ++ [x])).foldl (minusGo y) (x0, []) = (s, out)) := HV0.out
            gi_wp2_with (first
          | ((first | refine ⟨trivial, ?_⟩ | skip); gi_at_call 73; (with_reducible refine (CallsIn.inRound lk (callsIn_wide.2 (H1.out _ hcur))).mono ?_); rintro e wz ⟨rfl, hbz⟩; have hcur := hcur.trans (hbz.mono hcur.size); have hJc := hJ.below hcur; obtain ⟨⟨z0, z1⟩, z2, z3, z4, z5, z6, z7⟩ := hJc.cells; clear hbz)
          | ((first | refine ⟨trivial, ?_⟩ | skip); gi_at_call 73; (with_reducible refine (CallsIn.inRound lk (callsIn_wide.2 (H2.out _ hcur))).mono ?_); rintro e wz ⟨rfl, hbz⟩; have hcur := hcur.trans (hbz.mono hcur.size); have hJc := hJ.below hcur; obtain ⟨⟨z0, z1⟩, z2, z3, z4, z5, z6, z7⟩ := hJc.cells; clear hbz)
          | ((first | refine ⟨trivial, ?_⟩ | skip); gi_at_call 73; (with_reducible refine (CallsIn.inRound lk (callsIn_wide.2 (H3.out _ hcur))).mono ?_); rintro e wz ⟨rfl, hbz⟩; have hcur := hcur.trans (hbz.mono hcur.size); have hJc := hJ.below hcur; obtain ⟨⟨z0, z1⟩, z2, z3, z4, z5, z6, z7⟩ := hJc.cells; clear hbz)
          | ((first | refine ⟨trivial, ?_⟩ | skip); gi_at_call 73; (with_reducible refine (CallsIn.inRound lk (callsIn_wide.2 (H4.out _ hcur))).mono ?_); rintro e wz ⟨rfl, hbz⟩; have hcur := hcur.trans (hbz.mono hcur.size); have hJc := hJ.below hcur; obtain ⟨⟨z0, z1⟩, z2, z3, z4, z5, z6, z7⟩ := hJc.cells; clear hbz)
          | (refine ⟨trivial, ?_⟩))
            exact ⟨(kept_below hcur).from _, But.of (hcur.mono hNW), _, _, _, _, _, _, _, by rw [HV.out]; exact hJc, hBut.trans (But.of (hcur.mono hNW))⟩
  case done =>
    rintro D ys W hD hys ⟨a1, n1, k1, b1, m1, d1, v1, hJ, hBut⟩ hK
    obtain ⟨⟨z0, z1⟩, z2, z3, z4, z5, z6, z7⟩ := hJ.cells
    have hbw : Below w.heap.size w W := (hB3.trans (hal.mono hB3.size)).trans (hBut.below (by omega) (Nat.le_refl _) (by omega))
    have hys' : vals ys = L := hys
    rw [hys'] at hJ
    gi_wp2
    refine ⟨by simp, .inl ⟨_, _, rfl, run_takeDeferred hK, ?_⟩⟩
    simp only [World.size_alloc] at hD
    refine ⟨_, results_tmp rfl _ _ _, v1, rfl, ?_, hbw.trans (belowK_b (w := w) (Nat.le_refl _) W D _ _ (by omega) hK rfl rfl)⟩
    exact (hJ.kept (grownBy_putObj' W D _) (fun r e => by cases e; exact ⟨_, hK, rfl⟩)).2.2.2.2.2.1.lower (by omega)
  case stop =>
    rintro D c pre W _ _ h _
    exact h.elim
theorem minusC_any (a b a' b' : Option Addr) (n c m d n' c' m' d' : Nat) (x y : Cu) (w : World) (h : Cb w ⟨a, n, c, b, m, d⟩ x) (k : Cb w ⟨a', n', c', b', m', d'⟩ y) (hT : Tz w) :
    Calls Tryz.prog 40 #[.agg #[.slice a n c, .slice b m d], .agg #[.slice a' n' c', .slice b' m' d']] w (MinusPost w x y) := by
  cases hx : emptyC x
  · cases hy : emptyC (bothC x y)
    · exact minus_loop a b a' b' n c m d n' c' m' d' x y w h k hT hx hy
    · exact minus_easy a b a' b' n c m d n' c' m' d' x y w h k (.inr hy)
  · exact minus_easy a b a' b' n c m d n' c' m' d' x y w h k (.inl hx)
end Go.Proofs.YtadomogbakcokaaGreatDoor
