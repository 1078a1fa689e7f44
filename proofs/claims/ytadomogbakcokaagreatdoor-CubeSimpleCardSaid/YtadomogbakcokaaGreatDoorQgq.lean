/- Several of the texts below, joined: CuX CuY. -/
import Derived.Test.YtadomogbakcokaaGreatDoorQgp
import Derived.Test.YtadomogbakcokaaGreatDoorQgn
import Derived.Test.YtadomogbakcokaaGreatDoorQgl
section
/- Contract: Text of a cube (its loop over a function). What the loop keeps. -/
namespace Go.Proofs.YtadomogbakcokaaGreatDoor
open Go.RowKit Go.PlainAid Go.Shelf
attribute [local go_sem] Oper.semAt_some
set_option linter.unusedVariables false
set_option linter.unusedSimpArgs false
set_option maxHeartbeats 4000000

def strV (s : List UInt8) : Value := .string ⟨s.toArray⟩
def litB (x : Cu) (r : Nat) : List (List UInt8) := (if inB x.1 r then [Lib.decDigits r] else []) ++ (if inB x.2 r then [33 :: Lib.decDigits r] else [])
def litsC (x : Cu) : List (List UInt8) := (orL x.1 x.2).flatMap (litB x)
def textC (x : Cu) : List UInt8 := if litsC x = [] then [102, 117, 108, 108] else Lib.join (litsC x) [32]
theorem infoStr : (Tryz.prog.info? 9).map (fun i => (i.zero, i.size, i.bytes)) = some (some (.string ByteArray.empty), 1, 16) := by kernel_rfl
theorem litB_len (x : Cu) (r : Nat) : (litB x r).length ≤ 2 := by
  unfold litB; rw [List.length_append]; split <;> split <;> simp
theorem lits_len (x : Cu) : ∀ l : List Nat, (l.flatMap (litB x)).length ≤ 2 * l.length
  | [] => Nat.le_refl _
  | r :: l => by
    have := lits_len x l
    have := litB_len x r
    rw [List.flatMap_cons, List.length_append, List.length_cons]; omega

def TJ (N A T3 : Nat) (a : Option Addr) (n c : Nat) (b : Option Addr) (m d : Nat) (x : Cu) (v : Value) (out : List (List UInt8)) (W : World) : Prop :=
  W.heap[A]? = some (.cells #[.slice a n c, .slice b m d] 34 (0, 0)) ∧ Boxed W T3 100 v ∧ Cb W ⟨a, n, c, b, m, d⟩ x ∧ W.ownsRow N 9 1 v out.length (out.map strV) ∧ A < T3 ∧ T3 < N ∧ N ≤ W.heap.size
theorem row_nt {W : World} {N k : Nat} {v : Value} {xs : List Value} (h : W.ownsRow N 9 1 v k xs) : ∀ r, v.ownBlock = some r → ¬ ∃ cs fz, W.heap[r]? = some (.cells cs 23 fz) := by
  rintro r e ⟨cs, fz, hk⟩
  rcases h.2 with ⟨rfl, _⟩ | ⟨g, cap, cur, rfl, _, hh, _⟩
  · cases e
  · simp only [Value.ownBlock, Option.some.injEq] at e
    subst e; rw [hh] at hk; simp at hk
theorem row_slice {W : World} {N k : Nat} {v : Value} {xs : List Value} (h : W.ownsRow N 9 1 v k xs) : ∃ z l, v = .slice z k l := by
  rcases h.2 with ⟨rfl, rfl, _⟩ | ⟨g, cap, cur, rfl, _⟩
  · exact ⟨_, _, rfl⟩
  · exact ⟨_, _, rfl⟩
section
variable {N A T3 : Nat} {a : Option Addr} {n c : Nat} {b : Option Addr} {m d : Nat} {v : Value} {x : Cu} {out : List (List UInt8)} {W W' : World}
theorem TJ.below (h : TJ N A T3 a n c b m d x v out W) (hb : Below W.heap.size W W') : TJ N A T3 a n c b m d x v out W' := by
  obtain ⟨h1, h2, h3, h4, h5, h6, h7⟩ := h
  exact ⟨(hb.block A (by omega)).trans h1, (hb.block T3 (by omega)).trans h2, h3.below hb, owns_below h4 (Nat.le_refl _) hb, h5, h6, Nat.le_trans h7 hb.size⟩
theorem TJ.cells (h : TJ N A T3 a n c b m d x v out W) : (W.cell? ⟨A, 0, none⟩ = some (.slice a n c) ∧ W.cell? ⟨A, 1, none⟩ = some (.slice b m d)) ∧ W.cell? ⟨T3, 0, none⟩ = some v ∧ W.frozen? ⟨T3, 0, none⟩ = false := by
  obtain ⟨h1, h2, h3, h4, h5, h6, h7⟩ := h
  obtain ⟨a1, a2, a3⟩ := cell_of2 h1
  exact ⟨⟨a1, a2⟩, h2.cell, h2.frozen⟩
theorem TJ.kept {row : Option Nat} (h : TJ N A T3 a n c b m d x v out W) (hg : W.grownBy W' row) (hr : ∀ r, row = some r → ∃ o : Obj, W.heap[r]? = some o ∧ o.isCells = false) : TJ N A T3 a n c b m d x v out W' := by
  obtain ⟨h1, h2, h3, h4, h5, h6, h7⟩ := h
  have hne : ∀ (k : Nat) cs T fz, W.heap[k]? = some (.cells cs T fz) → some k ≠ row := fun k cs T fz hk e => by
    obtain ⟨o, ho, hc⟩ := hr k e.symm
    rw [hk] at ho; cases ho; cases hc
  have hnt : ∀ r, row = some r → ¬ ∃ cs fz, W.heap[r]? = some (.cells cs 23 fz) := by
    rintro r e ⟨cs, fz, hk⟩
    exact hne r _ _ _ hk e.symm
  refine ⟨(hg.block A (by omega) (hne _ _ _ _ h1)).trans h1, (hg.block T3 (by omega) (hne _ _ _ _ h2)).trans h2, h3.grown hg hnt, World.ownsRow.kept h4 hg ?_, h5, h6, Nat.le_trans h7 hg.size⟩
  cases hv : v.ownBlock with
  | none => exact .inl rfl
  | some g =>
    refine .inr fun e => ?_
    rcases h4.2 with ⟨rfl, _⟩ | ⟨g', cap', cur, rfl, _, hh, _⟩
    · cases hv
    · simp only [Value.ownBlock, Option.some.injEq] at hv
      subst hv
      exact hne _ _ _ _ hh e
theorem TJ.mid (h : TJ N A T3 a n c b m d x v out W) (hg : W.grownBy W' v.ownBlock) : W'.cell? ⟨T3, 0, none⟩ = some v ∧ W'.frozen? ⟨T3, 0, none⟩ = false := by
  obtain ⟨h1, h2, h3, h4, h5, h6, h7⟩ := h
  have hB : Boxed W' T3 _ v := (hg.block T3 (by omega) (fun e => by have := (h4.lt T3 e.symm).1; omega)).trans h2
  exact ⟨hB.cell, hB.frozen⟩
theorem TJ.append {v' : Value} {out' : List (List UInt8)} (h : TJ N A T3 a n c b m d x v out W) (hg : W.grownBy W' v.ownBlock) (h' : W'.ownsRow N 9 1 v' out'.length (out'.map strV)) :
    TJ N A T3 a n c b m d x v' out' (W'.setCell ⟨T3, 0, none⟩ v') := by
  have hm := h.mid hg
  obtain ⟨h1, h2, h3, h4, h5, h6, h7⟩ := h
  have hne : ∀ k, k < N → some k ≠ v.ownBlock := fun k hk e => by have := (h4.lt k e.symm).1; omega
  have hB : Boxed W' T3 _ v := (hg.block T3 (by omega) (hne T3 (by omega))).trans h2
  obtain ⟨z, l, rfl⟩ := row_slice h4
  have hs : ∀ x : Int, (Value.slice z out.length l) ≠ .int .u64 x := fun x e => by cases e
  have e4 := h3.grown hg (row_nt h4)
  refine ⟨(Below.heap_setCell _ _ _ A (by dsimp only; omega)).trans ((hg.block A (by omega) (hne A (by omega))).trans h1), hB.set v',
    ⟨e4.1.set hm.1 hs, e4.2.set hm.1 hs⟩, owns_set h' (fun b hb e => ?_) _, h5, h6, by have := hg.size; simp; omega⟩
  have := (h'.lt b hb).1
  dsimp only at e; omega
theorem TJ.step {w6 w9 : World} {o : Obj} (h : TJ N A T3 a n c b m d x v out W) (hb6 : Below W.drew.heap.size W.drew w6) (hg : (w6.alloc o).grownBy w9 v.ownBlock) (u : Value) :
    KeepsOthers W (w9.setCell ⟨T3, 0, none⟩ u) ∧ But N T3 T3 W (w9.setCell ⟨T3, 0, none⟩ u) := by
  have hd : Below W.heap.size W w6 := (Below.refl _ _).drew.trans hb6
  have hJ6 := (h.below hd).below ((Below.refl w6.heap.size w6).alloc (Nat.le_refl _) o)
  have hown := hJ6.2.2.2.1
  have hz := h.2.2.2.2.2.2
  constructor
  · exact (((kept_below hd).trans (KeepsOthers.alloc _ _)).trans (KeepsOthers.of_grownBy hg fun j o' ej hj => row_cells hown j o' ej hj)).trans (KeepsOthers.setCell _ _ _)
  · have g1 : Below N (w6.alloc o) w9 := (Below.refl N _).grown hg (by have := hd.size; simp; omega) (fun k hk => (hown.lt k hk).1)
    have g2 : Below N W w9 := ((hd.mono hz).alloc (by have := hd.size; omega) o).trans g1
    exact (But.of g2).trans (But.set _ _ (.inl rfl))
end
def TState (N A T3 : Nat) (w4 : World) (a : Option Addr) (n c : Nat) (b : Option Addr) (m d : Nat) (x : Cu) (out : List (List UInt8)) (W : World) : Prop :=
  ∃ v, TJ N A T3 a n c b m d x v out W ∧ But N T3 T3 w4 W
theorem TState.own {N A T3 : Nat} {w4 : World} {a : Option Addr} {n c : Nat} {b : Option Addr} {m d : Nat} {x : Cu} (f : List M4 → List (List UInt8)) :
    OwnFrom N (fun (pre : List M4) W => TState N A T3 w4 a n c b m d x (f pre) W) := by
  intro pre W W' row hs hg hr
  obtain ⟨v, h, hb⟩ := hs
  refine ⟨v, h.kept hg (fun r e => ⟨(hr r e).2.choose, (hr r e).2.choose_spec⟩), hb.trans ⟨hg.os, hg.tape, hg.output, hg.size, fun k hk h1 h2 => hg.block k (by have := h.2.2.2.2.2.2; omega) (fun e => by have := (hr k e.symm).1; omega)⟩⟩
end Go.Proofs.YtadomogbakcokaaGreatDoor
end

section
/- Contract: Text of a cube. -/
namespace Go.Proofs.YtadomogbakcokaaGreatDoor
open Go.RowKit Go.PlainAid Go.Shelf
attribute [local go_sem] Oper.semAt_some
set_option linter.unusedVariables false
set_option linter.unusedSimpArgs false
set_option maxHeartbeats 4000000

theorem inter_len : ∀ l : List (List UInt8), (∀ s ∈ l, s.length ≤ 5) → ((l.intersperse [32]).flatten).length ≤ 6 * l.length
  | [], _ => by simp
  | [x], h => by
    have := h x (by simp)
    simp; omega
  | x :: y :: l, h => by
    have h1 := h x (by simp)
    have ih := inter_len (y :: l) (fun s hs => h s (by simp [hs]))
    simp only [List.intersperse, List.flatten_cons, List.length_append, List.length_cons, List.length_nil] at ih ⊢
    omega
theorem lits_small {x : Cu} (hx : CuOk x) : ∀ s ∈ litsC x, s.length ≤ 5 := by
  intro s hs
  obtain ⟨r, hr, hs⟩ := List.mem_flatMap.1 hs
  have h4 := (dec_small r (asc_or _ _ |>.2 r hr)).2
  unfold litB at hs
  rcases List.mem_append.1 hs with hs | hs
  · split at hs
    · cases List.mem_singleton.1 hs; omega
    · cases hs
  · split at hs
    · cases List.mem_singleton.1 hs; rw [List.length_cons]; omega
    · cases hs

/-- strings.Join of a row of strings, with a blank between. -/
theorem join_shelf (g c : Nat) (l : List (List UInt8)) (w : World) (hcells : Hid (∀ (i : Nat) x, (l.map fun x => (⟨x.toArray⟩ : ByteArray))[i]? = some x → w.cell? ⟨g, 0 + i, none⟩ = some (.string x))) (hg : g < w.heap.size) (hN : l.length ≤ 140737488355328) (hcap : l.length ≤ c) (hlen : (Lib.join l [32]).length ≤ 140737488355328) :
    Calls Tryz.prog 75 #[.slice (some ⟨g, 0, none⟩) l.length c, .string ⟨#[32]⟩] w fun e w' => e = .returned (.string ⟨(Lib.join l [32]).toArray⟩) ∧ Below w.heap.size w w' := by
  have h := Tryz.strings_Join g 0 c (l.map fun x => (⟨x.toArray⟩ : ByteArray)) ⟨#[32]⟩ w hcells.out hg (by simpa using hN) (by simpa using hcap)
  have hm : (l.map fun x => (⟨x.toArray⟩ : ByteArray)).map (·.data.toList) = l := by rw [List.map_map]; exact List.map_id' _
  rw [hm, List.length_map] at h
  exact h hlen
def TextP (w : World) (x : Cu) (e : Ending) (w' : World) : Prop := e = .returned (.string ⟨(textC x).toArray⟩) ∧ Below w.heap.size w w'
set_option maxRecDepth 100000 in
theorem textC_any (a b : Option Addr) (n c m d : Nat) (x0 : Cu) (w : World) (h : Cb w ⟨a, n, c, b, m, d⟩ x0) (hT : Tz w) (hP : Pow10 w) :
    Calls Tryz.prog 32 #[.agg #[.slice a n c, .slice b m d]] w (TextP w x0) := by
  obtain ⟨i0, hi, hz0, hz1, hz2⟩ := info_parts infoStr
  have HO := Lib.hid (fun w' (hb : Below w.heap.size w w') => or_any a b n m c d x0.1 x0.2 w' (h.1.below hb) (h.2.below hb))
  have HC := Lib.hid h
  have HT := Lib.hid hT
  have HP := Lib.hid hP
  have HX : Hid (CuOk x0) := h.ok
  have hb0 := Lib.hid (((Below.refl w.heap.size w).alloc (Nat.le_refl _) (.cells #[.slice a n c, .slice b m d] 34)).alloc (by simp) (.cells #[.slice none 0 0] 100))
  have HL4 : Hid ((orL x0.1 x0.2).length ≤ 4096) := asc_length (asc_or _ _)
  have HLC : Hid (litsC x0 = (orL x0.1 x0.2).flatMap (litB x0)) := rfl
  obtain ⟨L, hL⟩ : ∃ L, L = orL x0.1 x0.2 := ⟨_, rfl⟩
  rw [← hL] at HL4 HO HLC
  clear hL h hT hP
  refine (callsIn_wide (n := 3)).1 ?_
  refine callsIn_of_wp_marks Tryz.func32 rfl trivial ?_ rfl
  simp only [Tryz.ntmps32, List.size_toArray, List.length_cons, List.length_nil, Nat.reduceAdd, Nat.reduceSub, Array.replicate_succ, Array.replicate_zero, List.push_toArray, List.append_toArray, List.nil_append, List.cons_append]
  gi_wp2_with (first
    | (refine ⟨trivial, ?_⟩; gi_at_call 71; refine (callsIn_wide.2 (HO.out _ hb0.out)).mono ?_; rintro e w3 ⟨a3, n3, k3, rfl, hs3, hb3⟩)
    | (refine ⟨trivial, ?_⟩; gi_at_call 72; refine (all_in 2 _ _ _ _).mono ?_; rintro e w4 ⟨rfl, rfl⟩))
  have hz3 := hb3.size
  simp only [World.size_alloc] at hz3
  have hB3 : Below w.heap.size w w3 := bel2 hb3
  have h5 := heap_alloc_new (w.alloc (.cells #[.slice a n c, .slice b m d] 34)) (.cells #[.slice none 0 0] 100)
  rw [World.size_alloc] at h5
  have k7 : w3.heap[w.heap.size + 1]? = some (.cells #[.slice none 0 0] 100 (0, 0)) := (hb3.block (w.heap.size + 1) (by simp)).trans h5
  have kA3 : w3.heap[w.heap.size]? = some (.cells #[.slice a n c, .slice b m d] 34 (0, 0)) := (hb3.block w.heap.size (by simp; omega)).trans ((Below.heap_alloc _ _ w.heap.size (by simp)).trans (heap_alloc_new w _))
  have hal : Below w3.heap.size w3 (w3.alloc (.cells #[.slice a3 n3 k3] 32)) := (Below.refl _ _).alloc (Nat.le_refl _) _
  have hW4 : Below w.heap.size w (w3.alloc (.cells #[.slice a3 n3 k3] 32)) := hB3.trans (hal.mono hB3.size)
  have hJ0 : TJ (w3.heap.size + 1) w.heap.size (w.heap.size + 1) a n c b m d x0 (.slice none 0 0) [] (w3.alloc (.cells #[.slice a3 n3 k3] 32)) :=
    ⟨(hal.block _ (by omega)).trans kA3, (hal.block _ (by omega)).trans k7, (HC.out.below hB3).below hal, World.ownsRow_nil _ _ _ _, by omega, by omega, by simp⟩
  have hT4 : Tzn (w3.heap.size + 1) (w3.alloc (.cells #[.slice a3 n3 k3] 32)) := by
    have := Tz.to (HT.out.below (hB3.alloc hB3.size (.cells #[.slice a3 n3 k3] 32)))
    rwa [World.size_alloc] at this
  have hgA : 1 < w.heap.size := HT.out.1
  have ap2 := Lib.hid (hs3.apart k7 (by decide))
  have bN := new1 w3 (.slice a3 n3 k3) 32
  have hs4 := hs3.below hal
  refine wpIn_rangeFunc_ownG (F := Fence.wide) rfl (show 1 ≤ 3 by omega) (gf := 100) (lb := #[.pointer (some ⟨w3.heap.size, 0, none⟩)]) rfl trivial (enters_of Tryz.func100 (by kernel_rfl) rfl)
    (all_stopsK (3 - 1) (by omega) w3.heap.size (w3.heap.size + 1) a3 n3 k3 L _ (by simp) (by simp) hT4 bN.1 hs4 (But (w3.heap.size + 1) (w.heap.size + 1) (w.heap.size + 1)) (But.refl _ _ _) But.trans (fun h => h.tzn (by omega) (by omega)) (fun p hp A B h j => (h.cell (by have := (ap2.out p hp).2; omega) (ap2.out p hp).1 (ap2.out p hp).1).symm))
    But.trans (fun W l o o' hl _ _ _ => But.putObj l o o' (by simpa using hl)) (Below.refl _ _) (fun _ => rfl)
    (fun pre W => TState (w3.heap.size + 1) w.heap.size (w.heap.size + 1) (w3.alloc (.cells #[.slice a3 n3 k3] 32)) a n c b m d x0 ((vals pre).flatMap (litB x0)) W)
    (fun _ _ _ => False)
    (by rw [World.size_alloc]; exact TState.own _)
    (fun _ _ _ _ _ hs _ _ => hs)
    ⟨_, hJ0, But.refl _ _ _ _⟩
    (fun x => { tmps := #[.agg #[.slice a n c, .slice b m d], .pointer (some ⟨w.heap.size, 0, none⟩), .string { data := #[] }, .pointer (some ⟨w.heap.size + 1, 0, none⟩), .int .i64 ((x.1 : Nat) : Int), .pointer (some ⟨w.heap.size, 0, none⟩), .agg #[.slice a n c], .pointer (some ⟨w.heap.size, 1, none⟩), .agg #[.slice b m d], .agg #[.slice a3 n3 k3], .func (.func 100) #[] #[.pointer (some ⟨w3.heap.size, 0, none⟩)], .int .i64 ((x.1 : Nat) : Int), undef, undef, undef, undef, undef, undef, undef, undef, undef, undef, undef, undef, undef, undef, undef, undef, undef, undef, undef, undef, undef, undef, undef, undef], defers := [] }) ?assign ?body ?done ?stop
  case assign =>
    intro lk x W K hK
    gi_wp2
    exact hK
  case body =>
    rintro lk pre x W ⟨v, hJ, hBut⟩ hlt
    have hob : ((vals pre).flatMap (litB x0)).length ≤ 9000 := by
      have h1 := lits_len x0 (vals pre)
      have h2 : (vals pre).length = pre.length := by rw [vals, List.length_map]
      have h3 := HL4.out
      omega
    have HV0 : Hid ((vals (pre ++ [x])).flatMap (litB x0) = (vals pre).flatMap (litB x0) ++ ((if inB x0.1 x.1 then [Lib.decDigits x.1] else []) ++ (if inB x0.2 x.1 then [33 :: Lib.decDigits x.1] else []))) := by
      show _ = _
      rw [vals, List.map_append, List.flatMap_append]
      show _ ++ (litB x0 x.1 ++ []) = _
      rw [List.append_nil]; rfl
    generalize (vals pre).flatMap (litB x0) = out at hob HV0 hJ
    have hNW : w3.heap.size + 1 ≤ W.heap.size := hJ.2.2.2.2.2.2
    have hcur : Below W.heap.size W W := Below.refl _ _
    have HTab : Hid (∀ W', But (w3.heap.size + 1) (w.heap.size + 1) (w.heap.size + 1) (w3.alloc (.cells #[.slice a3 n3 k3] 32)) W' → Calls Tryz.prog 74 #[.int .i64 ((x.1 : Nat) : Int)] W' fun e w' => e = .returned (.string ⟨(Lib.decDigits x.1).toArray⟩) ∧ ∃ k os, w' = Go.Sort.grow (W'.drewN k) os) := fun W' hb => by
      have := Tryz.strconv_Itoa (x.1 : Int) (by omega) (by have := x.2; omega) W' (HP.out W' (hW4.trans (hb.below (by omega) (by omega) (by omega))))
      rw [itoa_nat] at this; exact this
    have HIT0 : Hid (strV (Lib.decDigits x.1) = .string ⟨(Lib.decDigits x.1).toArray⟩) := rfl
    have HIT1 : Hid (strV (33 :: Lib.decDigits x.1) = .string (ByteArray.mk #[33] ++ ⟨(Lib.decDigits x.1).toArray⟩)) := by
      show Value.string _ = Value.string _
      congr 1
    obtain ⟨it, hit⟩ : ∃ it : ByteArray, it = ⟨(Lib.decDigits x.1).toArray⟩ := ⟨_, rfl⟩
    rw [← hit] at HTab HIT0 HIT1
    have hit4 : it.size ≤ 4 := by rw [hit]; show (Lib.decDigits x.1).toArray.size ≤ 4; rw [List.size_toArray]; exact (dec_small x.1 x.2).2
    have hit5 : ¬ 9223372036854775807 < 1 + it.size := by omega
    clear hit
    have HIT : Hid (∀ (o : List (List UInt8)) {W : World} {v : Value}, W.ownsRow (w3.heap.size + 1) 9 1 v (o.length + 1) (o.map strV ++ [.string it]) → W.ownsRow (w3.heap.size + 1) 9 1 v (o ++ [Lib.decDigits x.1]).length ((o ++ [Lib.decDigits x.1]).map strV)) := fun o W v h => by
      rw [List.length_append, List.map_append]
      show W.ownsRow _ _ _ _ _ (_ ++ [strV (Lib.decDigits x.1)])
      rw [HIT0.out]; exact h
    have HIT2 : Hid (∀ (o : List (List UInt8)) {W : World} {v : Value}, W.ownsRow (w3.heap.size + 1) 9 1 v (o.length + 1) (o.map strV ++ [.string (ByteArray.mk #[33] ++ it)]) → W.ownsRow (w3.heap.size + 1) 9 1 v (o ++ [33 :: Lib.decDigits x.1]).length ((o ++ [33 :: Lib.decDigits x.1]).map strV)) := fun o W v h => by
      rw [List.length_append, List.map_append]
      show W.ownsRow _ _ _ _ _ (_ ++ [strV (33 :: Lib.decDigits x.1)])
      rw [HIT1.out]; exact h
    have H1 := Lib.hid (fun w' v out (hb : TJ (w3.heap.size + 1) w.heap.size (w.heap.size + 1) a n c b m d x0 v out w') => has_n a n c x0.1 x.1 w' hb.2.2.1.1)
    have H2 := Lib.hid (fun w' v out (hb : TJ (w3.heap.size + 1) w.heap.size (w.heap.size + 1) a n c b m d x0 v out w') => has_n b m d x0.2 x.1 w' hb.2.2.1.2)
    have hJc := hJ
    obtain ⟨⟨z0, z1⟩, z2, z3⟩ := hJ.cells
    clear hlt HIT0 HIT1
    cases h1 : inB x0.1 x.1
    · rw [h1] at H1
      cases h2 : inB x0.2 x.1
      · rw [h2] at H2
        have HV : Hid ((vals (pre ++ [x])).flatMap (litB x0) = out) := HV0.out.trans (by rw [h1, h2]; exact List.append_nil _)
        clear HV0 h1 h2
        gi_wp2_with (first
          | ((first | refine ⟨trivial, ?_⟩ | skip); gi_at_call 73; (with_reducible refine (CallsIn.inRound lk (callsIn_wide.2 (H1.out _ _ _ hJc))).mono ?_); rintro e wz ⟨rfl, hbz⟩; have hJc := hJc.below hbz; have hcur := hcur.trans (hbz.mono hcur.size); have zz := hJc.cells; obtain ⟨⟨z0, z1⟩, z2, z3⟩ := zz; clear hbz)
          | ((first | refine ⟨trivial, ?_⟩ | skip); gi_at_call 73; (with_reducible refine (CallsIn.inRound lk (callsIn_wide.2 (H2.out _ _ _ hJc))).mono ?_); rintro e wz ⟨rfl, hbz⟩; have hJc := hJc.below hbz; have hcur := hcur.trans (hbz.mono hcur.size); have zz := hJc.cells; obtain ⟨⟨z0, z1⟩, z2, z3⟩ := zz; clear hbz)
          | (refine ⟨trivial, ?_⟩))
        exact ⟨(kept_below hcur).from _, But.of (hcur.mono hNW), _, by rw [HV.out]; exact hJc, hBut.trans (But.of (hcur.mono hNW))⟩
      · rw [h2] at H2
        have HV : Hid ((vals (pre ++ [x])).flatMap (litB x0) = out ++ [33 :: Lib.decDigits x.1]) := HV0.out.trans (by rw [h1, h2]; rfl)
        clear HV0 h1 h2
        gi_wp2_with (first
          | ((first | refine ⟨trivial, ?_⟩ | skip); gi_at_call 73; (with_reducible refine (CallsIn.inRound lk (callsIn_wide.2 (H1.out _ _ _ hJc))).mono ?_); rintro e wz ⟨rfl, hbz⟩; have hJc := hJc.below hbz; have hcur := hcur.trans (hbz.mono hcur.size); have zz := hJc.cells; obtain ⟨⟨z0, z1⟩, z2, z3⟩ := zz; clear hbz)
          | ((first | refine ⟨trivial, ?_⟩ | skip); gi_at_call 73; (with_reducible refine (CallsIn.inRound lk (callsIn_wide.2 (H2.out _ _ _ hJc))).mono ?_); rintro e wz ⟨rfl, hbz⟩; have hJc := hJc.below hbz; have hcur := hcur.trans (hbz.mono hcur.size); have zz := hJc.cells; obtain ⟨⟨z0, z1⟩, z2, z3⟩ := zz; clear hbz)
          | (refine ⟨trivial, ?_⟩))
        obtain ⟨wc, hwc⟩ : ∃ wc, wc = wz := ⟨_, rfl⟩
        rw [← hwc] at hcur hJc ⊢
        clear hwc z0 z1 z2 z3
        have hBc := hBut.trans (But.of (p := w.heap.size + 1) (q := w.heap.size + 1) (hcur.mono hNW))
        have hKc : KeepsOthers W wc ∧ But (w3.heap.size + 1) (w.heap.size + 1) (w.heap.size + 1) W wc := ⟨kept_below hcur, But.of (hcur.mono hNW)⟩
        refine wpIn_region_round (S := fun w' => True) (by kernel_rfl) (by kernel_rfl) ?_ (trivial) (fun hS0 => ?_)
        · exact fun _ _ h => h
        have hJd := hJc.below (Below.refl wc.heap.size wc).drew
        have hBd := hBc.trans (But.of ((Below.refl wc.heap.size wc).drew.mono hJc.2.2.2.2.2.2))
        have z4d := hJd.cells.2.1
        refine' wpAnyH_take (i := 1) (v := _) rfl (by kernel_rfl) (by kernel_rfl) (by kernel_rfl) (fun _ _ _ h => h) (Or.inl ⟨by rfl, fun w' hSw => ?_⟩) hS0 ?_; rotate_left; (focus ((try dsimp only at hSw); go_simp <;> (with_reducible rfl))); (try simp only [List.getElem_toArray, List.getElem_cons_succ, List.getElem_cons_zero, Act.put, List.setIfInBounds_toArray, List.set_cons_zero, List.set_cons_succ])
        refine wpAnyH_ready (rs := [0, 2]) (by kernel_rfl) (by simp) ?_
        refine AllReadyH.cons rfl (fun K hK => ?_) (AllReadyH.cons rfl (fun K hK => ?_) (AllReadyH.nil))
        · go_simp; (try go_wp2_with fail); refine hK.out _ _ (trivial) (fun hSb => ?_); clear hK K; (try simp only [List.getElem_toArray, List.getElem_cons_succ, List.getElem_cons_zero, Act.put, List.setIfInBounds_toArray, List.set_cons_zero, List.set_cons_succ])
          refine wpAnyH_ready (rs := [2]) (by kernel_rfl) (by simp) ?_
          refine AllReadyH.cons rfl (fun K hK => ?_) AllReadyH.nil
          go_simp; go_at_call 74; (with_reducible refine (HTab.out _ hBd).mono ?_); rintro e w6 ⟨rfl, k6, os6, hw6⟩; have hb6 := grow_below hw6; clear hw6; have hJ6 := hJd.below hb6; have z4 := hJ6.cells.2.1; (try go_wp2_with fail); refine hK.out _ _ (trivial) (fun hS11 => ?_); clear hK K; (try simp only [List.getElem_toArray, List.getElem_cons_succ, List.getElem_cons_zero, Act.put, List.setIfInBounds_toArray, List.set_cons_zero, List.set_cons_succ])
          refine' wpAnyH_take (i := 3) (v := _) rfl (by kernel_rfl) (by kernel_rfl) (by kernel_rfl) (fun _ _ _ h => h) (Or.inl ⟨by rfl, fun w' hSw => ?_⟩) hS11 ?_; rotate_left; (focus ((try dsimp only at hSw); go_simp <;> (with_reducible rfl))); (try simp only [List.getElem_toArray, List.getElem_cons_succ, List.getElem_cons_zero, Act.put, List.setIfInBounds_toArray, List.set_cons_zero, List.set_cons_succ])
          refine wpAnyH_ready (rs := [4]) (by kernel_rfl) (by simp) ?_
          refine AllReadyH.cons rfl (fun K hK => ?_) AllReadyH.nil
          go_simp; have hJ7 := hJ6.below ((Below.refl w6.heap.size w6).alloc (Nat.le_refl _) (.cells #[.string (ByteArray.mk #[33] ++ it)] 9)); have z4' := hJ7.cells.2.1; (try go_wp2_with fail); refine hK.out _ _ (trivial) (fun hS12 => ?_); clear hK K; (try simp only [List.getElem_toArray, List.getElem_cons_succ, List.getElem_cons_zero, Act.put, List.setIfInBounds_toArray, List.set_cons_zero, List.set_cons_succ])
          refine wpAnyH_ready (rs := [5]) (by kernel_rfl) (by simp) ?_
          refine AllReadyH.cons rfl (fun K hK => ?_) AllReadyH.nil
          rw [if_pos (by rfl)]
          refine wp_append_own _ (.tmp 25) (.tmp 29) 100 rfl (w3.heap.size + 1) 9 i0 (.string ByteArray.empty) 1 16 Tryz.underlying100 hi hz0 hz1 hz2 rfl (by decide) v out.length (out.map strV) rfl hJ7.2.2.2.1 ⟨w6.heap.size, 0, none⟩ 1 1 [.string (ByteArray.mk #[33] ++ it)] rfl rfl (cell_one_new _ _ _) (by simp [Value.oneCell']) (by unfold maxLen; omega) (by omega) hJ7.2.2.2.2.2.2 ?_
          rintro vcn w9 hown9 hg9 -
          obtain ⟨m1, m2⟩ := hJ7.mid hg9
          have hJcn := hJ7.append hg9 (HIT2.out out hown9)
          have hScn := hJc.step hb6 hg9 vcn
          obtain ⟨z, l, rfl⟩ := row_slice hown9
          refine hK.out _ _ trivial (fun hSn => ?_); clear hK K; (try simp only [Act.put, List.setIfInBounds_toArray, List.set_cons_zero, List.set_cons_succ])
          refine wpAnyH_ready (rs := [6]) (by kernel_rfl) (by simp) ?_
          refine AllReadyH.cons rfl (fun K hK => ?_) AllReadyH.nil
          go_simp; (try go_wp2_with fail); refine hK.out _ _ (trivial) (fun hS13 => ?_); clear hK K; (try simp only [List.getElem_toArray, List.getElem_cons_succ, List.getElem_cons_zero, Act.put, List.setIfInBounds_toArray, List.set_cons_zero, List.set_cons_succ])
          refine wpAnyH_done (by kernel_rfl) (NoPanic.normal ?_) _
          exact ⟨(hKc.1.trans hScn.1).from _, hKc.2.trans hScn.2, _, by rw [HV.out]; exact hJcn, hBc.trans hScn.2⟩
        · go_simp; go_at_call 74; (with_reducible refine (HTab.out _ hBd).mono ?_); rintro e w6 ⟨rfl, k6, os6, hw6⟩; have hb6 := grow_below hw6; clear hw6; have hJ6 := hJd.below hb6; have z4 := hJ6.cells.2.1; (try go_wp2_with fail); refine hK.out _ _ (trivial) (fun hSb => ?_); clear hK K; (try simp only [List.getElem_toArray, List.getElem_cons_succ, List.getElem_cons_zero, Act.put, List.setIfInBounds_toArray, List.set_cons_zero, List.set_cons_succ])
          refine' wpAnyH_take (i := 3) (v := _) rfl (by kernel_rfl) (by kernel_rfl) (by kernel_rfl) (fun _ _ _ h => h) (Or.inl ⟨by rfl, fun w' hSw => ?_⟩) hSb ?_; rotate_left; (focus ((try dsimp only at hSw); go_simp <;> (with_reducible rfl))); (try simp only [List.getElem_toArray, List.getElem_cons_succ, List.getElem_cons_zero, Act.put, List.setIfInBounds_toArray, List.set_cons_zero, List.set_cons_succ])
          refine wpAnyH_ready (rs := [0, 4]) (by kernel_rfl) (by simp) ?_
          refine AllReadyH.cons rfl (fun K hK => ?_) (AllReadyH.cons rfl (fun K hK => ?_) (AllReadyH.nil))
          · go_simp; (try go_wp2_with fail); refine hK.out _ _ (trivial) (fun hSb => ?_); clear hK K; (try simp only [List.getElem_toArray, List.getElem_cons_succ, List.getElem_cons_zero, Act.put, List.setIfInBounds_toArray, List.set_cons_zero, List.set_cons_succ])
            refine wpAnyH_ready (rs := [4]) (by kernel_rfl) (by simp) ?_
            refine AllReadyH.cons rfl (fun K hK => ?_) AllReadyH.nil
            go_simp; have hJ7 := hJ6.below ((Below.refl w6.heap.size w6).alloc (Nat.le_refl _) (.cells #[.string (ByteArray.mk #[33] ++ it)] 9)); have z4' := hJ7.cells.2.1; (try go_wp2_with fail); refine hK.out _ _ (trivial) (fun hS21 => ?_); clear hK K; (try simp only [List.getElem_toArray, List.getElem_cons_succ, List.getElem_cons_zero, Act.put, List.setIfInBounds_toArray, List.set_cons_zero, List.set_cons_succ])
            refine wpAnyH_ready (rs := [5]) (by kernel_rfl) (by simp) ?_
            refine AllReadyH.cons rfl (fun K hK => ?_) AllReadyH.nil
            rw [if_pos (by rfl)]
            refine wp_append_own _ (.tmp 25) (.tmp 29) 100 rfl (w3.heap.size + 1) 9 i0 (.string ByteArray.empty) 1 16 Tryz.underlying100 hi hz0 hz1 hz2 rfl (by decide) v out.length (out.map strV) rfl hJ7.2.2.2.1 ⟨w6.heap.size, 0, none⟩ 1 1 [.string (ByteArray.mk #[33] ++ it)] rfl rfl (cell_one_new _ _ _) (by simp [Value.oneCell']) (by unfold maxLen; omega) (by omega) hJ7.2.2.2.2.2.2 ?_
            rintro vcn w9 hown9 hg9 -
            obtain ⟨m1, m2⟩ := hJ7.mid hg9
            have hJcn := hJ7.append hg9 (HIT2.out out hown9)
            have hScn := hJc.step hb6 hg9 vcn
            obtain ⟨z, l, rfl⟩ := row_slice hown9
            refine hK.out _ _ trivial (fun hSn => ?_); clear hK K; (try simp only [Act.put, List.setIfInBounds_toArray, List.set_cons_zero, List.set_cons_succ])
            refine wpAnyH_ready (rs := [6]) (by kernel_rfl) (by simp) ?_
            refine AllReadyH.cons rfl (fun K hK => ?_) AllReadyH.nil
            go_simp; (try go_wp2_with fail); refine hK.out _ _ (trivial) (fun hS22 => ?_); clear hK K; (try simp only [List.getElem_toArray, List.getElem_cons_succ, List.getElem_cons_zero, Act.put, List.setIfInBounds_toArray, List.set_cons_zero, List.set_cons_succ])
            refine wpAnyH_done (by kernel_rfl) (NoPanic.normal ?_) _
            exact ⟨(hKc.1.trans hScn.1).from _, hKc.2.trans hScn.2, _, by rw [HV.out]; exact hJcn, hBc.trans hScn.2⟩
          · go_simp; have hJ7 := hJ6.below ((Below.refl w6.heap.size w6).alloc (Nat.le_refl _) (.cells #[.string (ByteArray.mk #[33] ++ it)] 9)); have z4' := hJ7.cells.2.1; (try go_wp2_with fail); refine hK.out _ _ (trivial) (fun hSb => ?_); clear hK K; (try simp only [List.getElem_toArray, List.getElem_cons_succ, List.getElem_cons_zero, Act.put, List.setIfInBounds_toArray, List.set_cons_zero, List.set_cons_succ])
            refine wpAnyH_ready (rs := [0]) (by kernel_rfl) (by simp) ?_
            refine AllReadyH.cons rfl (fun K hK => ?_) AllReadyH.nil
            go_simp; (try go_wp2_with fail); refine hK.out _ _ (trivial) (fun hS21 => ?_); clear hK K; (try simp only [List.getElem_toArray, List.getElem_cons_succ, List.getElem_cons_zero, Act.put, List.setIfInBounds_toArray, List.set_cons_zero, List.set_cons_succ])
            refine wpAnyH_ready (rs := [5]) (by kernel_rfl) (by simp) ?_
            refine AllReadyH.cons rfl (fun K hK => ?_) AllReadyH.nil
            rw [if_pos (by rfl)]
            refine wp_append_own _ (.tmp 25) (.tmp 29) 100 rfl (w3.heap.size + 1) 9 i0 (.string ByteArray.empty) 1 16 Tryz.underlying100 hi hz0 hz1 hz2 rfl (by decide) v out.length (out.map strV) rfl hJ7.2.2.2.1 ⟨w6.heap.size, 0, none⟩ 1 1 [.string (ByteArray.mk #[33] ++ it)] rfl rfl (cell_one_new _ _ _) (by simp [Value.oneCell']) (by unfold maxLen; omega) (by omega) hJ7.2.2.2.2.2.2 ?_
            rintro vcn w9 hown9 hg9 -
            obtain ⟨m1, m2⟩ := hJ7.mid hg9
            have hJcn := hJ7.append hg9 (HIT2.out out hown9)
            have hScn := hJc.step hb6 hg9 vcn
            obtain ⟨z, l, rfl⟩ := row_slice hown9
            refine hK.out _ _ trivial (fun hSn => ?_); clear hK K; (try simp only [Act.put, List.setIfInBounds_toArray, List.set_cons_zero, List.set_cons_succ])
            refine wpAnyH_ready (rs := [6]) (by kernel_rfl) (by simp) ?_
            refine AllReadyH.cons rfl (fun K hK => ?_) AllReadyH.nil
            go_simp; (try go_wp2_with fail); refine hK.out _ _ (trivial) (fun hS22 => ?_); clear hK K; (try simp only [List.getElem_toArray, List.getElem_cons_succ, List.getElem_cons_zero, Act.put, List.setIfInBounds_toArray, List.set_cons_zero, List.set_cons_succ])
            refine wpAnyH_done (by kernel_rfl) (NoPanic.normal ?_) _
            exact ⟨(hKc.1.trans hScn.1).from _, hKc.2.trans hScn.2, _, by rw [HV.out]; exact hJcn, hBc.trans hScn.2⟩
    · rw [h1] at H1
      cases h2 : inB x0.2 x.1
      · rw [h2] at H2
        have HV : Hid ((vals (pre ++ [x])).flatMap (litB x0) = out ++ [Lib.decDigits x.1]) := HV0.out.trans (by rw [h1, h2]; rfl)
        clear HV0 h1 h2
        gi_wp2_with (first
          | ((first | refine ⟨trivial, ?_⟩ | skip); gi_at_call 73; (with_reducible refine (CallsIn.inRound lk (callsIn_wide.2 (H1.out _ _ _ hJc))).mono ?_); rintro e wz ⟨rfl, hbz⟩; have hJc := hJc.below hbz; have hcur := hcur.trans (hbz.mono hcur.size); have zz := hJc.cells; obtain ⟨⟨z0, z1⟩, z2, z3⟩ := zz; clear hbz)
          | ((first | refine ⟨trivial, ?_⟩ | skip); gi_at_call 73; (with_reducible refine (CallsIn.inRound lk (callsIn_wide.2 (H2.out _ _ _ hJc))).mono ?_); rintro e wz ⟨rfl, hbz⟩; have hJc := hJc.below hbz; have hcur := hcur.trans (hbz.mono hcur.size); have zz := hJc.cells; obtain ⟨⟨z0, z1⟩, z2, z3⟩ := zz; clear hbz)
          | (refine ⟨trivial, ?_⟩))
        obtain ⟨wc, hwc⟩ : ∃ wc, wc = wz := ⟨_, rfl⟩
        rw [← hwc] at hcur hJc ⊢
        clear hwc z0 z1 z2 z3
        have hBc := hBut.trans (But.of (p := w.heap.size + 1) (q := w.heap.size + 1) (hcur.mono hNW))
        have hKc : KeepsOthers W wc ∧ But (w3.heap.size + 1) (w.heap.size + 1) (w.heap.size + 1) W wc := ⟨kept_below hcur, But.of (hcur.mono hNW)⟩
        refine wpIn_region_round (S := fun w' => True) (by kernel_rfl) (by kernel_rfl) ?_ (trivial) (fun hS0 => ?_)
        · exact fun _ _ h => h
        have hJd := hJc.below (Below.refl wc.heap.size wc).drew
        have hBd := hBc.trans (But.of ((Below.refl wc.heap.size wc).drew.mono hJc.2.2.2.2.2.2))
        have z4d := hJd.cells.2.1
        refine' wpAnyH_take (i := 1) (v := _) rfl (by kernel_rfl) (by kernel_rfl) (by kernel_rfl) (fun _ _ _ h => h) (Or.inl ⟨by rfl, fun w' hSw => ?_⟩) hS0 ?_; rotate_left; (focus ((try dsimp only at hSw); go_simp <;> (with_reducible rfl))); (try simp only [List.getElem_toArray, List.getElem_cons_succ, List.getElem_cons_zero, Act.put, List.setIfInBounds_toArray, List.set_cons_zero, List.set_cons_succ])
        refine wpAnyH_ready (rs := [0, 2]) (by kernel_rfl) (by simp) ?_
        refine AllReadyH.cons rfl (fun K hK => ?_) (AllReadyH.cons rfl (fun K hK => ?_) (AllReadyH.nil))
        · go_simp; (try go_wp2_with fail); refine hK.out _ _ (trivial) (fun hSb => ?_); clear hK K; (try simp only [List.getElem_toArray, List.getElem_cons_succ, List.getElem_cons_zero, Act.put, List.setIfInBounds_toArray, List.set_cons_zero, List.set_cons_succ])
          refine wpAnyH_ready (rs := [2]) (by kernel_rfl) (by simp) ?_
          refine AllReadyH.cons rfl (fun K hK => ?_) AllReadyH.nil
          go_simp; go_at_call 74; (with_reducible refine (HTab.out _ hBd).mono ?_); rintro e w6 ⟨rfl, k6, os6, hw6⟩; have hb6 := grow_below hw6; clear hw6; have hJ6 := hJd.below hb6; have z4 := hJ6.cells.2.1; (try go_wp2_with fail); refine hK.out _ _ (trivial) (fun hS11 => ?_); clear hK K; (try simp only [List.getElem_toArray, List.getElem_cons_succ, List.getElem_cons_zero, Act.put, List.setIfInBounds_toArray, List.set_cons_zero, List.set_cons_succ])
          refine wpAnyH_ready (rs := [3]) (by kernel_rfl) (by simp) ?_
          refine AllReadyH.cons rfl (fun K hK => ?_) AllReadyH.nil
          go_simp; have hJ7 := hJ6.below ((Below.refl w6.heap.size w6).alloc (Nat.le_refl _) (.cells #[.string it] 9)); have z4' := hJ7.cells.2.1; (try go_wp2_with fail); refine hK.out _ _ (trivial) (fun hS12 => ?_); clear hK K; (try simp only [List.getElem_toArray, List.getElem_cons_succ, List.getElem_cons_zero, Act.put, List.setIfInBounds_toArray, List.set_cons_zero, List.set_cons_succ])
          refine wpAnyH_ready (rs := [4]) (by kernel_rfl) (by simp) ?_
          refine AllReadyH.cons rfl (fun K hK => ?_) AllReadyH.nil
          rw [if_pos (by rfl)]
          refine wp_append_own _ (.tmp 16) (.tmp 19) 100 rfl (w3.heap.size + 1) 9 i0 (.string ByteArray.empty) 1 16 Tryz.underlying100 hi hz0 hz1 hz2 rfl (by decide) v out.length (out.map strV) rfl hJ7.2.2.2.1 ⟨w6.heap.size, 0, none⟩ 1 1 [.string it] rfl rfl (cell_one_new _ _ _) (by simp [Value.oneCell']) (by unfold maxLen; omega) (by omega) hJ7.2.2.2.2.2.2 ?_
          rintro vcn w9 hown9 hg9 -
          obtain ⟨m1, m2⟩ := hJ7.mid hg9
          have hJcn := hJ7.append hg9 (HIT.out out hown9)
          have hScn := hJc.step hb6 hg9 vcn
          obtain ⟨z, l, rfl⟩ := row_slice hown9
          refine hK.out _ _ trivial (fun hSn => ?_); clear hK K; (try simp only [Act.put, List.setIfInBounds_toArray, List.set_cons_zero, List.set_cons_succ])
          refine wpAnyH_ready (rs := [5]) (by kernel_rfl) (by simp) ?_
          refine AllReadyH.cons rfl (fun K hK => ?_) AllReadyH.nil
          go_simp; (try go_wp2_with fail); refine hK.out _ _ (trivial) (fun hS13 => ?_); clear hK K; (try simp only [List.getElem_toArray, List.getElem_cons_succ, List.getElem_cons_zero, Act.put, List.setIfInBounds_toArray, List.set_cons_zero, List.set_cons_succ])
          refine wpAnyH_done (by kernel_rfl) (NoPanic.normal ?_) _
          obtain ⟨⟨z0, z1⟩, z2, z3⟩ := hJcn.cells
          gi_wp2_with ((first | refine ⟨trivial, ?_⟩ | skip); gi_at_call 73; (with_reducible refine (CallsIn.inRound lk (callsIn_wide.2 (H2.out _ _ _ hJcn))).mono ?_); rintro e wz ⟨rfl, hbz⟩; have hJz := hJcn.below hbz; obtain ⟨⟨z0, z1⟩, z2, z3⟩ := hJz.cells)
          have hKy := kept_below hbz
          have hBy : But (w3.heap.size + 1) (w.heap.size + 1) (w.heap.size + 1) _ _ := But.of (hbz.mono hJcn.2.2.2.2.2.2)
          have hBe := (hBc.trans hScn.2).trans hBy
          have hKe := And.intro ((hKc.1.trans hScn.1).trans hKy) ((hKc.2.trans hScn.2).trans hBy)
          exact ⟨hKe.1.from _, hKe.2, _, by rw [HV.out]; exact hJz, hBe⟩
        · go_simp; go_at_call 74; (with_reducible refine (HTab.out _ hBd).mono ?_); rintro e w6 ⟨rfl, k6, os6, hw6⟩; have hb6 := grow_below hw6; clear hw6; have hJ6 := hJd.below hb6; have z4 := hJ6.cells.2.1; (try go_wp2_with fail); refine hK.out _ _ (trivial) (fun hSb => ?_); clear hK K; (try simp only [List.getElem_toArray, List.getElem_cons_succ, List.getElem_cons_zero, Act.put, List.setIfInBounds_toArray, List.set_cons_zero, List.set_cons_succ])
          refine wpAnyH_ready (rs := [0, 3]) (by kernel_rfl) (by simp) ?_
          refine AllReadyH.cons rfl (fun K hK => ?_) (AllReadyH.cons rfl (fun K hK => ?_) (AllReadyH.nil))
          · go_simp; (try go_wp2_with fail); refine hK.out _ _ (trivial) (fun hSb => ?_); clear hK K; (try simp only [List.getElem_toArray, List.getElem_cons_succ, List.getElem_cons_zero, Act.put, List.setIfInBounds_toArray, List.set_cons_zero, List.set_cons_succ])
            refine wpAnyH_ready (rs := [3]) (by kernel_rfl) (by simp) ?_
            refine AllReadyH.cons rfl (fun K hK => ?_) AllReadyH.nil
            go_simp; have hJ7 := hJ6.below ((Below.refl w6.heap.size w6).alloc (Nat.le_refl _) (.cells #[.string it] 9)); have z4' := hJ7.cells.2.1; (try go_wp2_with fail); refine hK.out _ _ (trivial) (fun hS21 => ?_); clear hK K; (try simp only [List.getElem_toArray, List.getElem_cons_succ, List.getElem_cons_zero, Act.put, List.setIfInBounds_toArray, List.set_cons_zero, List.set_cons_succ])
            refine wpAnyH_ready (rs := [4]) (by kernel_rfl) (by simp) ?_
            refine AllReadyH.cons rfl (fun K hK => ?_) AllReadyH.nil
            rw [if_pos (by rfl)]
            refine wp_append_own _ (.tmp 16) (.tmp 19) 100 rfl (w3.heap.size + 1) 9 i0 (.string ByteArray.empty) 1 16 Tryz.underlying100 hi hz0 hz1 hz2 rfl (by decide) v out.length (out.map strV) rfl hJ7.2.2.2.1 ⟨w6.heap.size, 0, none⟩ 1 1 [.string it] rfl rfl (cell_one_new _ _ _) (by simp [Value.oneCell']) (by unfold maxLen; omega) (by omega) hJ7.2.2.2.2.2.2 ?_
            rintro vcn w9 hown9 hg9 -
            obtain ⟨m1, m2⟩ := hJ7.mid hg9
            have hJcn := hJ7.append hg9 (HIT.out out hown9)
            have hScn := hJc.step hb6 hg9 vcn
            obtain ⟨z, l, rfl⟩ := row_slice hown9
            refine hK.out _ _ trivial (fun hSn => ?_); clear hK K; (try simp only [Act.put, List.setIfInBounds_toArray, List.set_cons_zero, List.set_cons_succ])
            refine wpAnyH_ready (rs := [5]) (by kernel_rfl) (by simp) ?_
            refine AllReadyH.cons rfl (fun K hK => ?_) AllReadyH.nil
            go_simp; (try go_wp2_with fail); refine hK.out _ _ (trivial) (fun hS22 => ?_); clear hK K; (try simp only [List.getElem_toArray, List.getElem_cons_succ, List.getElem_cons_zero, Act.put, List.setIfInBounds_toArray, List.set_cons_zero, List.set_cons_succ])
            refine wpAnyH_done (by kernel_rfl) (NoPanic.normal ?_) _
            obtain ⟨⟨z0, z1⟩, z2, z3⟩ := hJcn.cells
            gi_wp2_with ((first | refine ⟨trivial, ?_⟩ | skip); gi_at_call 73; (with_reducible refine (CallsIn.inRound lk (callsIn_wide.2 (H2.out _ _ _ hJcn))).mono ?_); rintro e wz ⟨rfl, hbz⟩; have hJz := hJcn.below hbz; obtain ⟨⟨z0, z1⟩, z2, z3⟩ := hJz.cells)
            have hKy := kept_below hbz
            have hBy : But (w3.heap.size + 1) (w.heap.size + 1) (w.heap.size + 1) _ _ := But.of (hbz.mono hJcn.2.2.2.2.2.2)
            have hBe := (hBc.trans hScn.2).trans hBy
            have hKe := And.intro ((hKc.1.trans hScn.1).trans hKy) ((hKc.2.trans hScn.2).trans hBy)
            exact ⟨hKe.1.from _, hKe.2, _, by rw [HV.out]; exact hJz, hBe⟩
          · go_simp; have hJ7 := hJ6.below ((Below.refl w6.heap.size w6).alloc (Nat.le_refl _) (.cells #[.string it] 9)); have z4' := hJ7.cells.2.1; (try go_wp2_with fail); refine hK.out _ _ (trivial) (fun hSb => ?_); clear hK K; (try simp only [List.getElem_toArray, List.getElem_cons_succ, List.getElem_cons_zero, Act.put, List.setIfInBounds_toArray, List.set_cons_zero, List.set_cons_succ])
            refine wpAnyH_ready (rs := [0]) (by kernel_rfl) (by simp) ?_
            refine AllReadyH.cons rfl (fun K hK => ?_) AllReadyH.nil
            go_simp; (try go_wp2_with fail); refine hK.out _ _ (trivial) (fun hS21 => ?_); clear hK K; (try simp only [List.getElem_toArray, List.getElem_cons_succ, List.getElem_cons_zero, Act.put, List.setIfInBounds_toArray, List.set_cons_zero, List.set_cons_succ])
            refine wpAnyH_ready (rs := [4]) (by kernel_rfl) (by simp) ?_
            refine AllReadyH.cons rfl (fun K hK => ?_) AllReadyH.nil
            rw [if_pos (by rfl)]
            refine wp_append_own _ (.tmp 16) (.tmp 19) 100 rfl (w3.heap.size + 1) 9 i0 (.string ByteArray.empty) 1 16 Tryz.underlying100 hi hz0 hz1 hz2 rfl (by decide) v out.length (out.map strV) rfl hJ7.2.2.2.1 ⟨w6.heap.size, 0, none⟩ 1 1 [.string it] rfl rfl (cell_one_new _ _ _) (by simp [Value.oneCell']) (by unfold maxLen; omega) (by omega) hJ7.2.2.2.2.2.2 ?_
            rintro vcn w9 hown9 hg9 -
            obtain ⟨m1, m2⟩ := hJ7.mid hg9
            have hJcn := hJ7.append hg9 (HIT.out out hown9)
            have hScn := hJc.step hb6 hg9 vcn
            obtain ⟨z, l, rfl⟩ := row_slice hown9
            refine hK.out _ _ trivial (fun hSn => ?_); clear hK K; (try simp only [Act.put, List.setIfInBounds_toArray, List.set_cons_zero, List.set_cons_succ])
            refine wpAnyH_ready (rs := [5]) (by kernel_rfl) (by simp) ?_
            refine AllReadyH.cons rfl (fun K hK => ?_) AllReadyH.nil
            go_simp; (try go_wp2_with fail); refine hK.out _ _ (trivial) (fun hS22 => ?_); clear hK K; (try simp only [List.getElem_toArray, List.getElem_cons_succ, List.getElem_cons_zero, Act.put, List.setIfInBounds_toArray, List.set_cons_zero, List.set_cons_succ])
            refine wpAnyH_done (by kernel_rfl) (NoPanic.normal ?_) _
            obtain ⟨⟨z0, z1⟩, z2, z3⟩ := hJcn.cells
            gi_wp2_with ((first | refine ⟨trivial, ?_⟩ | skip); gi_at_call 73; (with_reducible refine (CallsIn.inRound lk (callsIn_wide.2 (H2.out _ _ _ hJcn))).mono ?_); rintro e wz ⟨rfl, hbz⟩; have hJz := hJcn.below hbz; obtain ⟨⟨z0, z1⟩, z2, z3⟩ := hJz.cells)
            have hKy := kept_below hbz
            have hBy : But (w3.heap.size + 1) (w.heap.size + 1) (w.heap.size + 1) _ _ := But.of (hbz.mono hJcn.2.2.2.2.2.2)
            have hBe := (hBc.trans hScn.2).trans hBy
            have hKe := And.intro ((hKc.1.trans hScn.1).trans hKy) ((hKc.2.trans hScn.2).trans hBy)
            exact ⟨hKe.1.from _, hKe.2, _, by rw [HV.out]; exact hJz, hBe⟩
      · rw [h2] at H2
        have HV : Hid ((vals (pre ++ [x])).flatMap (litB x0) = out ++ [Lib.decDigits x.1] ++ [33 :: Lib.decDigits x.1]) := HV0.out.trans (by rw [h1, h2, List.append_assoc]; rfl)
        clear HV0 h1 h2
        gi_wp2_with (first
          | ((first | refine ⟨trivial, ?_⟩ | skip); gi_at_call 73; (with_reducible refine (CallsIn.inRound lk (callsIn_wide.2 (H1.out _ _ _ hJc))).mono ?_); rintro e wz ⟨rfl, hbz⟩; have hJc := hJc.below hbz; have hcur := hcur.trans (hbz.mono hcur.size); have zz := hJc.cells; obtain ⟨⟨z0, z1⟩, z2, z3⟩ := zz; clear hbz)
          | ((first | refine ⟨trivial, ?_⟩ | skip); gi_at_call 73; (with_reducible refine (CallsIn.inRound lk (callsIn_wide.2 (H2.out _ _ _ hJc))).mono ?_); rintro e wz ⟨rfl, hbz⟩; have hJc := hJc.below hbz; have hcur := hcur.trans (hbz.mono hcur.size); have zz := hJc.cells; obtain ⟨⟨z0, z1⟩, z2, z3⟩ := zz; clear hbz)
          | (refine ⟨trivial, ?_⟩))
        obtain ⟨wc, hwc⟩ : ∃ wc, wc = wz := ⟨_, rfl⟩
        rw [← hwc] at hcur hJc ⊢
        clear hwc z0 z1 z2 z3
        have hBc := hBut.trans (But.of (p := w.heap.size + 1) (q := w.heap.size + 1) (hcur.mono hNW))
        have hKc : KeepsOthers W wc ∧ But (w3.heap.size + 1) (w.heap.size + 1) (w.heap.size + 1) W wc := ⟨kept_below hcur, But.of (hcur.mono hNW)⟩
        refine wpIn_region_round (S := fun w' => True) (by kernel_rfl) (by kernel_rfl) ?_ (trivial) (fun hS0 => ?_)
        · exact fun _ _ h => h
        have hJd := hJc.below (Below.refl wc.heap.size wc).drew
        have hBd := hBc.trans (But.of ((Below.refl wc.heap.size wc).drew.mono hJc.2.2.2.2.2.2))
        have z4d := hJd.cells.2.1
        refine' wpAnyH_take (i := 1) (v := _) rfl (by kernel_rfl) (by kernel_rfl) (by kernel_rfl) (fun _ _ _ h => h) (Or.inl ⟨by rfl, fun w' hSw => ?_⟩) hS0 ?_; rotate_left; (focus ((try dsimp only at hSw); go_simp <;> (with_reducible rfl))); (try simp only [List.getElem_toArray, List.getElem_cons_succ, List.getElem_cons_zero, Act.put, List.setIfInBounds_toArray, List.set_cons_zero, List.set_cons_succ])
        refine wpAnyH_ready (rs := [0, 2]) (by kernel_rfl) (by simp) ?_
        refine AllReadyH.cons rfl (fun K hK => ?_) (AllReadyH.cons rfl (fun K hK => ?_) (AllReadyH.nil))
        · go_simp; (try go_wp2_with fail); refine hK.out _ _ (trivial) (fun hSb => ?_); clear hK K; (try simp only [List.getElem_toArray, List.getElem_cons_succ, List.getElem_cons_zero, Act.put, List.setIfInBounds_toArray, List.set_cons_zero, List.set_cons_succ])
          refine wpAnyH_ready (rs := [2]) (by kernel_rfl) (by simp) ?_
          refine AllReadyH.cons rfl (fun K hK => ?_) AllReadyH.nil
          go_simp; go_at_call 74; (with_reducible refine (HTab.out _ hBd).mono ?_); rintro e w6 ⟨rfl, k6, os6, hw6⟩; have hb6 := grow_below hw6; clear hw6; have hJ6 := hJd.below hb6; have z4 := hJ6.cells.2.1; (try go_wp2_with fail); refine hK.out _ _ (trivial) (fun hS11 => ?_); clear hK K; (try simp only [List.getElem_toArray, List.getElem_cons_succ, List.getElem_cons_zero, Act.put, List.setIfInBounds_toArray, List.set_cons_zero, List.set_cons_succ])
          refine wpAnyH_ready (rs := [3]) (by kernel_rfl) (by simp) ?_
          refine AllReadyH.cons rfl (fun K hK => ?_) AllReadyH.nil
          go_simp; have hJ7 := hJ6.below ((Below.refl w6.heap.size w6).alloc (Nat.le_refl _) (.cells #[.string it] 9)); have z4' := hJ7.cells.2.1; (try go_wp2_with fail); refine hK.out _ _ (trivial) (fun hS12 => ?_); clear hK K; (try simp only [List.getElem_toArray, List.getElem_cons_succ, List.getElem_cons_zero, Act.put, List.setIfInBounds_toArray, List.set_cons_zero, List.set_cons_succ])
          refine wpAnyH_ready (rs := [4]) (by kernel_rfl) (by simp) ?_
          refine AllReadyH.cons rfl (fun K hK => ?_) AllReadyH.nil
          rw [if_pos (by rfl)]
          refine wp_append_own _ (.tmp 16) (.tmp 19) 100 rfl (w3.heap.size + 1) 9 i0 (.string ByteArray.empty) 1 16 Tryz.underlying100 hi hz0 hz1 hz2 rfl (by decide) v out.length (out.map strV) rfl hJ7.2.2.2.1 ⟨w6.heap.size, 0, none⟩ 1 1 [.string it] rfl rfl (cell_one_new _ _ _) (by simp [Value.oneCell']) (by unfold maxLen; omega) (by omega) hJ7.2.2.2.2.2.2 ?_
          rintro vcn w9 hown9 hg9 -
          obtain ⟨m1, m2⟩ := hJ7.mid hg9
          have hJcn := hJ7.append hg9 (HIT.out out hown9)
          have hScn := hJc.step hb6 hg9 vcn
          obtain ⟨z, l, rfl⟩ := row_slice hown9
          refine hK.out _ _ trivial (fun hSn => ?_); clear hK K; (try simp only [Act.put, List.setIfInBounds_toArray, List.set_cons_zero, List.set_cons_succ])
          refine wpAnyH_ready (rs := [5]) (by kernel_rfl) (by simp) ?_
          refine AllReadyH.cons rfl (fun K hK => ?_) AllReadyH.nil
          go_simp; (try go_wp2_with fail); refine hK.out _ _ (trivial) (fun hS13 => ?_); clear hK K; (try simp only [List.getElem_toArray, List.getElem_cons_succ, List.getElem_cons_zero, Act.put, List.setIfInBounds_toArray, List.set_cons_zero, List.set_cons_succ])
          refine wpAnyH_done (by kernel_rfl) (NoPanic.normal ?_) _
          obtain ⟨⟨z0, z1⟩, z2, z3⟩ := hJcn.cells
          gi_wp2_with ((first | refine ⟨trivial, ?_⟩ | skip); gi_at_call 73; (with_reducible refine (CallsIn.inRound lk (callsIn_wide.2 (H2.out _ _ _ hJcn))).mono ?_); rintro e wz ⟨rfl, hbz⟩; have hJz := hJcn.below hbz; obtain ⟨⟨z0, z1⟩, z2, z3⟩ := hJz.cells)
          have hKy := kept_below hbz
          have hBy : But (w3.heap.size + 1) (w.heap.size + 1) (w.heap.size + 1) _ _ := But.of (hbz.mono hJcn.2.2.2.2.2.2)
          have hBe := (hBc.trans hScn.2).trans hBy
          have hKe := And.intro ((hKc.1.trans hScn.1).trans hKy) ((hKc.2.trans hScn.2).trans hBy)
          clear hBc hKc hcur hScn hbz hKy hBy hg9 hown9 hb6 hJ6 hJ7 hJd hBd m1 m2 hJc hJcn
          obtain ⟨oe, hoe⟩ : ∃ oe, oe = out ++ [Lib.decDigits x.1] := ⟨_, rfl⟩
          rw [← hoe] at hJz HV
          have hoe1 : oe.length ≤ 9001 := by rw [hoe, List.length_append]; simp; omega
          clear hoe
          obtain ⟨ve, hve⟩ : ∃ ve, ve = Value.slice z (out.length + 1) l := ⟨_, rfl⟩
          clear z0 z1 z2 z3
          have hBz := hBe
          refine wpIn_region_round (S := fun w' => True) (by kernel_rfl) (by kernel_rfl) ?_ (trivial) (fun hS0 => ?_)
          · exact fun _ _ h => h
          have hJd := hJz.below (Below.refl wz.heap.size wz).drew
          have hBd := hBz.trans (But.of ((Below.refl wz.heap.size wz).drew.mono hJz.2.2.2.2.2.2))
          have z4d := hJd.cells.2.1
          refine' wpAnyH_take (i := 1) (v := _) rfl (by kernel_rfl) (by kernel_rfl) (by kernel_rfl) (fun _ _ _ h => h) (Or.inl ⟨by rfl, fun w' hSw => ?_⟩) hS0 ?_; rotate_left; (focus ((try dsimp only at hSw); go_simp <;> (with_reducible rfl))); (try simp only [List.getElem_toArray, List.getElem_cons_succ, List.getElem_cons_zero, Act.put, List.setIfInBounds_toArray, List.set_cons_zero, List.set_cons_succ])
          refine wpAnyH_ready (rs := [0, 2]) (by kernel_rfl) (by simp) ?_
          refine AllReadyH.cons rfl (fun K hK => ?_) (AllReadyH.cons rfl (fun K hK => ?_) (AllReadyH.nil))
          · go_simp; (try go_wp2_with fail); refine hK.out _ _ (trivial) (fun hSb => ?_); clear hK K; (try simp only [List.getElem_toArray, List.getElem_cons_succ, List.getElem_cons_zero, Act.put, List.setIfInBounds_toArray, List.set_cons_zero, List.set_cons_succ])
            refine wpAnyH_ready (rs := [2]) (by kernel_rfl) (by simp) ?_
            refine AllReadyH.cons rfl (fun K hK => ?_) AllReadyH.nil
            go_simp; go_at_call 74; (with_reducible refine (HTab.out _ hBd).mono ?_); rintro e w6 ⟨rfl, k6, os6, hw6⟩; have hb6 := grow_below hw6; clear hw6; have hJ6 := hJd.below hb6; have z4 := hJ6.cells.2.1; (try go_wp2_with fail); refine hK.out _ _ (trivial) (fun hS11 => ?_); clear hK K; (try simp only [List.getElem_toArray, List.getElem_cons_succ, List.getElem_cons_zero, Act.put, List.setIfInBounds_toArray, List.set_cons_zero, List.set_cons_succ])
            refine' wpAnyH_take (i := 3) (v := _) rfl (by kernel_rfl) (by kernel_rfl) (by kernel_rfl) (fun _ _ _ h => h) (Or.inl ⟨by rfl, fun w' hSw => ?_⟩) hS11 ?_; rotate_left; (focus ((try dsimp only at hSw); go_simp <;> (with_reducible rfl))); (try simp only [List.getElem_toArray, List.getElem_cons_succ, List.getElem_cons_zero, Act.put, List.setIfInBounds_toArray, List.set_cons_zero, List.set_cons_succ])
            refine wpAnyH_ready (rs := [4]) (by kernel_rfl) (by simp) ?_
            refine AllReadyH.cons rfl (fun K hK => ?_) AllReadyH.nil
            go_simp; have hJ7 := hJ6.below ((Below.refl w6.heap.size w6).alloc (Nat.le_refl _) (.cells #[.string (ByteArray.mk #[33] ++ it)] 9)); have z4' := hJ7.cells.2.1; (try go_wp2_with fail); refine hK.out _ _ (trivial) (fun hS12 => ?_); clear hK K; (try simp only [List.getElem_toArray, List.getElem_cons_succ, List.getElem_cons_zero, Act.put, List.setIfInBounds_toArray, List.set_cons_zero, List.set_cons_succ])
            refine wpAnyH_ready (rs := [5]) (by kernel_rfl) (by simp) ?_
            refine AllReadyH.cons rfl (fun K hK => ?_) AllReadyH.nil
            rw [if_pos (by rfl)]
            refine wp_append_own _ (.tmp 25) (.tmp 29) 100 rfl (w3.heap.size + 1) 9 i0 (.string ByteArray.empty) 1 16 Tryz.underlying100 hi hz0 hz1 hz2 rfl (by decide) (.slice z (out.length + 1) l) oe.length (oe.map strV) rfl hJ7.2.2.2.1 ⟨w6.heap.size, 0, none⟩ 1 1 [.string (ByteArray.mk #[33] ++ it)] rfl rfl (cell_one_new _ _ _) (by simp [Value.oneCell']) (by unfold maxLen; omega) (by omega) hJ7.2.2.2.2.2.2 ?_
            rintro vzn w9 hown9 hg9 -
            obtain ⟨m1, m2⟩ := hJ7.mid hg9
            have hJzn := hJ7.append hg9 (HIT2.out oe hown9)
            have hSzn := hJz.step hb6 hg9 vzn
            obtain ⟨z, l, rfl⟩ := row_slice hown9
            refine hK.out _ _ trivial (fun hSn => ?_); clear hK K; (try simp only [Act.put, List.setIfInBounds_toArray, List.set_cons_zero, List.set_cons_succ])
            refine wpAnyH_ready (rs := [6]) (by kernel_rfl) (by simp) ?_
            refine AllReadyH.cons rfl (fun K hK => ?_) AllReadyH.nil
            go_simp; (try go_wp2_with fail); refine hK.out _ _ (trivial) (fun hS13 => ?_); clear hK K; (try simp only [List.getElem_toArray, List.getElem_cons_succ, List.getElem_cons_zero, Act.put, List.setIfInBounds_toArray, List.set_cons_zero, List.set_cons_succ])
            refine wpAnyH_done (by kernel_rfl) (NoPanic.normal ?_) _
            exact ⟨(hKe.1.trans hSzn.1).from _, hKe.2.trans hSzn.2, _, by rw [HV.out]; exact hJzn, hBe.trans hSzn.2⟩
          · go_simp; go_at_call 74; (with_reducible refine (HTab.out _ hBd).mono ?_); rintro e w6 ⟨rfl, k6, os6, hw6⟩; have hb6 := grow_below hw6; clear hw6; have hJ6 := hJd.below hb6; have z4 := hJ6.cells.2.1; (try go_wp2_with fail); refine hK.out _ _ (trivial) (fun hSb => ?_); clear hK K; (try simp only [List.getElem_toArray, List.getElem_cons_succ, List.getElem_cons_zero, Act.put, List.setIfInBounds_toArray, List.set_cons_zero, List.set_cons_succ])
            refine' wpAnyH_take (i := 3) (v := _) rfl (by kernel_rfl) (by kernel_rfl) (by kernel_rfl) (fun _ _ _ h => h) (Or.inl ⟨by rfl, fun w' hSw => ?_⟩) hSb ?_; rotate_left; (focus ((try dsimp only at hSw); go_simp <;> (with_reducible rfl))); (try simp only [List.getElem_toArray, List.getElem_cons_succ, List.getElem_cons_zero, Act.put, List.setIfInBounds_toArray, List.set_cons_zero, List.set_cons_succ])
            refine wpAnyH_ready (rs := [0, 4]) (by kernel_rfl) (by simp) ?_
            refine AllReadyH.cons rfl (fun K hK => ?_) (AllReadyH.cons rfl (fun K hK => ?_) (AllReadyH.nil))
            · go_simp; (try go_wp2_with fail); refine hK.out _ _ (trivial) (fun hSb => ?_); clear hK K; (try simp only [List.getElem_toArray, List.getElem_cons_succ, List.getElem_cons_zero, Act.put, List.setIfInBounds_toArray, List.set_cons_zero, List.set_cons_succ])
              refine wpAnyH_ready (rs := [4]) (by kernel_rfl) (by simp) ?_
              refine AllReadyH.cons rfl (fun K hK => ?_) AllReadyH.nil
              go_simp; have hJ7 := hJ6.below ((Below.refl w6.heap.size w6).alloc (Nat.le_refl _) (.cells #[.string (ByteArray.mk #[33] ++ it)] 9)); have z4' := hJ7.cells.2.1; (try go_wp2_with fail); refine hK.out _ _ (trivial) (fun hS21 => ?_); clear hK K; (try simp only [List.getElem_toArray, List.getElem_cons_succ, List.getElem_cons_zero, Act.put, List.setIfInBounds_toArray, List.set_cons_zero, List.set_cons_succ])
              refine wpAnyH_ready (rs := [5]) (by kernel_rfl) (by simp) ?_
              refine AllReadyH.cons rfl (fun K hK => ?_) AllReadyH.nil
              rw [if_pos (by rfl)]
              refine wp_append_own _ (.tmp 25) (.tmp 29) 100 rfl (w3.heap.size + 1) 9 i0 (.string ByteArray.empty) 1 16 Tryz.underlying100 hi hz0 hz1 hz2 rfl (by decide) (.slice z (out.length + 1) l) oe.length (oe.map strV) rfl hJ7.2.2.2.1 ⟨w6.heap.size, 0, none⟩ 1 1 [.string (ByteArray.mk #[33] ++ it)] rfl rfl (cell_one_new _ _ _) (by simp [Value.oneCell']) (by unfold maxLen; omega) (by omega) hJ7.2.2.2.2.2.2 ?_
              rintro vzn w9 hown9 hg9 -
              obtain ⟨m1, m2⟩ := hJ7.mid hg9
              have hJzn := hJ7.append hg9 (HIT2.out oe hown9)
              have hSzn := hJz.step hb6 hg9 vzn
              obtain ⟨z, l, rfl⟩ := row_slice hown9
              refine hK.out _ _ trivial (fun hSn => ?_); clear hK K; (try simp only [Act.put, List.setIfInBounds_toArray, List.set_cons_zero, List.set_cons_succ])
              refine wpAnyH_ready (rs := [6]) (by kernel_rfl) (by simp) ?_
              refine AllReadyH.cons rfl (fun K hK => ?_) AllReadyH.nil
              go_simp; (try go_wp2_with fail); refine hK.out _ _ (trivial) (fun hS22 => ?_); clear hK K; (try simp only [List.getElem_toArray, List.getElem_cons_succ, List.getElem_cons_zero, Act.put, List.setIfInBounds_toArray, List.set_cons_zero, List.set_cons_succ])
              refine wpAnyH_done (by kernel_rfl) (NoPanic.normal ?_) _
              exact ⟨(hKe.1.trans hSzn.1).from _, hKe.2.trans hSzn.2, _, by rw [HV.out]; exact hJzn, hBe.trans hSzn.2⟩
            · go_simp; have hJ7 := hJ6.below ((Below.refl w6.heap.size w6).alloc (Nat.le_refl _) (.cells #[.string (ByteArray.mk #[33] ++ it)] 9)); have z4' := hJ7.cells.2.1; (try go_wp2_with fail); refine hK.out _ _ (trivial) (fun hSb => ?_); clear hK K; (try simp only [List.getElem_toArray, List.getElem_cons_succ, List.getElem_cons_zero, Act.put, List.setIfInBounds_toArray, List.set_cons_zero, List.set_cons_succ])
              refine wpAnyH_ready (rs := [0]) (by kernel_rfl) (by simp) ?_
              refine AllReadyH.cons rfl (fun K hK => ?_) AllReadyH.nil
              go_simp; (try go_wp2_with fail); refine hK.out _ _ (trivial) (fun hS21 => ?_); clear hK K; (try simp only [List.getElem_toArray, List.getElem_cons_succ, List.getElem_cons_zero, Act.put, List.setIfInBounds_toArray, List.set_cons_zero, List.set_cons_succ])
              refine wpAnyH_ready (rs := [5]) (by kernel_rfl) (by simp) ?_
              refine AllReadyH.cons rfl (fun K hK => ?_) AllReadyH.nil
              rw [if_pos (by rfl)]
              refine wp_append_own _ (.tmp 25) (.tmp 29) 100 rfl (w3.heap.size + 1) 9 i0 (.string ByteArray.empty) 1 16 Tryz.underlying100 hi hz0 hz1 hz2 rfl (by decide) (.slice z (out.length + 1) l) oe.length (oe.map strV) rfl hJ7.2.2.2.1 ⟨w6.heap.size, 0, none⟩ 1 1 [.string (ByteArray.mk #[33] ++ it)] rfl rfl (cell_one_new _ _ _) (by simp [Value.oneCell']) (by unfold maxLen; omega) (by omega) hJ7.2.2.2.2.2.2 ?_
              rintro vzn w9 hown9 hg9 -
              obtain ⟨m1, m2⟩ := hJ7.mid hg9
              have hJzn := hJ7.append hg9 (HIT2.out oe hown9)
              have hSzn := hJz.step hb6 hg9 vzn
              obtain ⟨z, l, rfl⟩ := row_slice hown9
              refine hK.out _ _ trivial (fun hSn => ?_); clear hK K; (try simp only [Act.put, List.setIfInBounds_toArray, List.set_cons_zero, List.set_cons_succ])
              refine wpAnyH_ready (rs := [6]) (by kernel_rfl) (by simp) ?_
              refine AllReadyH.cons rfl (fun K hK => ?_) AllReadyH.nil
              go_simp; (try go_wp2_with fail); refine hK.out _ _ (trivial) (fun hS22 => ?_); clear hK K; (try simp only [List.getElem_toArray, List.getElem_cons_succ, List.getElem_cons_zero, Act.put, List.setIfInBounds_toArray, List.set_cons_zero, List.set_cons_succ])
              refine wpAnyH_done (by kernel_rfl) (NoPanic.normal ?_) _
              exact ⟨(hKe.1.trans hSzn.1).from _, hKe.2.trans hSzn.2, _, by rw [HV.out]; exact hJzn, hBe.trans hSzn.2⟩
        · go_simp; go_at_call 74; (with_reducible refine (HTab.out _ hBd).mono ?_); rintro e w6 ⟨rfl, k6, os6, hw6⟩; have hb6 := grow_below hw6; clear hw6; have hJ6 := hJd.below hb6; have z4 := hJ6.cells.2.1; (try go_wp2_with fail); refine hK.out _ _ (trivial) (fun hSb => ?_); clear hK K; (try simp only [List.getElem_toArray, List.getElem_cons_succ, List.getElem_cons_zero, Act.put, List.setIfInBounds_toArray, List.set_cons_zero, List.set_cons_succ])
          refine wpAnyH_ready (rs := [0, 3]) (by kernel_rfl) (by simp) ?_
          refine AllReadyH.cons rfl (fun K hK => ?_) (AllReadyH.cons rfl (fun K hK => ?_) (AllReadyH.nil))
          · go_simp; (try go_wp2_with fail); refine hK.out _ _ (trivial) (fun hSb => ?_); clear hK K; (try simp only [List.getElem_toArray, List.getElem_cons_succ, List.getElem_cons_zero, Act.put, List.setIfInBounds_toArray, List.set_cons_zero, List.set_cons_succ])
            refine wpAnyH_ready (rs := [3]) (by kernel_rfl) (by simp) ?_
            refine AllReadyH.cons rfl (fun K hK => ?_) AllReadyH.nil
            go_simp; have hJ7 := hJ6.below ((Below.refl w6.heap.size w6).alloc (Nat.le_refl _) (.cells #[.string it] 9)); have z4' := hJ7.cells.2.1; (try go_wp2_with fail); refine hK.out _ _ (trivial) (fun hS21 => ?_); clear hK K; (try simp only [List.getElem_toArray, List.getElem_cons_succ, List.getElem_cons_zero, Act.put, List.setIfInBounds_toArray, List.set_cons_zero, List.set_cons_succ])
            refine wpAnyH_ready (rs := [4]) (by kernel_rfl) (by simp) ?_
            refine AllReadyH.cons rfl (fun K hK => ?_) AllReadyH.nil
            rw [if_pos (by rfl)]
            refine wp_append_own _ (.tmp 16) (.tmp 19) 100 rfl (w3.heap.size + 1) 9 i0 (.string ByteArray.empty) 1 16 Tryz.underlying100 hi hz0 hz1 hz2 rfl (by decide) v out.length (out.map strV) rfl hJ7.2.2.2.1 ⟨w6.heap.size, 0, none⟩ 1 1 [.string it] rfl rfl (cell_one_new _ _ _) (by simp [Value.oneCell']) (by unfold maxLen; omega) (by omega) hJ7.2.2.2.2.2.2 ?_
            rintro vcn w9 hown9 hg9 -
            obtain ⟨m1, m2⟩ := hJ7.mid hg9
            have hJcn := hJ7.append hg9 (HIT.out out hown9)
            have hScn := hJc.step hb6 hg9 vcn
            obtain ⟨z, l, rfl⟩ := row_slice hown9
            refine hK.out _ _ trivial (fun hSn => ?_); clear hK K; (try simp only [Act.put, List.setIfInBounds_toArray, List.set_cons_zero, List.set_cons_succ])
            refine wpAnyH_ready (rs := [5]) (by kernel_rfl) (by simp) ?_
            refine AllReadyH.cons rfl (fun K hK => ?_) AllReadyH.nil
            go_simp; (try go_wp2_with fail); refine hK.out _ _ (trivial) (fun hS22 => ?_); clear hK K; (try simp only [List.getElem_toArray, List.getElem_cons_succ, List.getElem_cons_zero, Act.put, List.setIfInBounds_toArray, List.set_cons_zero, List.set_cons_succ])
            refine wpAnyH_done (by kernel_rfl) (NoPanic.normal ?_) _
            obtain ⟨⟨z0, z1⟩, z2, z3⟩ := hJcn.cells
            gi_wp2_with ((first | refine ⟨trivial, ?_⟩ | skip); gi_at_call 73; (with_reducible refine (CallsIn.inRound lk (callsIn_wide.2 (H2.out _ _ _ hJcn))).mono ?_); rintro e wz ⟨rfl, hbz⟩; have hJz := hJcn.below hbz; obtain ⟨⟨z0, z1⟩, z2, z3⟩ := hJz.cells)
            have hKy := kept_below hbz
            have hBy : But (w3.heap.size + 1) (w.heap.size + 1) (w.heap.size + 1) _ _ := But.of (hbz.mono hJcn.2.2.2.2.2.2)
            have hBe := (hBc.trans hScn.2).trans hBy
            have hKe := And.intro ((hKc.1.trans hScn.1).trans hKy) ((hKc.2.trans hScn.2).trans hBy)
            clear hBc hKc hcur hScn hbz hKy hBy hg9 hown9 hb6 hJ6 hJ7 hJd hBd m1 m2 hJc hJcn
            obtain ⟨oe, hoe⟩ : ∃ oe, oe = out ++ [Lib.decDigits x.1] := ⟨_, rfl⟩
            rw [← hoe] at hJz HV
            have hoe1 : oe.length ≤ 9001 := by rw [hoe, List.length_append]; simp; omega
            clear hoe
            obtain ⟨ve, hve⟩ : ∃ ve, ve = Value.slice z (out.length + 1) l := ⟨_, rfl⟩
            clear z0 z1 z2 z3
            have hBz := hBe
            refine wpIn_region_round (S := fun w' => True) (by kernel_rfl) (by kernel_rfl) ?_ (trivial) (fun hS0 => ?_)
            · exact fun _ _ h => h
            have hJd := hJz.below (Below.refl wz.heap.size wz).drew
            have hBd := hBz.trans (But.of ((Below.refl wz.heap.size wz).drew.mono hJz.2.2.2.2.2.2))
            have z4d := hJd.cells.2.1
            refine' wpAnyH_take (i := 1) (v := _) rfl (by kernel_rfl) (by kernel_rfl) (by kernel_rfl) (fun _ _ _ h => h) (Or.inl ⟨by rfl, fun w' hSw => ?_⟩) hS0 ?_; rotate_left; (focus ((try dsimp only at hSw); go_simp <;> (with_reducible rfl))); (try simp only [List.getElem_toArray, List.getElem_cons_succ, List.getElem_cons_zero, Act.put, List.setIfInBounds_toArray, List.set_cons_zero, List.set_cons_succ])
            refine wpAnyH_ready (rs := [0, 2]) (by kernel_rfl) (by simp) ?_
            refine AllReadyH.cons rfl (fun K hK => ?_) (AllReadyH.cons rfl (fun K hK => ?_) (AllReadyH.nil))
            · go_simp; (try go_wp2_with fail); refine hK.out _ _ (trivial) (fun hSb => ?_); clear hK K; (try simp only [List.getElem_toArray, List.getElem_cons_succ, List.getElem_cons_zero, Act.put, List.setIfInBounds_toArray, List.set_cons_zero, List.set_cons_succ])
              refine wpAnyH_ready (rs := [2]) (by kernel_rfl) (by simp) ?_
              refine AllReadyH.cons rfl (fun K hK => ?_) AllReadyH.nil
              go_simp; go_at_call 74; (with_reducible refine (HTab.out _ hBd).mono ?_); rintro e w6 ⟨rfl, k6, os6, hw6⟩; have hb6 := grow_below hw6; clear hw6; have hJ6 := hJd.below hb6; have z4 := hJ6.cells.2.1; (try go_wp2_with fail); refine hK.out _ _ (trivial) (fun hS11 => ?_); clear hK K; (try simp only [List.getElem_toArray, List.getElem_cons_succ, List.getElem_cons_zero, Act.put, List.setIfInBounds_toArray, List.set_cons_zero, List.set_cons_succ])
              refine' wpAnyH_take (i := 3) (v := _) rfl (by kernel_rfl) (by kernel_rfl) (by kernel_rfl) (fun _ _ _ h => h) (Or.inl ⟨by rfl, fun w' hSw => ?_⟩) hS11 ?_; rotate_left; (focus ((try dsimp only at hSw); go_simp <;> (with_reducible rfl))); (try simp only [List.getElem_toArray, List.getElem_cons_succ, List.getElem_cons_zero, Act.put, List.setIfInBounds_toArray, List.set_cons_zero, List.set_cons_succ])
              refine wpAnyH_ready (rs := [4]) (by kernel_rfl) (by simp) ?_
              refine AllReadyH.cons rfl (fun K hK => ?_) AllReadyH.nil
              go_simp; have hJ7 := hJ6.below ((Below.refl w6.heap.size w6).alloc (Nat.le_refl _) (.cells #[.string (ByteArray.mk #[33] ++ it)] 9)); have z4' := hJ7.cells.2.1; (try go_wp2_with fail); refine hK.out _ _ (trivial) (fun hS12 => ?_); clear hK K; (try simp only [List.getElem_toArray, List.getElem_cons_succ, List.getElem_cons_zero, Act.put, List.setIfInBounds_toArray, List.set_cons_zero, List.set_cons_succ])
              refine wpAnyH_ready (rs := [5]) (by kernel_rfl) (by simp) ?_
              refine AllReadyH.cons rfl (fun K hK => ?_) AllReadyH.nil
              rw [if_pos (by rfl)]
              refine wp_append_own _ (.tmp 25) (.tmp 29) 100 rfl (w3.heap.size + 1) 9 i0 (.string ByteArray.empty) 1 16 Tryz.underlying100 hi hz0 hz1 hz2 rfl (by decide) (.slice z (out.length + 1) l) oe.length (oe.map strV) rfl hJ7.2.2.2.1 ⟨w6.heap.size, 0, none⟩ 1 1 [.string (ByteArray.mk #[33] ++ it)] rfl rfl (cell_one_new _ _ _) (by simp [Value.oneCell']) (by unfold maxLen; omega) (by omega) hJ7.2.2.2.2.2.2 ?_
              rintro vzn w9 hown9 hg9 -
              obtain ⟨m1, m2⟩ := hJ7.mid hg9
              have hJzn := hJ7.append hg9 (HIT2.out oe hown9)
              have hSzn := hJz.step hb6 hg9 vzn
              obtain ⟨z, l, rfl⟩ := row_slice hown9
              refine hK.out _ _ trivial (fun hSn => ?_); clear hK K; (try simp only [Act.put, List.setIfInBounds_toArray, List.set_cons_zero, List.set_cons_succ])
              refine wpAnyH_ready (rs := [6]) (by kernel_rfl) (by simp) ?_
              refine AllReadyH.cons rfl (fun K hK => ?_) AllReadyH.nil
              go_simp; (try go_wp2_with fail); refine hK.out _ _ (trivial) (fun hS13 => ?_); clear hK K; (try simp only [List.getElem_toArray, List.getElem_cons_succ, List.getElem_cons_zero, Act.put, List.setIfInBounds_toArray, List.set_cons_zero, List.set_cons_succ])
              refine wpAnyH_done (by kernel_rfl) (NoPanic.normal ?_) _
              exact ⟨(hKe.1.trans hSzn.1).from _, hKe.2.trans hSzn.2, _, by rw [HV.out]; exact hJzn, hBe.trans hSzn.2⟩
            · go_simp; go_at_call 74; (with_reducible refine (HTab.out _ hBd).mono ?_); rintro e w6 ⟨rfl, k6, os6, hw6⟩; have hb6 := grow_below hw6; clear hw6; have hJ6 := hJd.below hb6; have z4 := hJ6.cells.2.1; (try go_wp2_with fail); refine hK.out _ _ (trivial) (fun hSb => ?_); clear hK K; (try simp only [List.getElem_toArray, List.getElem_cons_succ, List.getElem_cons_zero, Act.put, List.setIfInBounds_toArray, List.set_cons_zero, List.set_cons_succ])
              refine' wpAnyH_take (i := 3) (v := _) rfl (by kernel_rfl) (by kernel_rfl) (by kernel_rfl) (fun _ _ _ h => h) (Or.inl ⟨by rfl, fun w' hSw => ?_⟩) hSb ?_; rotate_left; (focus ((try dsimp only at hSw); go_simp <;> (with_reducible rfl))); (try simp only [List.getElem_toArray, List.getElem_cons_succ, List.getElem_cons_zero, Act.put, List.setIfInBounds_toArray, List.set_cons_zero, List.set_cons_succ])
              refine wpAnyH_ready (rs := [0, 4]) (by kernel_rfl) (by simp) ?_
              refine AllReadyH.cons rfl (fun K hK => ?_) (AllReadyH.cons rfl (fun K hK => ?_) (AllReadyH.nil))
              · go_simp; (try go_wp2_with fail); refine hK.out _ _ (trivial) (fun hSb => ?_); clear hK K; (try simp only [List.getElem_toArray, List.getElem_cons_succ, List.getElem_cons_zero, Act.put, List.setIfInBounds_toArray, List.set_cons_zero, List.set_cons_succ])
                refine wpAnyH_ready (rs := [4]) (by kernel_rfl) (by simp) ?_
                refine AllReadyH.cons rfl (fun K hK => ?_) AllReadyH.nil
                go_simp; have hJ7 := hJ6.below ((Below.refl w6.heap.size w6).alloc (Nat.le_refl _) (.cells #[.string (ByteArray.mk #[33] ++ it)] 9)); have z4' := hJ7.cells.2.1; (try go_wp2_with fail); refine hK.out _ _ (trivial) (fun hS21 => ?_); clear hK K; (try simp only [List.getElem_toArray, List.getElem_cons_succ, List.getElem_cons_zero, Act.put, List.setIfInBounds_toArray, List.set_cons_zero, List.set_cons_succ])
                refine wpAnyH_ready (rs := [5]) (by kernel_rfl) (by simp) ?_
                refine AllReadyH.cons rfl (fun K hK => ?_) AllReadyH.nil
                rw [if_pos (by rfl)]
                refine wp_append_own _ (.tmp 25) (.tmp 29) 100 rfl (w3.heap.size + 1) 9 i0 (.string ByteArray.empty) 1 16 Tryz.underlying100 hi hz0 hz1 hz2 rfl (by decide) (.slice z (out.length + 1) l) oe.length (oe.map strV) rfl hJ7.2.2.2.1 ⟨w6.heap.size, 0, none⟩ 1 1 [.string (ByteArray.mk #[33] ++ it)] rfl rfl (cell_one_new _ _ _) (by simp [Value.oneCell']) (by unfold maxLen; omega) (by omega) hJ7.2.2.2.2.2.2 ?_
                rintro vzn w9 hown9 hg9 -
                obtain ⟨m1, m2⟩ := hJ7.mid hg9
                have hJzn := hJ7.append hg9 (HIT2.out oe hown9)
                have hSzn := hJz.step hb6 hg9 vzn
                obtain ⟨z, l, rfl⟩ := row_slice hown9
                refine hK.out _ _ trivial (fun hSn => ?_); clear hK K; (try simp only [Act.put, List.setIfInBounds_toArray, List.set_cons_zero, List.set_cons_succ])
                refine wpAnyH_ready (rs := [6]) (by kernel_rfl) (by simp) ?_
                refine AllReadyH.cons rfl (fun K hK => ?_) AllReadyH.nil
                go_simp; (try go_wp2_with fail); refine hK.out _ _ (trivial) (fun hS22 => ?_); clear hK K; (try simp only [List.getElem_toArray, List.getElem_cons_succ, List.getElem_cons_zero, Act.put, List.setIfInBounds_toArray, List.set_cons_zero, List.set_cons_succ])
                refine wpAnyH_done (by kernel_rfl) (NoPanic.normal ?_) _
                exact ⟨(hKe.1.trans hSzn.1).from _, hKe.2.trans hSzn.2, _, by rw [HV.out]; exact hJzn, hBe.trans hSzn.2⟩
              · go_simp; have hJ7 := hJ6.below ((Below.refl w6.heap.size w6).alloc (Nat.le_refl _) (.cells #[.string (ByteArray.mk #[33] ++ it)] 9)); have z4' := hJ7.cells.2.1; (try go_wp2_with fail); refine hK.out _ _ (trivial) (fun hSb => ?_); clear hK K; (try simp only [List.getElem_toArray, List.getElem_cons_succ, List.getElem_cons_zero, Act.put, List.setIfInBounds_toArray, List.set_cons_zero, List.set_cons_succ])
                refine wpAnyH_ready (rs := [0]) (by kernel_rfl) (by simp) ?_
                refine AllReadyH.cons rfl (fun K hK => ?_) AllReadyH.nil
                go_simp; (try go_wp2_with fail); refine hK.out _ _ (trivial) (fun hS21 => ?_); clear hK K; (try simp only [List.getElem_toArray, List.getElem_cons_succ, List.getElem_cons_zero, Act.put, List.setIfInBounds_toArray, List.set_cons_zero, List.set_cons_succ])
                refine wpAnyH_ready (rs := [5]) (by kernel_rfl) (by simp) ?_
                refine AllReadyH.cons rfl (fun K hK => ?_) AllReadyH.nil
                rw [if_pos (by rfl)]
                refine wp_append_own _ (.tmp 25) (.tmp 29) 100 rfl (w3.heap.size + 1) 9 i0 (.string ByteArray.empty) 1 16 Tryz.underlying100 hi hz0 hz1 hz2 rfl (by decide) (.slice z (out.length + 1) l) oe.length (oe.map strV) rfl hJ7.2.2.2.1 ⟨w6.heap.size, 0, none⟩ 1 1 [.string (ByteArray.mk #[33] ++ it)] rfl rfl (cell_one_new _ _ _) (by simp [Value.oneCell']) (by unfold maxLen; omega) (by omega) hJ7.2.2.2.2.2.2 ?_
                rintro vzn w9 hown9 hg9 -
                obtain ⟨m1, m2⟩ := hJ7.mid hg9
                have hJzn := hJ7.append hg9 (HIT2.out oe hown9)
                have hSzn := hJz.step hb6 hg9 vzn
                obtain ⟨z, l, rfl⟩ := row_slice hown9
                refine hK.out _ _ trivial (fun hSn => ?_); clear hK K; (try simp only [Act.put, List.setIfInBounds_toArray, List.set_cons_zero, List.set_cons_succ])
                refine wpAnyH_ready (rs := [6]) (by kernel_rfl) (by simp) ?_
                refine AllReadyH.cons rfl (fun K hK => ?_) AllReadyH.nil
                go_simp; (try go_wp2_with fail); refine hK.out _ _ (trivial) (fun hS22 => ?_); clear hK K; (try simp only [List.getElem_toArray, List.getElem_cons_succ, List.getElem_cons_zero, Act.put, List.setIfInBounds_toArray, List.set_cons_zero, List.set_cons_succ])
                refine wpAnyH_done (by kernel_rfl) (NoPanic.normal ?_) _
                exact ⟨(hKe.1.trans hSzn.1).from _, hKe.2.trans hSzn.2, _, by rw [HV.out]; exact hJzn, hBe.trans hSzn.2⟩
          · go_simp; have hJ7 := hJ6.below ((Below.refl w6.heap.size w6).alloc (Nat.le_refl _) (.cells #[.string it] 9)); have z4' := hJ7.cells.2.1; (try go_wp2_with fail); refine hK.out _ _ (trivial) (fun hSb => ?_); clear hK K; (try simp only [List.getElem_toArray, List.getElem_cons_succ, List.getElem_cons_zero, Act.put, List.setIfInBounds_toArray, List.set_cons_zero, List.set_cons_succ])
            refine wpAnyH_ready (rs := [0]) (by kernel_rfl) (by simp) ?_
            refine AllReadyH.cons rfl (fun K hK => ?_) AllReadyH.nil
            go_simp; (try go_wp2_with fail); refine hK.out _ _ (trivial) (fun hS21 => ?_); clear hK K; (try simp only [List.getElem_toArray, List.getElem_cons_succ, List.getElem_cons_zero, Act.put, List.setIfInBounds_toArray, List.set_cons_zero, List.set_cons_succ])
            refine wpAnyH_ready (rs := [4]) (by kernel_rfl) (by simp) ?_
            refine AllReadyH.cons rfl (fun K hK => ?_) AllReadyH.nil
            rw [if_pos (by rfl)]
            refine wp_append_own _ (.tmp 16) (.tmp 19) 100 rfl (w3.heap.size + 1) 9 i0 (.string ByteArray.empty) 1 16 Tryz.underlying100 hi hz0 hz1 hz2 rfl (by decide) v out.length (out.map strV) rfl hJ7.2.2.2.1 ⟨w6.heap.size, 0, none⟩ 1 1 [.string it] rfl rfl (cell_one_new _ _ _) (by simp [Value.oneCell']) (by unfold maxLen; omega) (by omega) hJ7.2.2.2.2.2.2 ?_
            rintro vcn w9 hown9 hg9 -
            obtain ⟨m1, m2⟩ := hJ7.mid hg9
            have hJcn := hJ7.append hg9 (HIT.out out hown9)
            have hScn := hJc.step hb6 hg9 vcn
            obtain ⟨z, l, rfl⟩ := row_slice hown9
            refine hK.out _ _ trivial (fun hSn => ?_); clear hK K; (try simp only [Act.put, List.setIfInBounds_toArray, List.set_cons_zero, List.set_cons_succ])
            refine wpAnyH_ready (rs := [5]) (by kernel_rfl) (by simp) ?_
            refine AllReadyH.cons rfl (fun K hK => ?_) AllReadyH.nil
            go_simp; (try go_wp2_with fail); refine hK.out _ _ (trivial) (fun hS22 => ?_); clear hK K; (try simp only [List.getElem_toArray, List.getElem_cons_succ, List.getElem_cons_zero, Act.put, List.setIfInBounds_toArray, List.set_cons_zero, List.set_cons_succ])
            refine wpAnyH_done (by kernel_rfl) (NoPanic.normal ?_) _
            obtain ⟨⟨z0, z1⟩, z2, z3⟩ := hJcn.cells
            gi_wp2_with ((first | refine ⟨trivial, ?_⟩ | skip); gi_at_call 73; (with_reducible refine (CallsIn.inRound lk (callsIn_wide.2 (H2.out _ _ _ hJcn))).mono ?_); rintro e wz ⟨rfl, hbz⟩; have hJz := hJcn.below hbz; obtain ⟨⟨z0, z1⟩, z2, z3⟩ := hJz.cells)
            have hKy := kept_below hbz
            have hBy : But (w3.heap.size + 1) (w.heap.size + 1) (w.heap.size + 1) _ _ := But.of (hbz.mono hJcn.2.2.2.2.2.2)
            have hBe := (hBc.trans hScn.2).trans hBy
            have hKe := And.intro ((hKc.1.trans hScn.1).trans hKy) ((hKc.2.trans hScn.2).trans hBy)
            clear hBc hKc hcur hScn hbz hKy hBy hg9 hown9 hb6 hJ6 hJ7 hJd hBd m1 m2 hJc hJcn
            obtain ⟨oe, hoe⟩ : ∃ oe, oe = out ++ [Lib.decDigits x.1] := ⟨_, rfl⟩
            rw [← hoe] at hJz HV
            have hoe1 : oe.length ≤ 9001 := by rw [hoe, List.length_append]; simp; omega
            clear hoe
            obtain ⟨ve, hve⟩ : ∃ ve, ve = Value.slice z (out.length + 1) l := ⟨_, rfl⟩
            clear z0 z1 z2 z3
            have hBz := hBe
            refine wpIn_region_round (S := fun w' => True) (by kernel_rfl) (by kernel_rfl) ?_ (trivial) (fun hS0 => ?_)
            · exact fun _ _ h => h
            have hJd := hJz.below (Below.refl wz.heap.size wz).drew
            have hBd := hBz.trans (But.of ((Below.refl wz.heap.size wz).drew.mono hJz.2.2.2.2.2.2))
            have z4d := hJd.cells.2.1
            refine' wpAnyH_take (i := 1) (v := _) rfl (by kernel_rfl) (by kernel_rfl) (by kernel_rfl) (fun _ _ _ h => h) (Or.inl ⟨by rfl, fun w' hSw => ?_⟩) hS0 ?_; rotate_left; (focus ((try dsimp only at hSw); go_simp <;> (with_reducible rfl))); (try simp only [List.getElem_toArray, List.getElem_cons_succ, List.getElem_cons_zero, Act.put, List.setIfInBounds_toArray, List.set_cons_zero, List.set_cons_succ])
            refine wpAnyH_ready (rs := [0, 2]) (by kernel_rfl) (by simp) ?_
            refine AllReadyH.cons rfl (fun K hK => ?_) (AllReadyH.cons rfl (fun K hK => ?_) (AllReadyH.nil))
            · go_simp; (try go_wp2_with fail); refine hK.out _ _ (trivial) (fun hSb => ?_); clear hK K; (try simp only [List.getElem_toArray, List.getElem_cons_succ, List.getElem_cons_zero, Act.put, List.setIfInBounds_toArray, List.set_cons_zero, List.set_cons_succ])
              refine wpAnyH_ready (rs := [2]) (by kernel_rfl) (by simp) ?_
              refine AllReadyH.cons rfl (fun K hK => ?_) AllReadyH.nil
              go_simp; go_at_call 74; (with_reducible refine (HTab.out _ hBd).mono ?_); rintro e w6 ⟨rfl, k6, os6, hw6⟩; have hb6 := grow_below hw6; clear hw6; have hJ6 := hJd.below hb6; have z4 := hJ6.cells.2.1; (try go_wp2_with fail); refine hK.out _ _ (trivial) (fun hS11 => ?_); clear hK K; (try simp only [List.getElem_toArray, List.getElem_cons_succ, List.getElem_cons_zero, Act.put, List.setIfInBounds_toArray, List.set_cons_zero, List.set_cons_succ])
              refine' wpAnyH_take (i := 3) (v := _) rfl (by kernel_rfl) (by kernel_rfl) (by kernel_rfl) (fun _ _ _ h => h) (Or.inl ⟨by rfl, fun w' hSw => ?_⟩) hS11 ?_; rotate_left; (focus ((try dsimp only at hSw); go_simp <;> (with_reducible rfl))); (try simp only [List.getElem_toArray, List.getElem_cons_succ, List.getElem_cons_zero, Act.put, List.setIfInBounds_toArray, List.set_cons_zero, List.set_cons_succ])
              refine wpAnyH_ready (rs := [4]) (by kernel_rfl) (by simp) ?_
              refine AllReadyH.cons rfl (fun K hK => ?_) AllReadyH.nil
              go_simp; have hJ7 := hJ6.below ((Below.refl w6.heap.size w6).alloc (Nat.le_refl _) (.cells #[.string (ByteArray.mk #[33] ++ it)] 9)); have z4' := hJ7.cells.2.1; (try go_wp2_with fail); refine hK.out _ _ (trivial) (fun hS12 => ?_); clear hK K; (try simp only [List.getElem_toArray, List.getElem_cons_succ, List.getElem_cons_zero, Act.put, List.setIfInBounds_toArray, List.set_cons_zero, List.set_cons_succ])
              refine wpAnyH_ready (rs := [5]) (by kernel_rfl) (by simp) ?_
              refine AllReadyH.cons rfl (fun K hK => ?_) AllReadyH.nil
              rw [if_pos (by rfl)]
              refine wp_append_own _ (.tmp 25) (.tmp 29) 100 rfl (w3.heap.size + 1) 9 i0 (.string ByteArray.empty) 1 16 Tryz.underlying100 hi hz0 hz1 hz2 rfl (by decide) (.slice z (out.length + 1) l) oe.length (oe.map strV) rfl hJ7.2.2.2.1 ⟨w6.heap.size, 0, none⟩ 1 1 [.string (ByteArray.mk #[33] ++ it)] rfl rfl (cell_one_new _ _ _) (by simp [Value.oneCell']) (by unfold maxLen; omega) (by omega) hJ7.2.2.2.2.2.2 ?_
              rintro vzn w9 hown9 hg9 -
              obtain ⟨m1, m2⟩ := hJ7.mid hg9
              have hJzn := hJ7.append hg9 (HIT2.out oe hown9)
              have hSzn := hJz.step hb6 hg9 vzn
              obtain ⟨z, l, rfl⟩ := row_slice hown9
              refine hK.out _ _ trivial (fun hSn => ?_); clear hK K; (try simp only [Act.put, List.setIfInBounds_toArray, List.set_cons_zero, List.set_cons_succ])
              refine wpAnyH_ready (rs := [6]) (by kernel_rfl) (by simp) ?_
              refine AllReadyH.cons rfl (fun K hK => ?_) AllReadyH.nil
              go_simp; (try go_wp2_with fail); refine hK.out _ _ (trivial) (fun hS13 => ?_); clear hK K; (try simp only [List.getElem_toArray, List.getElem_cons_succ, List.getElem_cons_zero, Act.put, List.setIfInBounds_toArray, List.set_cons_zero, List.set_cons_succ])
              refine wpAnyH_done (by kernel_rfl) (NoPanic.normal ?_) _
              exact ⟨(hKe.1.trans hSzn.1).from _, hKe.2.trans hSzn.2, _, by rw [HV.out]; exact hJzn, hBe.trans hSzn.2⟩
            · go_simp; go_at_call 74; (with_reducible refine (HTab.out _ hBd).mono ?_); rintro e w6 ⟨rfl, k6, os6, hw6⟩; have hb6 := grow_below hw6; clear hw6; have hJ6 := hJd.below hb6; have z4 := hJ6.cells.2.1; (try go_wp2_with fail); refine hK.out _ _ (trivial) (fun hSb => ?_); clear hK K; (try simp only [List.getElem_toArray, List.getElem_cons_succ, List.getElem_cons_zero, Act.put, List.setIfInBounds_toArray, List.set_cons_zero, List.set_cons_succ])
              refine' wpAnyH_take (i := 3) (v := _) rfl (by kernel_rfl) (by kernel_rfl) (by kernel_rfl) (fun _ _ _ h => h) (Or.inl ⟨by rfl, fun w' hSw => ?_⟩) hSb ?_; rotate_left; (focus ((try dsimp only at hSw); go_simp <;> (with_reducible rfl))); (try simp only [List.getElem_toArray, List.getElem_cons_succ, List.getElem_cons_zero, Act.put, List.setIfInBounds_toArray, List.set_cons_zero, List.set_cons_succ])
              refine wpAnyH_ready (rs := [0, 4]) (by kernel_rfl) (by simp) ?_
              refine AllReadyH.cons rfl (fun K hK => ?_) (AllReadyH.cons rfl (fun K hK => ?_) (AllReadyH.nil))
              · go_simp; (try go_wp2_with fail); refine hK.out _ _ (trivial) (fun hSb => ?_); clear hK K; (try simp only [List.getElem_toArray, List.getElem_cons_succ, List.getElem_cons_zero, Act.put, List.setIfInBounds_toArray, List.set_cons_zero, List.set_cons_succ])
                refine wpAnyH_ready (rs := [4]) (by kernel_rfl) (by simp) ?_
                refine AllReadyH.cons rfl (fun K hK => ?_) AllReadyH.nil
                go_simp; have hJ7 := hJ6.below ((Below.refl w6.heap.size w6).alloc (Nat.le_refl _) (.cells #[.string (ByteArray.mk #[33] ++ it)] 9)); have z4' := hJ7.cells.2.1; (try go_wp2_with fail); refine hK.out _ _ (trivial) (fun hS21 => ?_); clear hK K; (try simp only [List.getElem_toArray, List.getElem_cons_succ, List.getElem_cons_zero, Act.put, List.setIfInBounds_toArray, List.set_cons_zero, List.set_cons_succ])
                refine wpAnyH_ready (rs := [5]) (by kernel_rfl) (by simp) ?_
                refine AllReadyH.cons rfl (fun K hK => ?_) AllReadyH.nil
                rw [if_pos (by rfl)]
                refine wp_append_own _ (.tmp 25) (.tmp 29) 100 rfl (w3.heap.size + 1) 9 i0 (.string ByteArray.empty) 1 16 Tryz.underlying100 hi hz0 hz1 hz2 rfl (by decide) (.slice z (out.length + 1) l) oe.length (oe.map strV) rfl hJ7.2.2.2.1 ⟨w6.heap.size, 0, none⟩ 1 1 [.string (ByteArray.mk #[33] ++ it)] rfl rfl (cell_one_new _ _ _) (by simp [Value.oneCell']) (by unfold maxLen; omega) (by omega) hJ7.2.2.2.2.2.2 ?_
                rintro vzn w9 hown9 hg9 -
                obtain ⟨m1, m2⟩ := hJ7.mid hg9
                have hJzn := hJ7.append hg9 (HIT2.out oe hown9)
                have hSzn := hJz.step hb6 hg9 vzn
                obtain ⟨z, l, rfl⟩ := row_slice hown9
                refine hK.out _ _ trivial (fun hSn => ?_); clear hK K; (try simp only [Act.put, List.setIfInBounds_toArray, List.set_cons_zero, List.set_cons_succ])
                refine wpAnyH_ready (rs := [6]) (by kernel_rfl) (by simp) ?_
                refine AllReadyH.cons rfl (fun K hK => ?_) AllReadyH.nil
                go_simp; (try go_wp2_with fail); refine hK.out _ _ (trivial) (fun hS22 => ?_); clear hK K; (try simp only [List.getElem_toArray, List.getElem_cons_succ, List.getElem_cons_zero, Act.put, List.setIfInBounds_toArray, List.set_cons_zero, List.set_cons_succ])
                refine wpAnyH_done (by kernel_rfl) (NoPanic.normal ?_) _
                exact ⟨(hKe.1.trans hSzn.1).from _, hKe.2.trans hSzn.2, _, by rw [HV.out]; exact hJzn, hBe.trans hSzn.2⟩
              · go_simp; have hJ7 := hJ6.below ((Below.refl w6.heap.size w6).alloc (Nat.le_refl _) (.cells #[.string (ByteArray.mk #[33] ++ it)] 9)); have z4' := hJ7.cells.2.1; (try go_wp2_with fail); refine hK.out _ _ (trivial) (fun hSb => ?_); clear hK K; (try simp only [List.getElem_toArray, List.getElem_cons_succ, List.getElem_cons_zero, Act.put, List.setIfInBounds_toArray, List.set_cons_zero, List.set_cons_succ])
                refine wpAnyH_ready (rs := [0]) (by kernel_rfl) (by simp) ?_
                refine AllReadyH.cons rfl (fun K hK => ?_) AllReadyH.nil
                go_simp; (try go_wp2_with fail); refine hK.out _ _ (trivial) (fun hS21 => ?_); clear hK K; (try simp only [List.getElem_toArray, List.getElem_cons_succ, List.getElem_cons_zero, Act.put, List.setIfInBounds_toArray, List.set_cons_zero, List.set_cons_succ])
                refine wpAnyH_ready (rs := [5]) (by kernel_rfl) (by simp) ?_
                refine AllReadyH.cons rfl (fun K hK => ?_) AllReadyH.nil
                rw [if_pos (by rfl)]
                refine wp_append_own _ (.tmp 25) (.tmp 29) 100 rfl (w3.heap.size + 1) 9 i0 (.string ByteArray.empty) 1 16 Tryz.underlying100 hi hz0 hz1 hz2 rfl (by decide) (.slice z (out.length + 1) l) oe.length (oe.map strV) rfl hJ7.2.2.2.1 ⟨w6.heap.size, 0, none⟩ 1 1 [.string (ByteArray.mk #[33] ++ it)] rfl rfl (cell_one_new _ _ _) (by simp [Value.oneCell']) (by unfold maxLen; omega) (by omega) hJ7.2.2.2.2.2.2 ?_
                rintro vzn w9 hown9 hg9 -
                obtain ⟨m1, m2⟩ := hJ7.mid hg9
                have hJzn := hJ7.append hg9 (HIT2.out oe hown9)
                have hSzn := hJz.step hb6 hg9 vzn
                obtain ⟨z, l, rfl⟩ := row_slice hown9
                refine hK.out _ _ trivial (fun hSn => ?_); clear hK K; (try simp only [Act.put, List.setIfInBounds_toArray, List.set_cons_zero, List.set_cons_succ])
                refine wpAnyH_ready (rs := [6]) (by kernel_rfl) (by simp) ?_
                refine AllReadyH.cons rfl (fun K hK => ?_) AllReadyH.nil
                go_simp; (try go_wp2_with fail); refine hK.out _ _ (trivial) (fun hS22 => ?_); clear hK K; (try simp only [List.getElem_toArray, List.getElem_cons_succ, List.getElem_cons_zero, Act.put, List.setIfInBounds_toArray, List.set_cons_zero, List.set_cons_succ])
                refine wpAnyH_done (by kernel_rfl) (NoPanic.normal ?_) _
                exact ⟨(hKe.1.trans hSzn.1).from _, hKe.2.trans hSzn.2, _, by rw [HV.out]; exact hJzn, hBe.trans hSzn.2⟩
  case done =>
    rintro D ys W hD hys ⟨v, hJ, hBut⟩ hK
    obtain ⟨⟨z0, z1⟩, z2, z3⟩ := hJ.cells
    have hbw : Below w.heap.size w W := hW4.trans (hBut.below (by omega) (by omega) (by omega))
    have hys' : vals ys = L := hys
    rw [hys', ← HLC.out] at hJ
    simp only [World.size_alloc] at hD
    have hown := hJ.2.2.2.1
    have hsm := lits_small HX.out
    have hll : (litsC x0).length ≤ 9000 := by
      rw [HLC.out]
      have h1 := lits_len x0 L
      have h3 := HL4.out
      omega
    have hDl : D < W.heap.size := (Array.getElem?_eq_some_iff.1 hK).1
    rcases hown.2 with ⟨rfl, hz⟩ | ⟨g, cp, cur, rfl, hg, hh, hnc, hcm, hcs, htake⟩
    · have hl0 : litsC x0 = [] := List.eq_nil_of_length_eq_zero hz
      have HTX : Hid (textC x0 = [102, 117, 108, 108]) := by show _ = _; unfold textC; rw [if_pos hl0]
      clear hown hsm hll hz hl0 hJ
      gi_wp2
      refine ⟨by simp, .inl ⟨_, _, rfl, run_takeDeferred hK, ?_⟩⟩
      refine ⟨_, results_tmp rfl _ _ _, by rw [HTX.out]; rfl, hbw.trans (belowK_b (w := w) (Nat.le_refl _) W D _ _ (by omega) hK rfl rfl)⟩
    · have hcells : Hid (∀ (i : Nat) x, ((litsC x0).map fun x => (⟨x.toArray⟩ : ByteArray))[i]? = some x → W.cell? ⟨g, 0 + i, none⟩ = some (.string x)) := by
        intro i x hx
        have h1 := hown.cells (g := g) rfl i (.string x) (by
          simp only [List.getElem?_map, Option.map_eq_some_iff] at hx ⊢
          obtain ⟨y, hy, rfl⟩ := hx
          exact ⟨y, hy, rfl⟩)
        have hadd : (⟨g, 0, none⟩ : Addr).add i = ⟨g, 0 + i, none⟩ := by unfold Addr.add; split <;> simp_all
        rwa [hadd] at h1
      have hgl : g < W.heap.size := (Array.getElem?_eq_some_iff.1 hh).1
      by_cases hl0 : litsC x0 = []
      · have HTX : Hid (textC x0 = [102, 117, 108, 108]) := by show _ = _; unfold textC; rw [if_pos hl0]
        rw [hl0] at z2 hnc
        rw [List.length_nil] at z2 hnc
        clear hown hsm hll hl0 hJ hcells hh hcs htake
        gi_wp2
        refine ⟨by simp, .inl ⟨_, _, rfl, run_takeDeferred hK, ?_⟩⟩
        refine ⟨_, results_tmp rfl _ _ _, by rw [HTX.out]; rfl, hbw.trans (belowK_b (w := w) (Nat.le_refl _) W D _ _ (by omega) hK rfl rfl)⟩
      · have HTX : Hid (textC x0 = Lib.join (litsC x0) [32]) := by show _ = _; unfold textC; rw [if_neg hl0]
        have hjl : Hid ((Lib.join (litsC x0) [32]).length ≤ 140737488355328) := by
          have := inter_len _ hsm
          show ([32].intercalate (litsC x0)).length ≤ _
          unfold List.intercalate
          omega
        have hpos : 0 < (litsC x0).length := List.length_pos_iff.2 hl0
        generalize litsC x0 = ls at z2 hnc hcells hll hjl hpos HTX
        have hne : ((ls.length : Int) == 0) = false := by rw [beq_eq_false_iff_ne]; omega
        have HJ := Lib.hid (join_shelf g cp ls W hcells hgl (by omega) hnc hjl.out)
        clear hown hsm hl0 hJ hcells hh hcs htake
        gi_wp2_with (refine ⟨trivial, ?_⟩; gi_at_call 75; refine (callsIn_wide.2 HJ.out).mono ?_; rintro e w5 ⟨rfl, hb5⟩)
        have hK5 := (hb5.block D hDl).trans hK
        refine ⟨by simp, .inl ⟨_, _, rfl, run_takeDeferred hK5, ?_⟩⟩
        refine ⟨_, results_tmp rfl _ _ _, by rw [HTX.out]; rfl, (hbw.trans (hb5.mono hbw.size)).trans (belowK_b (w := w) (Nat.le_refl _) w5 D _ _ (by omega) hK5 rfl rfl)⟩
  case stop =>
    rintro D c pre W _ _ h _
    exact h.elim
end Go.Proofs.YtadomogbakcokaaGreatDoor
end
