/- Several of the texts below, joined: CvA CvB CvC CvD CvE. -/
import Derived.Test.YtadomogbakcokaaGreatDoorQgf
import Derived.Test.YtadomogbakcokaaGreatDoorQgh
section
/- Contracts: the reference's Members; the law's Set and Make. -/
namespace Go.Proofs.YtadomogbakcokaaGreatDoor
open Go.RowKit Go.PlainAid
set_option linter.unusedVariables false
set_option linter.unusedSimpArgs false
set_option maxHeartbeats 2000000

def mems (m i : Nat) : List Nat := (List.range i).filter m.testBit
theorem mems_succ (m i : Nat) : mems m (i + 1) = mems m i ++ (if m.testBit i then [i] else []) := by
  unfold mems
  rw [List.range_succ, List.filter_append]
  cases h : m.testBit i <;> simp [h]
theorem mems_len (m i : Nat) : (mems m i).length ≤ i := Nat.le_trans (List.length_filter_le _ _) (by simp)
theorem shr_bit (m k : Nat) : ((m : Int) / 2 ^ k).tmod 2 = if m.testBit k then 1 else 0 := by
  have h1 : ((m : Int) / 2 ^ k) = ((m / 2 ^ k : Nat) : Int) := by rw [Int.natCast_ediv]; simp
  rw [h1, Nat.testBit_eq_decide_div_mod_eq, Int.tmod_eq_emod_of_nonneg (Int.natCast_nonneg _)]
  by_cases h : m / 2 ^ k % 2 = 1
  · rw [decide_eq_true h, if_pos rfl]; omega
  · rw [decide_eq_false h, if_neg (by decide)]; omega
/-- A block of one cell, and of two; behind a callee. -/
theorem boxS {w wr : World} {x : Value} {T : TypeId} (h : Below (w.alloc (.cells #[x] T)).heap.size (w.alloc (.cells #[x] T)) wr) : wr.cell? ⟨w.heap.size, 0, none⟩ = some x ∧ wr.frozen? ⟨w.heap.size, 0, none⟩ = false ∧ w.heap.size < wr.heap.size ∧ Below w.heap.size w wr :=
  ⟨(h.cell (p := ⟨w.heap.size, 0, none⟩) (by simp)).trans (by simp), (h.frozen (p := ⟨w.heap.size, 0, none⟩) (by simp)).trans (by simp), by have := h.size; simp at this; omega, bel1 h⟩
theorem boxMC {w wr : World} {x y z u : Value} {T S : TypeId} (h : Below ((w.alloc (.cells #[x, y] T)).alloc (.cells #[z, u] S)).heap.size ((w.alloc (.cells #[x, y] T)).alloc (.cells #[z, u] S)) wr) :
    wr.cell? ⟨w.heap.size, 0, none⟩ = some x ∧ wr.cell? ⟨w.heap.size, 1, none⟩ = some y ∧ wr.cell? ⟨w.heap.size + 1, 0, none⟩ = some z ∧ wr.cell? ⟨w.heap.size + 1, 1, none⟩ = some u ∧ wr.frozen? ⟨w.heap.size + 1, 0, none⟩ = false ∧ wr.frozen? ⟨w.heap.size + 1, 1, none⟩ = false ∧ w.heap.size + 2 ≤ wr.heap.size ∧ Below w.heap.size w wr := by
  obtain ⟨c0, c1, c2, c3, hz, hB⟩ := boxCC (h.mono (by simp))
  refine ⟨c0, c1, c2, c3, ?_, ?_, hz, hB⟩
  · rw [h.frozen (by simp)]
    have := World.size_alloc w (.cells #[x, y] T)
    rw [← this]; simp
  · rw [h.frozen (by simp)]
    have := World.size_alloc w (.cells #[x, y] T)
    rw [← this]; simp
theorem keepO {w : World} {a g j : Nat} (h : a ≠ g) (i : Nat) (v : Value) : (w.setCell ⟨g, j, none⟩ v).cell? ⟨a, i, none⟩ = w.cell? ⟨a, i, none⟩ := World.cell?_setCell_other _ _ _ _ (fun e => h (by injection e with e1; exact e1.symm))
set_option maxRecDepth 20000 in
theorem rmembers_any (m : Nat) (hm : m < 18446744073709551616) (w : World) : Calls Tryz.prog 48 #[.int .u64 (m : Nat)] w (RowPost w (bitsL m)) := by
  obtain ⟨i0, hif, hz0, hz1, hz2⟩ := info_parts info3i
  go_enter Tryz.func48, Tryz.ntmps48
  go_wp2_with fail
  go_loopw [3, 4] (fun v3 v4 wr => ∃ k : Nat, k ≤ 64 ∧ v4 = .int .i64 k ∧ RowI wr w.heap.size v3 (mems m k) ∧ Below w.heap.size w wr) (fun _ v _ => 64 - (intOf v).toNat)
  case atStart => exact ⟨0, by omega, rfl, RowI.nil _ _, Below.refl _ _⟩
  case round =>
    obtain ⟨k, hk, rfl, hrow, hbel⟩ := hrel
    have hzr := hbel.size
    by_cases hlt : k < 64
    · have HS := Lib.hid (mems_succ m k)
      have hol := mems_len m k
      have hbit := shr_bit m k
      have hk0 : (0 : Int) ≤ (k : Int) := Int.natCast_nonneg _
      have hk1 : (k : Int) < 64 := by omega
      generalize mems m k = out at hrow HS hol
      cases hb : m.testBit k
      · have HE : Hid (out = mems m (k + 1)) := by show _ = _; rw [HS.out, hb]; simp
        rw [hb, if_neg (by decide)] at hbit
        clear HS hb
        go_wp2_with fail
        go_roundw
        case rel => exact ⟨k + 1, by omega, by go_num, by rw [← HE.out]; exact hrow, hbel⟩
        case measure => simp [intOf]; omega
      · have HE : Hid (out ++ [k] = mems m (k + 1)) := by show _ = _; rw [HS.out, hb]; simp
        rw [hb, if_pos rfl] at hbit
        clear HS hb
        go_wp2_with (at_builtin; refine wpList_append_own _ rfl _ _ 52 rfl w.heap.size 3 i0 (.int .i64 0) 1 8 Tryz.underlying52 hif hz0 hz1 hz2 rfl (by decide) _ _ _ rfl (hrow.alloc _) ⟨wr.heap.size, 0, none⟩ 1 1 [.int .i64 ((k : Nat) : Int)] rfl rfl (cell_one_new _ _ _) (by simp [Value.oneCell']) (by unfold maxLen; omega) (by omega) (by simp; omega) ?_)
        intro v' w1 hown' hgrow _
        have hbel' := below_push (B := 0) hbel hrow hgrow
        clear hgrow hrow hbel
        go_wp2_with fail
        go_roundw
        case rel => exact ⟨k + 1, by omega, by go_num, by rw [← HE.out]; exact rowI_push hown', hbel'⟩
        case measure => simp [intOf]; omega
    · have hk64 : k = 64 := by omega
      subst hk64
      go_wp2_with fail
      go_ret
      exact ⟨_, rfl, hrow, hbel⟩
/-- The set of a mask. -/
theorem ofL_bits (m : Nat) : ofL (cs (bitsL m)) = bitsL m := ofL_self (asc_bits m)
theorem lawset_any (m : Nat) (hm : m < 18446744073709551616) (w : World) : Calls Tryz.prog 19 #[.int .u64 (m : Nat)] w (SetPost w (bitsL m)) := by
  have hl : (bitsL m).length ≤ 4096 := asc_length (asc_bits m)
  have HM := Lib.hid (fun w' => rmembers_any m hm w')
  have HO := Lib.hid (fun a n c w' (h : Iw w' a n c (cs (bitsL m))) (hn : n ≤ 1000000) => of_any a n c _ w' h hn)
  rw [ofL_bits] at HO
  generalize bitsL m = l at HM HO hl ⊢
  have hT := Lib.hid (fun w' hb => boxS (w := w) (x := .slice none 0 0) (T := 32) (wr := w') hb)
  go_enter Tryz.func19, Tryz.ntmps19
  go_wp2_with (first
    | (go_at_call 48; refine (HM.out _).mono ?_; rintro e w1 ⟨v1, rfl, hr, hb⟩; obtain ⟨a1, c1, rfl, hi⟩ := RowI.iw hr; have HB := Lib.hid hb; have HI := Lib.hid hi; clear hr hb hi)
    | (go_at_call 30; refine (HO.out _ _ _ _ HI.out (by omega)).mono ?_; rintro e w2 ⟨a2, n2, c2, rfl, hs, hb⟩; have HS := Lib.hid hs; have HB2 := Lib.hid (HB.out.trans (hb.mono HB.out.size)); obtain ⟨t0, f0, hz, hB⟩ := hT.out _ HB2.out; have HBB := Lib.hid hB; clear hs hb hB))
  refine bodyPost_ret (v := .agg #[.slice a2 n2 c2]) (by simp [results, Tryz.results19, go_sem, World.cell?_setCell_same _ _ _ t0]) rfl ?_
  exact ⟨_, _, _, rfl, HS.out.set t0 (by intro x h; cases h), HBB.out.setCell (p := ⟨w.heap.size, 0, none⟩) (Nat.le_refl _) _⟩
/-- The cube of two masks. -/
theorem lawmake_any (c : Mc) (hc : McOk c) (w : World) : Calls Tryz.prog 18 #[.agg #[.int .u64 (c.1 : Nat), .int .u64 (c.2 : Nat)]] w (CubePost w (cuM c)) := by
  obtain ⟨m1, m2⟩ := c
  obtain ⟨h1, h2⟩ := hc
  dsimp only at h1 h2 ⊢
  have H1 := Lib.hid (fun w' => lawset_any m1 h1 w')
  have H2 := Lib.hid (fun w' => lawset_any m2 h2 w')
  have HCB : Hid (∀ w' a n c b m d, Bs w' a n c (bitsL m1) → Bs w' b m d (bitsL m2) → Cb w' ⟨a, n, c, b, m, d⟩ (cuM (m1, m2))) := fun w' a n c b m d x y => ⟨x, y⟩
  obtain ⟨x, hx⟩ : ∃ x, x = cuM (m1, m2) := ⟨_, rfl⟩
  rw [← hx] at HCB ⊢
  clear hx
  have hT := Lib.hid (fun w' hb => boxMC (w := w) (x := .int .u64 (m1 : Nat)) (y := .int .u64 (m2 : Nat)) (z := .slice none 0 0) (u := .slice none 0 0) (T := 28) (S := 34) (wr := w') hb)
  generalize bitsL m1 = l1 at *
  generalize bitsL m2 = l2 at *
  obtain ⟨W0, hW0⟩ : ∃ W0, W0 = (w.alloc (.cells #[.int .u64 (m1 : Nat), .int .u64 (m2 : Nat)] 28)).alloc (.cells #[.slice none 0 0, .slice none 0 0] 34) := ⟨_, rfl⟩
  rw [← hW0] at hT
  have hB0 : Below W0.heap.size W0 W0.drew := (Below.refl _ _).drew
  obtain ⟨q0, q1, t0, t1, f0, f1, hz, hB⟩ := hT.out _ hB0
  have k0 := Lib.hid hB0
  go_enter Tryz.func18, Tryz.ntmps18
  go_wp2_with fail
  rw [← hW0]
  clear hW0 hB0
  refine wp_region_noPanic ?_
  refine region_ord (S := fun w' => w'.cell? ⟨w.heap.size, 0, none⟩ = some (.int .u64 (m1 : Nat)) ∧ w'.cell? ⟨w.heap.size, 1, none⟩ = some (.int .u64 (m2 : Nat))) [0, 1, 3, 4, 2, 5, 6, 7] (by kernel_rfl) (by decide +kernel) (fun _ _ _ _ _ h => h) (⟨q0, q1⟩) (fun _ => ?_)
  repeat (first
    | (refine ord_skip rfl rfl rfl ?_; (try simp only [Act.put, List.setIfInBounds_toArray, List.set_cons_zero, List.set_cons_succ]))
    | (refine' ord_light (v := _) rfl rfl rfl (fun w' hSw => ?_) ?_; rotate_left; (focus ((try dsimp only at hSw); go_simp <;> (with_reducible rfl))); (try simp only [Act.put, List.setIfInBounds_toArray, List.set_cons_zero, List.set_cons_succ]))
    | (refine ord_heavy rfl rfl (fun K hK => ?_); go_simp; (go_at_call 19; (with_reducible refine (H1.out _).mono ?_); rintro e w2 ⟨a2, n2, c2, rfl, hs2, hb2⟩; have k2 := Lib.hid (k0.out.trans (hb2.mono k0.out.size)); have z2 := hb2.size; clear q0 q1 t0 t1 f0 f1 hz hB hb2; obtain ⟨q0, q1, t0, t1, f0, f1, hz, hB⟩ := hT.out _ k2.out; clear H1); (try go_wp2_with fail); refine hK.out _ _ (by first | exact ⟨q0, q1⟩ | exact ⟨(keepO (by omega) _ _).trans ((keepO (by omega) _ _).trans q0), (keepO (by omega) _ _).trans ((keepO (by omega) _ _).trans q1)⟩) ?_; clear hK K; (try simp only [Act.put, List.setIfInBounds_toArray, List.set_cons_zero, List.set_cons_succ]))
    | (refine ord_heavy rfl rfl (fun K hK => ?_); go_simp; (go_at_call 19; (with_reducible refine (H2.out _).mono ?_); rintro e w3 ⟨a3, n3, c3, rfl, hs3, hb3⟩; have k3 := Lib.hid (k2.out.trans (hb3.mono k2.out.size)); have hs2 := hs2.below hb3; clear q0 q1 t0 t1 f0 f1 hz hB hb3; obtain ⟨q0, q1, t0, t1, f0, f1, hz, hB⟩ := hT.out _ k3.out; clear H2); (try go_wp2_with fail); refine hK.out _ _ (by first | exact ⟨q0, q1⟩ | exact ⟨(keepO (by omega) _ _).trans ((keepO (by omega) _ _).trans q0), (keepO (by omega) _ _).trans ((keepO (by omega) _ _).trans q1)⟩) ?_; clear hK K; (try simp only [Act.put, List.setIfInBounds_toArray, List.set_cons_zero, List.set_cons_succ]))
    | (refine ord_heavy rfl rfl (fun K hK => ?_); go_simp; (try go_wp2_with fail); refine hK.out _ _ (by first | exact ⟨q0, q1⟩ | exact ⟨(keepO (by omega) _ _).trans ((keepO (by omega) _ _).trans q0), (keepO (by omega) _ _).trans ((keepO (by omega) _ _).trans q1)⟩) ?_; clear hK K; (try simp only [Act.put, List.setIfInBounds_toArray, List.set_cons_zero, List.set_cons_succ])))
  refine ord_nil (NoPanic.normal ?_)
  obtain ⟨cs0, cs1⟩ := stw2 (u := .slice a2 n2 c2) (v := .slice a3 n3 c3) t0 t1
  go_wp2_with fail
  refine bodyPost_ret (v := .agg #[.slice a2 n2 c2, .slice a3 n3 c3]) (by simp [results, Tryz.results18, go_sem, cs0, cs1]) rfl ?_
  exact ⟨_, _, _, _, _, _, rfl, Cb.st2 (HCB.out _ _ _ _ _ _ _ hs2 hs3) t0 t1 _ _, (hB.setCell (p := ⟨w.heap.size + 1, 0, none⟩) (show w.heap.size ≤ w.heap.size + 1 by omega) _).setCell (p := ⟨w.heap.size + 1, 1, none⟩) (show w.heap.size ≤ w.heap.size + 1 by omega) _⟩
end Go.Proofs.YtadomogbakcokaaGreatDoor
end

section
/- The reference's cubes in memory; contracts of its Holds, Empty, Some, Within, Covered, Count; of the law's MakeAll, mentioned. -/
namespace Go.Proofs.YtadomogbakcokaaGreatDoor
open Go.RowKit Go.PlainAid
set_option linter.unusedVariables false
set_option linter.unusedSimpArgs false
set_option maxHeartbeats 2000000

def mcE : Enc Mc 2 := ⟨fun c => [.int .u64 (c.1 : Nat), .int .u64 (c.2 : Nat)], fun _ => rfl, fun c u hu => by
  simp at hu
  rcases hu with rfl | rfl <;> rfl⟩
/-- The slice holds the reference's cubes l. -/
def Ms (w : World) (a : Option Addr) (n cap : Nat) (l : List Mc) : Prop := Dk mcE w a n cap l ∧ ∀ c ∈ l, McOk c
theorem Ms.below {w w' : World} {a : Option Addr} {n cap : Nat} {l : List Mc} (h : Ms w a n cap l) (hb : Below w.heap.size w w') : Ms w' a n cap l := ⟨h.1.below hb, h.2⟩
theorem Ms.len {w : World} {a : Option Addr} {n cap : Nat} {l : List Mc} (h : Ms w a n cap l) : l.length = n := h.1.1
theorem Ms.caps {w : World} {a : Option Addr} {n cap : Nat} {l : List Mc} (h : Ms w a n cap l) : n ≤ cap ∧ cap ≤ 9223372036854775807 := ⟨h.1.2.1, h.1.2.2.1⟩
theorem Ms.at {w : World} {a : Option Addr} {n cap j : Nat} {l : List Mc} {x : Mc} (h : Ms w a n cap l) (hx : l[j]? = some x) :
    ∃ b o, a = some ⟨b, o, none⟩ ∧ b < w.heap.size ∧ w.cell? ⟨b, o + j * 2, none⟩ = some (.int .u64 (x.1 : Nat)) ∧ w.cell? ⟨b, o + j * 2 + 1, none⟩ = some (.int .u64 (x.2 : Nat)) ∧ McOk x := by
  obtain ⟨b, o, e, hb, hcell⟩ := h.1.at hx
  exact ⟨b, o, e, hb, hcell 0 _ rfl, hcell 1 _ rfl, h.2 x (List.mem_of_getElem? hx)⟩
theorem rholds_any (c : Mc) (s : Nat) (hc : McOk c) (hs : s < 18446744073709551616) (w : World) :
    Calls Tryz.prog 20 #[.agg #[.int .u64 (c.1 : Nat), .int .u64 (c.2 : Nat)], .int .u64 (s : Nat)] w (BoolPost w (holdsM c s)) := by
  obtain ⟨m1, m2⟩ := c
  obtain ⟨h1, h2⟩ := hc
  dsimp only at h1 h2 ⊢
  have e1 := u64_and_nat s m1 hs h1
  have e2 := u64_and_nat s m2 hs h2
  have HE : Hid (holdsM (m1, m2) s = ((s &&& m1 == m1) && (s &&& m2 == 0))) := rfl
  generalize holdsM (m1, m2) s = t at HE ⊢
  generalize s &&& m1 = p at e1 HE
  generalize s &&& m2 = q at e2 HE
  cases hp : (p == m1)
  · have b1 : ((p : Int) == (m1 : Int)) = false := by rw [beq_eq_false_iff_ne] at hp ⊢; omega
    have HT : Hid (t = false) := by show _ = _; rw [HE.out, hp]; rfl
    clear HE hp e2
    go_enter Tryz.func20, Tryz.ntmps20
    go_wp2_with fail
    go_ret
    exact ⟨ret_bool HT.out.symm, by go_grown⟩
  · have b1 : ((p : Int) == (m1 : Int)) = true := by rw [beq_iff_eq] at hp ⊢; omega
    cases hq : (q == 0)
    · have b2 : ((q : Int) == 0) = false := by rw [beq_eq_false_iff_ne] at hq ⊢; omega
      have HT : Hid (t = false) := by show _ = _; rw [HE.out, hp, hq]; rfl
      clear HE hp hq
      go_enter Tryz.func20, Tryz.ntmps20
      go_wp2_with fail
      go_ret
      exact ⟨ret_bool HT.out.symm, by go_grown⟩
    · have b2 : ((q : Int) == 0) = true := by rw [beq_iff_eq] at hq ⊢; omega
      have HT : Hid (t = true) := by show _ = _; rw [HE.out, hp, hq]; rfl
      clear HE hp hq
      go_enter Tryz.func20, Tryz.ntmps20
      go_wp2_with fail
      go_ret
      exact ⟨ret_bool HT.out.symm, by go_grown⟩
theorem rempty_any (c : Mc) (hc : McOk c) (w : World) :
    Calls Tryz.prog 22 #[.agg #[.int .u64 (c.1 : Nat), .int .u64 (c.2 : Nat)]] w (BoolPost w (emptyM c)) := by
  obtain ⟨m1, m2⟩ := c
  obtain ⟨h1, h2⟩ := hc
  dsimp only at h1 h2 ⊢
  have e1 := u64_and_nat m1 m2 h1 h2
  have HE : Hid (emptyM (m1, m2) = ((m1 &&& m2) != 0)) := rfl
  generalize emptyM (m1, m2) = t at HE ⊢
  generalize m1 &&& m2 = p at e1 HE
  have HT : Hid (((p : Int) != 0) = t) := by
    show _ = _
    rw [HE.out, Bool.eq_iff_iff, bne_iff_ne, bne_iff_ne]; omega
  generalize hb : ((p : Int) != 0) = b at HT
  clear HE
  go_enter Tryz.func22, Tryz.ntmps22
  go_wp2_with fail
  go_ret
  exact ⟨ret_bool HT.out, by go_grown⟩
theorem take_snocV {α : Type} {l : List α} {j : Nat} {x : α} (h : l[j]? = some x) : l.take (j + 1) = l.take j ++ [x] := by
  obtain ⟨h1, h2⟩ := List.getElem?_eq_some_iff.1 h
  rw [List.take_succ_eq_append_getElem h1, h2]
theorem some_pre {l : List Mc} {s j : Nat} {x : Mc} (hx : l[j]? = some x) (h : holdsM x s = true) : someM l s = true := by
  unfold someM
  exact List.any_eq_true.2 ⟨x, List.mem_of_getElem? hx, h⟩
theorem some_none {l : List Mc} {s : Nat} (h : ∀ (i : Nat) y, l[i]? = some y → holdsM y s = false) : someM l s = false := by
  unfold someM
  rw [List.any_eq_false]
  intro x hx
  obtain ⟨i, hi⟩ := List.mem_iff_getElem?.1 hx
  rw [h i x hi]; decide
set_option maxRecDepth 20000 in
theorem rsome_any (a : Option Addr) (n cap : Nat) (l : List Mc) (s : Nat) (hs : s < 18446744073709551616) (w : World) (h : Ms w a n cap l) :
    Calls Tryz.prog 25 #[.slice a n cap, .int .u64 (s : Nat)] w (BoolPost w (someM l s)) := by
  have HL := Lib.hid h.len
  have HC := Lib.hid h
  obtain ⟨hnc, hcm⟩ := h.caps
  have HH := Lib.hid (fun x w' (hx : McOk x) => rholds_any x s hx hs w')
  clear h
  go_enter Tryz.func25, Tryz.ntmps25
  go_wp2_with fail
  go_loopw [9] (fun v wr => ∃ j : Nat, j ≤ n ∧ v = .int .i64 j ∧ Hid (∀ i y, i < j → l[i]? = some y → holdsM y s = false) ∧ Below w.heap.size w wr) (fun v _ => n - (intOf v).toNat)
  case atStart => exact ⟨0, Nat.zero_le _, rfl, fun i y hi => by omega, Below.refl _ _⟩
  case round =>
    obtain ⟨j, hj, rfl, hpre, hB⟩ := hrel
    have hzr := hB.size
    by_cases hjn : j < n
    · obtain ⟨x, hx⟩ : ∃ x, l[j]? = some x := ⟨_, List.getElem?_eq_getElem (by rw [HL.out]; exact hjn)⟩
      obtain ⟨bb, oo, rfl, hbl, x0, x1, hxo⟩ := (HC.out.below hB).at hx
      have hcall := Lib.hid (fun w' => HH.out x w' hxo)
      have hj0 : (0 : Int) ≤ (j : Int) := Int.natCast_nonneg _
      have hj1 : (j : Int) < (n : Int) := by omega
      have HX := Lib.hid hx
      have HN : Hid (holdsM x s = false → ∀ i y, i < j + 1 → l[i]? = some y → holdsM y s = false) := fun ht i y hi hy => by
        by_cases hij : i < j
        · exact hpre.out i y hij hy
        · have : i = j := by omega
          subst this
          rw [HX.out] at hy
          cases hy; exact ht
      have HY : Hid (holdsM x s = true → someM l s = true) := fun ht => some_pre HX.out ht
      obtain ⟨m1, m2⟩ := x
      dsimp only at x0 x1
      clear hx hxo
      generalize holdsM (m1, m2) s = t at hcall HN HY
      cases t
      · go_wp2_with (go_at_call 20; refine (hcall.out _).mono ?_; rintro r w1 ⟨rfl, hb1⟩; have HB1 := Lib.hid (bel1 hb1); clear hb1)
        go_roundw
        case rel => exact ⟨j + 1, by omega, by go_num, HN.out trivial, hB.trans (HB1.out.mono hzr)⟩
        case measure => simp [intOf]; omega
      · go_wp2_with (go_at_call 20; refine (hcall.out _).mono ?_; rintro r w1 ⟨rfl, hb1⟩; have HB1 := Lib.hid (bel1 hb1); clear hb1)
        go_ret
        exact ⟨ret_bool (HY.out trivial).symm, hB.trans (HB1.out.mono hzr)⟩
    · have hjn' : j = n := by omega
      have HN := Lib.hid (some_none (l := l) (s := s) (fun i y hy => hpre.out i y (by have := (List.getElem?_eq_some_iff.1 hy).1; rw [HL.out] at this; omega) hy))
      go_wp2_with fail
      go_ret
      exact ⟨ret_bool HN.out.symm, hB⟩
/-- The cubes of the reference's. -/
def RowCo (w : World) (l : List Cu) (e : Ending) (w' : World) : Prop := ∃ v, e = .returned v ∧ Co w' w.heap.size v l ∧ Below w.heap.size w w'
set_option maxRecDepth 20000 in
theorem makeAll_any (a : Option Addr) (n cap : Nat) (l : List Mc) (w : World) (h : Ms w a n cap l) (hn : n ≤ 1000000) :
    Calls Tryz.prog 24 #[.slice a n cap] w (RowCo w (l.map cuM)) := by
  have HL := Lib.hid h.len
  have HC := Lib.hid h
  obtain ⟨hnc, hcm⟩ := h.caps
  have HM := Lib.hid (fun x w' (hx : McOk x) => lawmake_any x hx w')
  clear h
  go_enter Tryz.func24, Tryz.ntmps24
  go_wp2_with fail
  go_loopw [3, 8] (fun v3 v wr => ∃ (j : Nat) (out : List Cu), j ≤ n ∧ v = .int .i64 j ∧ out.length ≤ j ∧ Hid (out = (l.take j).map cuM) ∧ Hid (Co wr w.heap.size v3 out) ∧ Hid (Below w.heap.size w wr)) (fun _ v _ => n - (intOf v).toNat)
  case atStart => exact ⟨0, [], Nat.zero_le _, rfl, Nat.le_refl _, by show _ = _; simp, Co.nil _ _, Below.refl _ _⟩
  case round =>
    obtain ⟨j, out, hj, rfl, hol, hout, hco, hB⟩ := hrel
    have hzr := hB.out.size
    by_cases hjn : j < n
    · obtain ⟨x, hx⟩ : ∃ x, l[j]? = some x := ⟨_, List.getElem?_eq_getElem (by rw [HL.out]; exact hjn)⟩
      obtain ⟨bb, oo, rfl, hbl, x0, x1, hxo⟩ := (HC.out.below hB.out).at hx
      have hcall := Lib.hid (fun w' => HM.out x w' hxo)
      have hj0 : (0 : Int) ≤ (j : Int) := Int.natCast_nonneg _
      have hj1 : (j : Int) < (n : Int) := by omega
      have HO : Hid (out ++ [cuM x] = (l.take (j + 1)).map cuM) := by show _ = _; rw [take_snocV hx, List.map_append, hout.out]; rfl
      obtain ⟨m1, m2⟩ := x
      dsimp only at x0 x1
      clear hx hxo hout
      obtain ⟨y, hy⟩ : ∃ y, y = cuM (m1, m2) := ⟨_, rfl⟩
      rw [← hy] at hcall HO
      have hol2 : (out ++ [y]).length ≤ j + 1 := by simp; omega
      have hob : out.length + 1 ≤ 1000000000 := by omega
      have HOL := Lib.hid hol2
      clear hy hol2
      obtain ⟨oa, on, oc, rfl, -, -⟩ := hco.out.dn
      go_wp2_with (first
        | (go_at_call 18; refine (hcall.out _).mono ?_; rintro r w1 ⟨ca, cn, cc, cb, cm, cd, rfl, hcb, hb1⟩; have HB1 := Lib.hid (bel1 hb1); have hco2 := hco.out.below HB1.out; have hCO := Lib.hid (Cs.one w1 ca cb cn cc cm cd y hcb _ rfl); have hz1 := HB1.out.size; clear hb1 hcb)
        | (at_builtin; refine wpList_append_co rfl (.tmp 12) (.tmp 15) rfl w.heap.size _ out rfl (hco2.below ((Below.refl _ _).alloc (Nat.le_refl _) _)) _ 1 1 [y] rfl hCO.out hob (by simp; omega) ?_; intro v6 w6 hown6 hg6; have HO6 := Lib.hid hown6; have HB6 := Lib.hid (((hB.out.trans (HB1.out.mono hzr)).alloc (by omega) (.cells #[.slice ca cn cc, .slice cb cm cd] 34)).grown hg6 (by simp; omega) (fun k hk => (hco2.lt k hk).1)); clear hown6 hg6))
      go_roundw
      case rel => exact ⟨j + 1, out ++ [y], by omega, by go_num, HOL.out, HO.out, HO6.out, HB6.out⟩
      case measure => simp [intOf]; omega
    · have HE : Hid (out = l.map cuM) := by show _ = _; rw [hout.out, List.take_of_length_le (by rw [HL.out]; omega)]
      go_wp2_with fail
      go_ret
      rw [← HE.out]
      exact ⟨_, rfl, hco.out, hB.out⟩
end Go.Proofs.YtadomogbakcokaaGreatDoor
end

section
/- Contracts of the reference: Within, Covered, Count. -/
namespace Go.Proofs.YtadomogbakcokaaGreatDoor
open Go.RowKit Go.PlainAid
set_option linter.unusedVariables false
set_option linter.unusedSimpArgs false
set_option maxHeartbeats 2000000

theorem allR_t {n : Nat} {p : Nat → Bool} (h : ∀ i, i < n → p i = true) : (List.range n).all p = true := by
  rw [List.all_eq_true]; exact fun x hx => h x (List.mem_range.1 hx)
theorem allR_f {n i : Nat} {p : Nat → Bool} (hi : i < n) (h : p i = false) : (List.range n).all p = false := by
  rw [List.all_eq_false]; exact ⟨i, List.mem_range.2 hi, by rw [h]; decide⟩
def inW (a b : Mc) (i : Nat) : Bool := !(holdsM a i && !holdsM b i)
theorem withinM_eq (a b : Mc) : withinM a b = (List.range 256).all (inW a b) := rfl
set_option maxRecDepth 20000 in
theorem rwithin_any (x y : Mc) (hx : McOk x) (hy : McOk y) (w : World) :
    Calls Tryz.prog 38 #[.agg #[.int .u64 (x.1 : Nat), .int .u64 (x.2 : Nat)], .agg #[.int .u64 (y.1 : Nat), .int .u64 (y.2 : Nat)]] w (BoolPost w (withinM x y)) := by
  have HX := Lib.hid (fun s (hs : s < 256) w' => rholds_any x s hx (by omega) w')
  have HY := Lib.hid (fun s (hs : s < 256) w' => rholds_any y s hy (by omega) w')
  have HW := Lib.hid (withinM_eq x y)
  have HI : Hid (∀ i, inW x y i = !(holdsM x i && !holdsM y i)) := fun i => rfl
  generalize withinM x y = t at HW ⊢
  generalize inW x y = q at HW HI
  obtain ⟨m1, m2⟩ := x
  obtain ⟨k1, k2⟩ := y
  generalize holdsM (m1, m2) = p1 at HX HI
  generalize holdsM (k1, k2) = p2 at HY HI
  dsimp only at HX HY ⊢
  clear hx hy
  obtain ⟨W0, hW0⟩ : ∃ W0, W0 = (w.alloc (.cells #[.int .u64 (m1 : Nat), .int .u64 (m2 : Nat)] 28)).alloc (.cells #[.int .u64 (k1 : Nat), .int .u64 (k2 : Nat)] 28) := ⟨_, rfl⟩
  have hT : Hid (∀ w', Below (w.heap.size + 2) W0 w' → w'.cell? ⟨w.heap.size, 0, none⟩ = some (.int .u64 (m1 : Nat)) ∧ w'.cell? ⟨w.heap.size, 1, none⟩ = some (.int .u64 (m2 : Nat)) ∧ w'.cell? ⟨w.heap.size + 1, 0, none⟩ = some (.int .u64 (k1 : Nat)) ∧ w'.cell? ⟨w.heap.size + 1, 1, none⟩ = some (.int .u64 (k2 : Nat)) ∧ w.heap.size + 2 ≤ w'.heap.size ∧ Below w.heap.size w w') := fun w' hb => by
    rw [hW0] at hb
    exact boxCC hb
  go_enter Tryz.func38, Tryz.ntmps38
  go_wp2_with fail
  rw [← hW0]
  clear hW0
  go_loopw [5] (fun v wr => ∃ s : Nat, s ≤ 256 ∧ v = .int .u64 s ∧ Hid (∀ i, i < s → q i = true) ∧ Hid (Below (w.heap.size + 2) W0 wr)) (fun v _ => 256 - (intOf v).toNat)
  case atStart => exact ⟨0, Nat.zero_le _, rfl, fun i hi => by omega, Below.refl _ _⟩
  case round =>
    obtain ⟨s, hs, rfl, hpre, hB⟩ := hrel
    obtain ⟨c0, c1, c2, c3, hz, hBw⟩ := hT.out _ hB.out
    have HBW := Lib.hid hBw
    clear hBw
    by_cases hs2 : s < 256
    · have hs3 : (s : Int) < 256 := by omega
      have h1 := Lib.hid (HX.out s hs2)
      have h2 := Lib.hid (HY.out s hs2)
      have h3 := Lib.hid (HI.out s)
      have HN : Hid (q s = true → ∀ i, i < s + 1 → q i = true) := fun ht i hi => by
        by_cases hij : i < s
        · exact hpre.out i hij
        · obtain rfl : i = s := by omega
          exact ht
      have HF : Hid (q s = false → t = false) := fun hf => by rw [HW.out]; exact allR_f hs2 hf
      generalize p1 s = u1 at h1 h3
      generalize p2 s = u2 at h2 h3
      cases u1
      · have h4 := Lib.hid (HN.out h3.out)
        go_wp2_with (go_at_call 20; refine (h1.out _).mono ?_; rintro r w1 ⟨rfl, hb1⟩; have HB1 := Lib.hid (hB.out.trans (hb1.mono hz)); clear hb1)
        go_roundw
        case rel => exact ⟨s + 1, by omega, by go_num, h4.out, HB1.out⟩
        case measure => simp [intOf]; omega
      · cases u2
        · have h4 := Lib.hid (HF.out h3.out)
          go_wp2_with (first
            | (go_at_call 20; (with_reducible refine (h1.out _).mono ?_); rintro r w1 ⟨rfl, hb1⟩; have HB1 := Lib.hid (hB.out.trans (hb1.mono hz)); clear hb1; clear c0 c1 c2 c3 hz HBW; obtain ⟨c0, c1, c2, c3, hz, hBw⟩ := hT.out _ HB1.out; have HBW := Lib.hid hBw; clear hBw)
            | (go_at_call 20; (with_reducible refine (h2.out _).mono ?_); rintro r w2 ⟨rfl, hb1⟩; have HB2 := Lib.hid (HBW.out.trans (hb1.mono HBW.out.size)); clear hb1))
          go_ret
          exact ⟨ret_bool h4.out.symm, HB2.out⟩
        · have h4 := Lib.hid (HN.out h3.out)
          go_wp2_with (first
            | (go_at_call 20; (with_reducible refine (h1.out _).mono ?_); rintro r w1 ⟨rfl, hb1⟩; have HB1 := Lib.hid (hB.out.trans (hb1.mono hz)); clear hb1; clear c0 c1 c2 c3 hz HBW; obtain ⟨c0, c1, c2, c3, hz, hBw⟩ := hT.out _ HB1.out; have HBW := Lib.hid hBw; clear hBw)
            | (go_at_call 20; (with_reducible refine (h2.out _).mono ?_); rintro r w2 ⟨rfl, hb1⟩; have HB2 := Lib.hid (HB1.out.trans (hb1.mono hz)); clear hb1))
          go_roundw
          case rel => exact ⟨s + 1, by omega, by go_num, h4.out, HB2.out⟩
          case measure => simp [intOf]; omega
    · have HE : Hid (t = true) := by
        show _ = _
        rw [HW.out]; exact allR_t (fun i hi => hpre.out i (by omega))
      have hs3 : s = 256 := by omega
      subst hs3
      go_wp2_with fail
      go_ret
      exact ⟨ret_bool HE.out.symm, HBW.out⟩
def inC (c : Mc) (l : List Mc) (i : Nat) : Bool := !(holdsM c i && !someM l i)
theorem coveredM_eq (c : Mc) (l : List Mc) : coveredM c l = (List.range 256).all (inC c l) := rfl
set_option maxRecDepth 20000 in
theorem rcovered_any (x : Mc) (hx : McOk x) (a : Option Addr) (n cap : Nat) (l : List Mc) (w : World) (h : Ms w a n cap l) :
    Calls Tryz.prog 52 #[.agg #[.int .u64 (x.1 : Nat), .int .u64 (x.2 : Nat)], .slice a n cap] w (BoolPost w (coveredM x l)) := by
  have HX := Lib.hid (fun s (hs : s < 256) w' => rholds_any x s hx (by omega) w')
  have HY := Lib.hid (fun s (hs : s < 256) w' (hb : Below w.heap.size w w') => rsome_any a n cap l s (by omega) w' (h.below hb))
  have HW := Lib.hid (coveredM_eq x l)
  have HI : Hid (∀ i, inC x l i = !(holdsM x i && !someM l i)) := fun i => rfl
  generalize coveredM x l = t at HW ⊢
  generalize inC x l = q at HW HI
  obtain ⟨m1, m2⟩ := x
  generalize holdsM (m1, m2) = p1 at HX HI
  generalize someM l = p2 at HY HI
  dsimp only at HX HY ⊢
  clear hx h
  obtain ⟨W0, hW0⟩ : ∃ W0, W0 = w.alloc (.cells #[.int .u64 (m1 : Nat), .int .u64 (m2 : Nat)] 28) := ⟨_, rfl⟩
  have hT : Hid (∀ w', Below (w.heap.size + 1) W0 w' → w'.cell? ⟨w.heap.size, 0, none⟩ = some (.int .u64 (m1 : Nat)) ∧ w'.cell? ⟨w.heap.size, 1, none⟩ = some (.int .u64 (m2 : Nat)) ∧ w.heap.size < w'.heap.size ∧ Below w.heap.size w w') := fun w' hb => by
    rw [hW0] at hb
    exact boxC (hb.mono (by simp))
  go_enter Tryz.func52, Tryz.ntmps52
  go_wp2_with fail
  rw [← hW0]
  clear hW0
  go_loopw [5] (fun v wr => ∃ s : Nat, s ≤ 256 ∧ v = .int .u64 s ∧ Hid (∀ i, i < s → q i = true) ∧ Hid (Below (w.heap.size + 1) W0 wr)) (fun v _ => 256 - (intOf v).toNat)
  case atStart => exact ⟨0, Nat.zero_le _, rfl, fun i hi => by omega, Below.refl _ _⟩
  case round =>
    obtain ⟨s, hs, rfl, hpre, hB⟩ := hrel
    obtain ⟨c0, c1, hz, hBw⟩ := hT.out _ hB.out
    have HBW := Lib.hid hBw
    clear hBw
    by_cases hs2 : s < 256
    · have hs3 : (s : Int) < 256 := by omega
      have h1 := Lib.hid (HX.out s hs2)
      have h2 := Lib.hid (HY.out s hs2)
      have h3 := Lib.hid (HI.out s)
      have HN : Hid (q s = true → ∀ i, i < s + 1 → q i = true) := fun ht i hi => by
        by_cases hij : i < s
        · exact hpre.out i hij
        · obtain rfl : i = s := by omega
          exact ht
      have HF : Hid (q s = false → t = false) := fun hf => by rw [HW.out]; exact allR_f hs2 hf
      generalize p1 s = u1 at h1 h3
      generalize p2 s = u2 at h2 h3
      cases u1
      · have h4 := Lib.hid (HN.out h3.out)
        go_wp2_with (go_at_call 20; refine (h1.out _).mono ?_; rintro r w1 ⟨rfl, hb1⟩; have HB1 := Lib.hid (hB.out.trans (hb1.mono hz)); clear hb1)
        go_roundw
        case rel => exact ⟨s + 1, by omega, by go_num, h4.out, HB1.out⟩
        case measure => simp [intOf]; omega
      · cases u2
        · have h4 := Lib.hid (HF.out h3.out)
          go_wp2_with (first
            | (go_at_call 20; refine (h1.out _).mono ?_; rintro r w1 ⟨rfl, hb1⟩; have HB1 := Lib.hid (hB.out.trans (hb1.mono hz)); clear hb1; clear c0 c1 hz HBW; obtain ⟨c0, c1, hz, hBw⟩ := hT.out _ HB1.out; have HBW := Lib.hid hBw; clear hBw)
            | (go_at_call 25; refine (h2.out _ HBW.out).mono ?_; rintro r w2 ⟨rfl, hb1⟩; have HB2 := Lib.hid (HBW.out.trans (hb1.mono HBW.out.size)); clear hb1))
          go_ret
          exact ⟨ret_bool h4.out.symm, HB2.out⟩
        · have h4 := Lib.hid (HN.out h3.out)
          go_wp2_with (first
            | (go_at_call 20; refine (h1.out _).mono ?_; rintro r w1 ⟨rfl, hb1⟩; have HB1 := Lib.hid (hB.out.trans (hb1.mono hz)); clear hb1; clear c0 c1 hz HBW; obtain ⟨c0, c1, hz, hBw⟩ := hT.out _ HB1.out; have HBW := Lib.hid hBw; clear hBw)
            | (go_at_call 25; refine (h2.out _ HBW.out).mono ?_; rintro r w2 ⟨rfl, hb1⟩; have HB2 := Lib.hid (HB1.out.trans (hb1.mono hz)); clear hb1))
          go_roundw
          case rel => exact ⟨s + 1, by omega, by go_num, h4.out, HB2.out⟩
          case measure => simp [intOf]; omega
    · have HE : Hid (t = true) := by
        show _ = _
        rw [HW.out]; exact allR_t (fun i hi => hpre.out i (by omega))
      have hs3 : s = 256 := by omega
      subst hs3
      go_wp2_with fail
      go_ret
      exact ⟨ret_bool HE.out.symm, HBW.out⟩
def inN (l : List Mc) (over i : Nat) : Bool := (i &&& over == i) && someM l i
def cntTo (p : Nat → Bool) (n : Nat) : Nat := ((List.range n).filter p).length
theorem cntTo_succ (p : Nat → Bool) (n : Nat) : cntTo p (n + 1) = cntTo p n + (if p n then 1 else 0) := by
  unfold cntTo
  rw [List.range_succ, List.filter_append, List.length_append]
  cases h : p n <;> simp [h]
theorem cntTo_le (p : Nat → Bool) (n : Nat) : cntTo p n ≤ n := by
  unfold cntTo
  exact Nat.le_trans (List.length_filter_le _ _) (by simp)
theorem countM_eq (l : List Mc) (over : Nat) : countM l over = cntTo (inN l over) 256 := rfl
set_option maxRecDepth 20000 in
theorem rcount_any (over : Nat) (ho : over < 18446744073709551616) (a : Option Addr) (n cap : Nat) (l : List Mc) (w : World) (h : Ms w a n cap l) :
    Calls Tryz.prog 34 #[.slice a n cap, .int .u64 (over : Nat)] w (IntPost w (countM l over : Nat)) := by
  have HY := Lib.hid (fun s (hs : s < 256) w' (hb : Below w.heap.size w w') => rsome_any a n cap l s (by omega) w' (h.below hb))
  have HA := Lib.hid (fun s (hs : s < 256) => u64_and_nat s over (by omega) ho)
  have HW := Lib.hid (countM_eq l over)
  have HI : Hid (∀ i, inN l over i = ((i &&& over == i) && someM l i)) := fun i => rfl
  generalize countM l over = t at HW ⊢
  generalize inN l over = q at HW HI
  generalize someM l = p2 at HY HI
  have HS := Lib.hid (cntTo_succ q)
  have HLE := Lib.hid (cntTo_le q)
  clear h
  go_enter Tryz.func34, Tryz.ntmps34
  go_wp2_with fail
  go_loopw [5, 6] (fun v5 v wr => ∃ s : Nat, s ≤ 256 ∧ v = .int .u64 s ∧ v5 = .int .i64 (cntTo q s : Nat) ∧ Hid (Below w.heap.size w wr)) (fun _ v _ => 256 - (intOf v).toNat)
  case atStart => exact ⟨0, Nat.zero_le _, rfl, rfl, Below.refl _ _⟩
  case round =>
    obtain ⟨s, hs, rfl, rfl, hB⟩ := hrel
    have hz := hB.out.size
    by_cases hs2 : s < 256
    · have hs3 : (s : Int) < 256 := by omega
      have h1 := HA.out s hs2
      have h2 := Lib.hid (HY.out s hs2)
      have h3 := Lib.hid (HI.out s)
      have h4 := Lib.hid (HS.out s)
      have h5 := HLE.out s
      generalize cntTo q s = c0 at h4 h5
      generalize s &&& over = b at h1 h3
      generalize p2 s = u2 at h2 h3
      cases hbs : (b == s)
      · have b1 : ((b : Int) == (s : Int)) = false := by rw [beq_eq_false_iff_ne] at hbs ⊢; omega
        have h6 : Hid (c0 = cntTo q (s + 1)) := by show _ = _; rw [h4.out, h3.out, hbs]; rfl
        clear h3 h4 hbs
        go_wp2_with fail
        go_roundw
        case rel => exact ⟨s + 1, by omega, by go_num, by rw [h6.out], hB.out⟩
        case measure => simp [intOf]; omega
      · have b1 : ((b : Int) == (s : Int)) = true := by rw [beq_iff_eq] at hbs ⊢; omega
        cases u2
        · have h6 : Hid (c0 = cntTo q (s + 1)) := by show _ = _; rw [h4.out, h3.out, hbs]; rfl
          clear h3 h4 hbs
          go_wp2_with (go_at_call 25; refine (h2.out _ hB.out).mono ?_; rintro r w2 ⟨rfl, hb1⟩; have HB2 := Lib.hid (hB.out.trans (hb1.mono hz)); clear hb1)
          go_roundw
          case rel => exact ⟨s + 1, by omega, by go_num, by rw [h6.out], HB2.out⟩
          case measure => simp [intOf]; omega
        · have h6 : Hid (c0 + 1 = cntTo q (s + 1)) := by show _ = _; rw [h4.out, h3.out, hbs]; rfl
          clear h3 h4 hbs
          go_wp2_with (go_at_call 25; refine (h2.out _ hB.out).mono ?_; rintro r w2 ⟨rfl, hb1⟩; have HB2 := Lib.hid (hB.out.trans (hb1.mono hz)); clear hb1)
          go_roundw
          case rel => exact ⟨s + 1, by omega, by go_num, by rw [← h6.out]; go_num, HB2.out⟩
          case measure => simp [intOf]; omega
    · have hs3 : s = 256 := by omega
      subst hs3
      rw [← HW.out]
      go_wp2_with fail
      go_ret
      exact ⟨rfl, hB.out⟩
end Go.Proofs.YtadomogbakcokaaGreatDoor
end

section
/- Contracts of the reference: Make, Fit, List. -/
namespace Go.Proofs.YtadomogbakcokaaGreatDoor
open Go.RowKit Go.PlainAid
set_option linter.unusedVariables false
set_option linter.unusedSimpArgs false
set_option maxHeartbeats 2000000

theorem u8_and_nat (a b : Nat) (ha : a < 256) (hb : b < 256) : bits .and .u8 (a : Int) (b : Int) = ((a &&& b : Nat) : Int) := by
  have hx : a &&& b < 2 ^ 8 := Nat.and_lt_two_pow _ (by omega)
  have h1 : (BitVec.ofInt 8 (a : Int)).toNat = a := by
    rw [BitVec.ofInt_natCast, BitVec.toNat_ofNat]; exact Nat.mod_eq_of_lt (by omega)
  have h2 : (BitVec.ofInt 8 (b : Int)).toNat = b := by
    rw [BitVec.ofInt_natCast, BitVec.toNat_ofNat]; exact Nat.mod_eq_of_lt (by omega)
  show IntKind.u8.wrap ((BitVec.ofInt 8 (a : Int) &&& BitVec.ofInt 8 (b : Int)).toNat : Int) = _
  rw [BitVec.toNat_and, h1, h2, IntKind.wrap_u8]
  omega
/-- What stands for a cube. -/
abbrev Rx := Nat × Nat × Bool
def RxOk (r : Rx) : Prop := r.1 < 256 ∧ r.2.1 < 256
def makeM (a b : Nat) : Mc := ((a &&& b) % 64 * 2, (a % 64 &&& (255 - b)) * 2)
def fitM (r : Rx) : Mc := if r.2.2 then (r.1 &&& 254, r.2.1 &&& 254) else makeM r.1 r.2.1
theorem makeM_ok (a b : Nat) : Mc8 (makeM a b) := by
  unfold makeM Mc8
  have h2 : (a % 64 &&& (255 - b)) < 64 := Nat.lt_of_le_of_lt Nat.and_le_left (by omega)
  dsimp only
  omega
theorem fitM_ok (r : Rx) : Mc8 (fitM r) := by
  unfold fitM
  split
  · have h1 : r.1 &&& 254 ≤ 254 := Nat.and_le_right
    have h2 : r.2.1 &&& 254 ≤ 254 := Nat.and_le_right
    exact ⟨by dsimp only; omega, by dsimp only; omega⟩
  · exact makeM_ok _ _
def McPost (w : World) (c : Mc) (e : Ending) (w' : World) : Prop := e = .returned (.agg #[.int .u64 (c.1 : Nat), .int .u64 (c.2 : Nat)]) ∧ Below w.heap.size w w'
theorem mc_ret {w w' : World} {c : Mc} {x y : Int} (h1 : x = (c.1 : Nat)) (h2 : y = (c.2 : Nat)) (hb : Below w.heap.size w w') : McPost w c (.returned (.agg #[.int .u64 x, .int .u64 y])) w' := by
  rw [h1, h2]; exact ⟨rfl, hb⟩
theorem rmake_any (a b : Nat) (ha : a < 256) (hb : b < 256) (w : World) : Calls Tryz.prog 62 #[.int .u8 (a : Nat), .int .u8 (b : Nat)] w (McPost w (makeM a b)) := by
  have e1 := u8_and_nat a b ha hb
  have e4 := u8_and_nat (a % 64) (255 - b) (by omega) (by omega)
  have l4 : (a % 64 &&& (255 - b)) < 64 := Nat.lt_of_le_of_lt Nat.and_le_left (by omega)
  rw [show ((255 - b : Nat) : Int) = 255 - (b : Int) by omega, show ((a % 64 : Nat) : Int) = (a : Int) % 64 by omega] at e4
  have HE : Hid (makeM a b = ((a &&& b) % 64 * 2, (a % 64 &&& (255 - b)) * 2)) := rfl
  generalize makeM a b = c at HE ⊢
  generalize a % 64 &&& (255 - b) = q at *
  have lp : a &&& b < 256 := Nat.lt_of_le_of_lt Nat.and_le_left ha
  generalize a &&& b = p at *
  have e5 : bits .and .u8 (p : Int) 63 = ((p % 64 : Nat) : Int) := by
    rw [← Nat.and_two_pow_sub_one_eq_mod p 6]
    exact u8_and_nat p 63 lp (by omega)
  have lr : p % 64 < 64 := Nat.mod_lt _ (by omega)
  generalize p % 64 = r at *
  have w1 : IntKind.u64.wrap (q : Int) = q := by rw [IntKind.wrap_u64]; omega
  have w2 : IntKind.u64.wrap ((q : Int) * 2) = (q : Int) * 2 := by rw [IntKind.wrap_u64]; omega
  have w3 : IntKind.u64.wrap (r : Int) = r := by rw [IntKind.wrap_u64]; omega
  have w4 : IntKind.u64.wrap ((r : Int) * 2) = (r : Int) * 2 := by rw [IntKind.wrap_u64]; omega
  go_enter Tryz.func62, Tryz.ntmps62
  go_wp2_with fail
  refine bodyPost_ret (v := .agg #[.int .u64 ((r : Int) * 2), .int .u64 ((q : Int) * 2)]) (by simp [results, Tryz.results62, go_sem]) rfl ?_
  exact mc_ret (by rw [HE.out]; dsimp only; omega) (by rw [HE.out]; dsimp only; omega) (by go_grown)
theorem rfit_any (r : Rx) (hr : RxOk r) (w : World) : Calls Tryz.prog 26 #[.agg #[.int .u8 (r.1 : Nat), .int .u8 (r.2.1 : Nat), .bool r.2.2]] w (McPost w (fitM r)) := by
  obtain ⟨a, b, o⟩ := r
  obtain ⟨ha, hb⟩ := hr
  dsimp only at ha hb ⊢
  cases o
  · have HM := Lib.hid (fun w' => rmake_any a b ha hb w')
    have HE : Hid (fitM (a, b, false) = makeM a b) := rfl
    rw [HE.out]
    generalize makeM a b = c at HM ⊢
    obtain ⟨m1, m2⟩ := c
    obtain ⟨W0, hW0⟩ : ∃ W0, W0 = (w.alloc (.cells #[.int .u8 (a : Nat), .int .u8 (b : Nat), .bool false] 46)).alloc (.cells #[.int .u64 0, .int .u64 0] 28) := ⟨_, rfl⟩
    have hT : Hid (∀ w', Below (w.heap.size + 2) W0 w' → w'.cell? ⟨w.heap.size + 1, 0, none⟩ = some (.int .u64 0) ∧ w'.cell? ⟨w.heap.size + 1, 1, none⟩ = some (.int .u64 0) ∧ w'.frozen? ⟨w.heap.size + 1, 0, none⟩ = false ∧ w'.frozen? ⟨w.heap.size + 1, 1, none⟩ = false ∧ Below w.heap.size w w') := fun w' hb => by
      rw [hW0] at hb
      refine ⟨(hb.cell (show w.heap.size + 1 < w.heap.size + 2 by omega)).trans ?_, (hb.cell (show w.heap.size + 1 < w.heap.size + 2 by omega)).trans ?_, (hb.frozen (show w.heap.size + 1 < w.heap.size + 2 by omega)).trans ?_, (hb.frozen (show w.heap.size + 1 < w.heap.size + 2 by omega)).trans ?_, bel2 (hb.mono (by simp))⟩
      all_goals
        have := World.size_alloc w (.cells #[.int .u8 (a : Nat), .int .u8 (b : Nat), .bool false] 46)
        rw [← this]; simp
    have hz : W0.heap.size = w.heap.size + 2 := by rw [hW0]; simp
    go_enter Tryz.func26, Tryz.ntmps26
    go_wp2_with (go_at_call 62; rw [← hW0]; refine (HM.out _).mono ?_; rintro e w1 ⟨rfl, hb1⟩; dsimp only; obtain ⟨t0, t1, f0, f1, hB⟩ := hT.out _ (hb1.mono (by omega)); have HB := Lib.hid hB; clear hb1 hB)
    obtain ⟨cs0, cs1⟩ := stw2 (u := .int .u64 (m1 : Nat)) (v := .int .u64 (m2 : Nat)) t0 t1
    refine bodyPost_ret (v := .agg #[.int .u64 (m1 : Nat), .int .u64 (m2 : Nat)]) (by simp [results, Tryz.results26, go_sem, cs0, cs1]) rfl ?_
    exact ⟨rfl, (HB.out.setCell (p := ⟨w.heap.size + 1, 0, none⟩) (show w.heap.size ≤ w.heap.size + 1 by omega) _).setCell (p := ⟨w.heap.size + 1, 1, none⟩) (show w.heap.size ≤ w.heap.size + 1 by omega) _⟩
  · have HE : Hid (fitM (a, b, true) = (a &&& 254, b &&& 254)) := rfl
    rw [HE.out]
    have e1 := u8_and_nat a 254 ha (by omega)
    have e2 := u8_and_nat b 254 hb (by omega)
    have l1 : a &&& 254 ≤ 254 := Nat.and_le_right
    have l2 : b &&& 254 ≤ 254 := Nat.and_le_right
    generalize a &&& 254 = p at *
    generalize b &&& 254 = q at *
    have w1 : IntKind.u64.wrap (p : Int) = p := by rw [IntKind.wrap_u64]; omega
    have w2 : IntKind.u64.wrap (q : Int) = q := by rw [IntKind.wrap_u64]; omega
    have e1' : bits .and .u8 (a : Int) 254 = (p : Int) := e1
    have e2' : bits .and .u8 (b : Int) 254 = (q : Int) := e2
    go_enter Tryz.func26, Tryz.ntmps26
    go_wp2_with fail
    refine bodyPost_ret (v := .agg #[.int .u64 (p : Int), .int .u64 (q : Int)]) ?_ rfl ?_
    · have hz := World.size_alloc w (.cells #[.int .u8 (a : Nat), .int .u8 (b : Nat), .bool true] 46)
      rw [← hz]
      simp [results, Tryz.results26, go_sem]
    · exact ⟨rfl, by go_grown⟩
end Go.Proofs.YtadomogbakcokaaGreatDoor
end

section
/- Rows of the reference's cubes; contract of its List. -/
namespace Go.Proofs.YtadomogbakcokaaGreatDoor
open Go.RowKit Go.PlainAid
set_option linter.unusedVariables false
set_option linter.unusedSimpArgs false
set_option maxHeartbeats 2000000

theorem infoMc : (Tryz.prog.info? 28).map (fun i => (i.zero, i.size, i.bytes)) = some (some (.agg #[.int .u64 0, .int .u64 0]), 2, 16) := by kernel_rfl
/-- v is an own row that holds the reference's cubes l. -/
def Mo (w : World) (base : Nat) (v : Value) (l : List Mc) : Prop := Ok mcE 28 w base v l ∧ ∀ c ∈ l, McOk c
theorem Mo.nil (w : World) (base : Nat) : Mo w base (.slice none 0 0) [] := ⟨Ok.nil _ _ _ _, fun c hc => by cases hc⟩
theorem Mo.below {w w' : World} {base : Nat} {v : Value} {l : List Mc} (h : Mo w base v l) (hb : Below w.heap.size w w') : Mo w' base v l := ⟨h.1.below hb, h.2⟩
theorem Mo.lower {w : World} {base base' : Nat} {v : Value} {l : List Mc} (h : Mo w base v l) (hb : base' ≤ base) : Mo w base' v l := ⟨h.1.lower hb, h.2⟩
theorem Mo.lt {w : World} {base : Nat} {v : Value} {l : List Mc} (h : Mo w base v l) : ∀ b, v.ownBlock = some b → base ≤ b ∧ b < w.heap.size := h.1.lt
theorem Mo.len {w : World} {base : Nat} {v : Value} {l : List Mc} (h : Mo w base v l) : ∃ a cap, v = .slice a l.length cap ∧ Ms w a l.length cap l := by
  obtain ⟨a, cap, hv, hd⟩ := h.1.dk (by decide)
  exact ⟨a, cap, hv, hd, h.2⟩
theorem Mo.dn {w : World} {base : Nat} {v : Value} {l : List Mc} (h : Mo w base v l) : ∃ a n cap, v = .slice a n cap ∧ n = l.length ∧ Ms w a n cap l := by
  obtain ⟨a, cap, hv, hd⟩ := h.len
  exact ⟨a, _, cap, hv, rfl, hd⟩
theorem wpList_append_mo {w : World} {ops : Array Oper} {rest : List Oper} {o : Oper} {a : Act} {Q : Exit → Act → World → Prop} (hgd : o.guard = none) (s x : Operand)
    (ho : o.op = .call { callee := .builtin .append, args := #[s, x], argTypes := #[25, 25] }) (base : Nat)
    (v : Value) (l : List Mc) (hs : a.eval s = v) (hown : Mo w base v l) (ad : Option Addr) (m c : Nat) (r : List Mc) (hx : a.eval x = .slice ad m c) (h : Ms w ad m c r) (hb : l.length + m ≤ 1000000000) (hbase : base ≤ w.heap.size)
    (hK : ∀ v' w', Mo w' base v' (l ++ r) → w.grownBy w' v.ownBlock → wpList Tryz.prog ops Q rest (a.put o.dst v') w') : wpList Tryz.prog ops Q (o :: rest) a w := by
  obtain ⟨i0, hi, hz0, hz1, hz2⟩ := info_parts infoMc
  refine wpList_append_dk hgd s x 25 28 ho Tryz.underlying25 base i0 _ 16 hi hz0 hz1 hz2 rfl (by decide) (by decide) v l hs hown.1 ad m c r hx h.1 hb hbase fun v' w' hv' hg => ?_
  exact hK v' w' ⟨hv', fun c hc => by
    rcases List.mem_append.1 hc with hc | hc
    · exact hown.2 c hc
    · exact h.2 c hc⟩ hg
/-- One cube laid in a block of its own. -/
theorem Ms.one (w : World) (x : Mc) (h : McOk x) (g : Nat) (hg : g = w.heap.size) : Ms (w.alloc (.cells #[.int .u64 (x.1 : Nat), .int .u64 (x.2 : Nat)] 28)) (some ⟨g, 0, none⟩) 1 1 [x] :=
  ⟨Dk.one (E := mcE) w x _ g hg, fun c hc => by rw [List.mem_singleton] at hc; rw [hc]; exact h⟩

def rxE : Enc Rx 3 := ⟨fun r => [.int .u8 (r.1 : Nat), .int .u8 (r.2.1 : Nat), .bool r.2.2], fun _ => rfl, fun c u hu => by
  simp at hu
  rcases hu with rfl | rfl | rfl <;> rfl⟩
/-- The slice holds what stands for cubes. -/
def Rs (w : World) (a : Option Addr) (n cap : Nat) (l : List Rx) : Prop := Dk rxE w a n cap l ∧ ∀ r ∈ l, RxOk r
theorem Rs.below {w w' : World} {a : Option Addr} {n cap : Nat} {l : List Rx} (h : Rs w a n cap l) (hb : Below w.heap.size w w') : Rs w' a n cap l := ⟨h.1.below hb, h.2⟩
theorem Rs.len {w : World} {a : Option Addr} {n cap : Nat} {l : List Rx} (h : Rs w a n cap l) : l.length = n := h.1.1
theorem Rs.at {w : World} {a : Option Addr} {n cap j : Nat} {l : List Rx} {x : Rx} (h : Rs w a n cap l) (hx : l[j]? = some x) :
    ∃ b o, a = some ⟨b, o, none⟩ ∧ b < w.heap.size ∧ w.cell? ⟨b, o + j * 3, none⟩ = some (.int .u8 (x.1 : Nat)) ∧ w.cell? ⟨b, o + j * 3 + 1, none⟩ = some (.int .u8 (x.2.1 : Nat)) ∧ w.cell? ⟨b, o + j * 3 + 2, none⟩ = some (.bool x.2.2) ∧ RxOk x := by
  obtain ⟨b, o, e, hb, hcell⟩ := h.1.at hx
  exact ⟨b, o, e, hb, hcell 0 _ rfl, hcell 1 _ rfl, hcell 2 _ rfl, h.2 x (List.mem_of_getElem? hx)⟩
def listM (l : List Rx) : List Mc := (l.take 8).map fitM
theorem listM_ok (l : List Rx) : ∀ c ∈ listM l, Mc8 c := by
  intro c hc
  obtain ⟨r, _, rfl⟩ := List.mem_map.1 hc
  exact fitM_ok r
theorem listM_len (l : List Rx) : (listM l).length ≤ 8 := by unfold listM; simp; omega
/-- What a function that makes a list of cubes returns. -/
def RowMo (w : World) (l : List Mc) (e : Ending) (w' : World) : Prop := ∃ v, e = .returned v ∧ Mo w' w.heap.size v l ∧ Below w.heap.size w w'
set_option maxRecDepth 20000 in
theorem rlist_any (a : Option Addr) (n cap : Nat) (l : List Rx) (w : World) (h : Rs w a n cap l) :
    Calls Tryz.prog 16 #[.slice a n cap] w (RowMo w (listM l)) := by
  have HL := Lib.hid h.len
  have HC := Lib.hid h
  have hnc := h.1.2.1
  have hcm := h.1.2.2.1
  have HM := Lib.hid (fun x w' (hx : RxOk x) => rfit_any x hx w')
  have HLM : Hid (listM l = (l.take 8).map fitM) := rfl
  generalize listM l = L at HLM ⊢
  clear h
  go_enter Tryz.func16, Tryz.ntmps16
  go_wp2_with fail
  go_loopw [3, 8] (fun v3 v wr => ∃ (j : Nat) (out : List Mc), j ≤ n ∧ j ≤ 8 ∧ v = .int .i64 j ∧ out.length ≤ j ∧ Hid (out = (l.take j).map fitM) ∧ Hid (Mo wr w.heap.size v3 out) ∧ Hid (Below w.heap.size w wr)) (fun _ v _ => n - (intOf v).toNat)
  case atStart => exact ⟨0, [], Nat.zero_le _, by omega, rfl, Nat.le_refl _, by show _ = _; simp, Mo.nil _ _, Below.refl _ _⟩
  case round =>
    obtain ⟨j, out, hj, hj8, rfl, hol, hout, hco, hB⟩ := hrel
    have hzr := hB.out.size
    by_cases hjn : j < n
    · obtain ⟨x, hx⟩ : ∃ x, l[j]? = some x := ⟨_, List.getElem?_eq_getElem (by rw [HL.out]; exact hjn)⟩
      obtain ⟨bb, oo, rfl, hbl, x0, x1, x2, hxo⟩ := (HC.out.below hB.out).at hx
      have hj0 : (0 : Int) ≤ (j : Int) := Int.natCast_nonneg _
      have hj1 : (j : Int) < (n : Int) := by omega
      by_cases hje : j = 8
      · have HE : Hid (out = L) := by show _ = _; rw [hout.out, HLM.out, hje]
        have b1 : ((j : Int) == 8) = true := by rw [beq_iff_eq]; omega
        obtain ⟨m1, m2, o⟩ := x
        dsimp only at x0 x1 x2
        clear hx hxo hout hje
        go_wp2_with fail
        go_ret
        rw [← HE.out]
        exact ⟨_, rfl, hco.out.below (by go_grown), hB.out.trans (by go_grown)⟩
      · have hcall := Lib.hid (fun w' => HM.out x w' hxo)
        have HO : Hid (out ++ [fitM x] = (l.take (j + 1)).map fitM) := by show _ = _; rw [take_snocV hx, List.map_append, hout.out]; rfl
        have hmo := (fitM_ok x).ok
        have b1 : ((j : Int) == 8) = false := by rw [beq_eq_false_iff_ne]; omega
        obtain ⟨m1, m2, o⟩ := x
        dsimp only at x0 x1 x2 hcall
        obtain ⟨y, hy⟩ : ∃ y, y = fitM (m1, m2, o) := ⟨_, rfl⟩
        rw [← hy] at hcall HO hmo
        have hol2 : (out ++ [y]).length ≤ j + 1 := by simp; omega
        have hob : out.length + 1 ≤ 1000000000 := by omega
        have HOL := Lib.hid hol2
        have HMO := Lib.hid hmo
        obtain ⟨y1, y2⟩ := y
        clear hy hol2 hx hxo hout hmo
        obtain ⟨oa, on, oc, rfl, -, -⟩ := hco.out.dn
        go_wp2_with (first
          | (go_at_call 26; refine (hcall.out _).mono ?_; rintro r w1 ⟨rfl, hb1⟩; dsimp only; have HB1 := Lib.hid (bel1 hb1); have hco2 := hco.out.below HB1.out; have hCO := Lib.hid (Ms.one w1 (y1, y2) HMO.out _ rfl); have hz1 := HB1.out.size; clear hb1)
          | (at_builtin; refine wpList_append_mo rfl (.tmp 15) (.tmp 18) rfl w.heap.size _ out rfl (hco2.below ((Below.refl _ _).alloc (Nat.le_refl _) _)) _ 1 1 [(y1, y2)] rfl hCO.out hob (by simp; omega) ?_; intro v6 w6 hown6 hg6; have HO6 := Lib.hid hown6; have HB6 := Lib.hid (((hB.out.trans (HB1.out.mono hzr)).alloc (by omega) (.cells #[.int .u64 (y1 : Nat), .int .u64 (y2 : Nat)] 28)).grown hg6 (by simp; omega) (fun k hk => (hco2.lt k hk).1)); clear hown6 hg6))
        go_roundw
        case rel => exact ⟨j + 1, out ++ [(y1, y2)], by omega, by omega, by go_num, HOL.out, HO.out, HO6.out, HB6.out⟩
        case measure => simp [intOf]; omega
    · have HE : Hid (out = L) := by show _ = _; rw [hout.out, HLM.out, List.take_of_length_le (by rw [HL.out]; omega), List.take_of_length_le (by rw [HL.out]; omega)]
      go_wp2_with fail
      go_ret
      rw [← HE.out]
      exact ⟨_, rfl, hco.out, hB.out⟩
end Go.Proofs.YtadomogbakcokaaGreatDoor
end
