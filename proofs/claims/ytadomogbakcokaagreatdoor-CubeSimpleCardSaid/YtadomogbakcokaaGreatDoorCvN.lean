/- Contract of the reference: Minus. -/
import Derived.Test.YtadomogbakcokaaGreatDoorQgi
import Derived.Deep.CutBlock
namespace Go.Proofs.YtadomogbakcokaaGreatDoor
open Go.RowKit Go.PlainAid
set_option linter.unusedVariables false
set_option linter.unusedSimpArgs false
set_option maxHeartbeats 4000000

/-- The two boxes: a cube that is changed, and b. -/
structure MB (w wr : World) (a1 a2 b1 b2 : Nat) : Prop where
  c0 : wr.cell? ⟨w.heap.size, 0, none⟩ = some (.int .u64 (a1 : Nat))
  c1 : wr.cell? ⟨w.heap.size, 1, none⟩ = some (.int .u64 (a2 : Nat))
  d0 : wr.cell? ⟨w.heap.size + 1, 0, none⟩ = some (.int .u64 (b1 : Nat))
  d1 : wr.cell? ⟨w.heap.size + 1, 1, none⟩ = some (.int .u64 (b2 : Nat))
  f0 : wr.frozen? ⟨w.heap.size, 0, none⟩ = false
  f1 : wr.frozen? ⟨w.heap.size, 1, none⟩ = false
  size : w.heap.size + 2 ≤ wr.heap.size
  bel : Below w.heap.size w wr
theorem MB.mono {w wr w' : World} {a1 a2 b1 b2 : Nat} (h : MB w wr a1 a2 b1 b2) (hb : Below (w.heap.size + 2) wr w') : MB w w' a1 a2 b1 b2 where
  c0 := (hb.cell (p := ⟨w.heap.size, 0, none⟩) (by show w.heap.size < w.heap.size + 2; omega)).trans h.c0
  c1 := (hb.cell (p := ⟨w.heap.size, 1, none⟩) (by show w.heap.size < w.heap.size + 2; omega)).trans h.c1
  d0 := (hb.cell (p := ⟨w.heap.size + 1, 0, none⟩) (by show w.heap.size + 1 < w.heap.size + 2; omega)).trans h.d0
  d1 := (hb.cell (p := ⟨w.heap.size + 1, 1, none⟩) (by show w.heap.size + 1 < w.heap.size + 2; omega)).trans h.d1
  f0 := (hb.frozen (p := ⟨w.heap.size, 0, none⟩) (by show w.heap.size < w.heap.size + 2; omega)).trans h.f0
  f1 := (hb.frozen (p := ⟨w.heap.size, 1, none⟩) (by show w.heap.size < w.heap.size + 2; omega)).trans h.f1
  size := Nat.le_trans h.size hb.size
  bel := h.bel.trans (hb.mono (by omega))
theorem MB.set0 {w wr : World} {a1 a2 b1 b2 : Nat} (h : MB w wr a1 a2 b1 b2) (x : Nat) : MB w (wr.setCell ⟨w.heap.size, 0, none⟩ (.int .u64 (x : Nat))) x a2 b1 b2 where
  c0 := World.cell?_setCell_same _ _ _ h.c0
  c1 := (World.cell?_setCell_other _ _ _ _ (fun e => by injection e with e1 e2; omega)).trans h.c1
  d0 := (World.cell?_setCell_other _ _ _ _ (fun e => by injection e with e1 e2; omega)).trans h.d0
  d1 := (World.cell?_setCell_other _ _ _ _ (fun e => by injection e with e1 e2; omega)).trans h.d1
  f0 := (World.frozen?_setCell _ _ _ _).trans h.f0
  f1 := (World.frozen?_setCell _ _ _ _).trans h.f1
  size := by rw [World.size_setCell]; exact h.size
  bel := h.bel.setCell (p := ⟨w.heap.size, 0, none⟩) (Nat.le_refl _) _
theorem MB.set1 {w wr : World} {a1 a2 b1 b2 : Nat} (h : MB w wr a1 a2 b1 b2) (x : Nat) : MB w (wr.setCell ⟨w.heap.size, 1, none⟩ (.int .u64 (x : Nat))) a1 x b1 b2 where
  c0 := (World.cell?_setCell_other _ _ _ _ (fun e => by injection e with e1 e2; omega)).trans h.c0
  c1 := World.cell?_setCell_same _ _ _ h.c1
  d0 := (World.cell?_setCell_other _ _ _ _ (fun e => by injection e with e1 e2; omega)).trans h.d0
  d1 := (World.cell?_setCell_other _ _ _ _ (fun e => by injection e with e1 e2; omega)).trans h.d1
  f0 := (World.frozen?_setCell _ _ _ _).trans h.f0
  f1 := (World.frozen?_setCell _ _ _ _).trans h.f1
  size := by rw [World.size_setCell]; exact h.size
  bel := h.bel.setCell (p := ⟨w.heap.size, 1, none⟩) (Nat.le_refl _) _
theorem Mo.set {w wr : World} {v : Value} {l : List Mc} (h : Mo wr (w.heap.size + 2) v l) (j : Nat) (u : Value) : Mo (wr.setCell ⟨w.heap.size, j, none⟩ u) (w.heap.size + 2) v l :=
  ⟨owns_set h.1 (fun b hb => by have := (h.1.lt b hb).1; dsimp only; omega) u, h.2⟩
/-- One more cube of an own row. -/
theorem mo_push {w wr w6 : World} {v : Value} {l : List Mc} {o : Obj} (h : Mo wr (w.heap.size + 2) v l) (hz : w.heap.size + 2 ≤ wr.heap.size) (hg : (wr.alloc o).grownBy w6 v.ownBlock) : Below (w.heap.size + 2) wr w6 :=
  ((Below.refl _ wr).alloc hz o).grown hg (by simp; omega) (fun k hk => (h.lt k hk).1)
theorem MB.new (w : World) (a1 a2 b1 b2 : Nat) (wr : World) (hb : Below (w.heap.size + 2) ((w.alloc (.cells #[.int .u64 (a1 : Nat), .int .u64 (a2 : Nat)] 28)).alloc (.cells #[.int .u64 (b1 : Nat), .int .u64 (b2 : Nat)] 28)) wr) : MB w wr a1 a2 b1 b2 := by
  obtain ⟨c0, c1, d0, d1, hz, hB⟩ := boxCC hb
  refine ⟨c0, c1, d0, d1, (hb.frozen (show w.heap.size < w.heap.size + 2 by omega)).trans ?_, (hb.frozen (show w.heap.size < w.heap.size + 2 by omega)).trans ?_, hz, hB⟩
  · simp
  · simp
theorem go_stepM {a b : Mc} {out : List Mc} {r : Nat} (x1 x2 x3 x4 : Bool) (h1 : (b.1 &&& 2 ^ r != 0) = x1) (h2 : (a.1 &&& 2 ^ r == 0) = x2) (h3 : (b.2 &&& 2 ^ r != 0) = x3) (h4 : (a.2 &&& 2 ^ r == 0) = x4) :
    minusGoM b (a, out) r = (if (x1 && x2) = true then (if (x3 && x4) = true then ((a.1 ||| 2 ^ r, a.2 ||| 2 ^ r), out ++ [(a.1, a.2 ||| 2 ^ r)] ++ [((a.1 ||| 2 ^ r) ||| 2 ^ r, a.2)]) else ((a.1 ||| 2 ^ r, a.2), out ++ [(a.1, a.2 ||| 2 ^ r)]))
      else (if (x3 && x4) = true then ((a.1, a.2 ||| 2 ^ r), out ++ [(a.1 ||| 2 ^ r, a.2)]) else (a, out))) := by
  unfold minusGoM stepA
  dsimp only
  rw [h1, h2]
  cases x1 <;> cases x2 <;> simp only [Bool.and_self, Bool.and_true, Bool.true_and, Bool.false_and, Bool.and_false, if_true, Bool.false_eq_true, if_false] <;> unfold stepB <;> dsimp only <;> rw [h3, h4] <;> cases x3 <;> cases x4 <;> rfl
theorem fold_succM (b : Mc) (st : Mc × List Mc) (r : Nat) : (List.range (r + 1)).foldl (minusGoM b) st = minusGoM b ((List.range r).foldl (minusGoM b) st) r := by
  rw [List.range_succ, List.foldl_append]; rfl
theorem go_lenM (b : Mc) (st : Mc × List Mc) (r : Nat) : (minusGoM b st r).2.length ≤ st.2.length + 2 := by
  unfold minusGoM stepB stepA
  split <;> split <;> simp
theorem fold_lenM (b a : Mc) : ∀ r, ((List.range r).foldl (minusGoM b) (a, [])).2.length ≤ 2 * r
  | 0 => by simp
  | r + 1 => by
    rw [fold_succM]
    have := go_lenM b ((List.range r).foldl (minusGoM b) (a, [])) r
    have := fold_lenM b a r
    omega
theorem ne0 {p : Nat} {x : Bool} (h : (p != 0) = x) : ((p : Int) != 0) = x := by
  rw [← h, Bool.eq_iff_iff, bne_iff_ne, bne_iff_ne]; omega
theorem eq0 {p : Nat} {x : Bool} (h : (p == 0) = x) : ((p : Int) == 0) = x := by
  rw [← h, Bool.eq_iff_iff, beq_iff_eq, beq_iff_eq]; omega
set_option maxRecDepth 20000 in
theorem rminus_loop (a0 b : Mc) (ha : McOk a0) (hb0 : McOk b) (w : World) (hn1 : emptyM a0 = false) (hn2 : emptyM (bothM a0 b) = false) :
    Calls Tryz.prog 41 #[.agg #[.int .u64 (a0.1 : Nat), .int .u64 (a0.2 : Nat)], .agg #[.int .u64 (b.1 : Nat), .int .u64 (b.2 : Nat)]] w (RowMo w (minusM a0 b)) := by
  have HR : Hid (minusM a0 b = ((List.range 64).foldl (minusGoM b) (a0, [])).2) := by show _ = _; unfold minusM; rw [hn1, hn2]; rfl
  generalize minusM a0 b = res at HR ⊢
  have HE1 := Lib.hid (fun w' => rempty_any a0 ha w')
  have HE2 := Lib.hid (fun w' => rempty_any (bothM a0 b) (bothM_ok ha hb0) w')
  rw [hn1] at HE1
  rw [hn2] at HE2
  have HF : Hid (∀ r, ((List.range r).foldl (minusGoM b) (a0, [])).2.length ≤ 2 * r) := fold_lenM b a0
  have HSU : Hid (∀ r, (List.range (r + 1)).foldl (minusGoM b) (a0, []) = minusGoM b ((List.range r).foldl (minusGoM b) (a0, [])) r) := fold_succM b (a0, [])
  have HA0 := Lib.hid ha
  obtain ⟨a1, a2⟩ := a0
  obtain ⟨b1, b2⟩ := b
  obtain ⟨hb1, hb2⟩ := hb0
  have e1 := u64_or_nat a1 b1 ha.1 hb1
  have e2 := u64_or_nat a2 b2 ha.2 hb2
  have HE2 : Hid (∀ w', Calls Tryz.prog 22 #[.agg #[.int .u64 ((a1 ||| b1 : Nat) : Int), .int .u64 ((a2 ||| b2 : Nat) : Int)]] w' (BoolPost w' false)) := HE2.out
  generalize a1 ||| b1 = ab1 at e1 HE2
  generalize a2 ||| b2 = ab2 at e2 HE2
  dsimp only at hb1 hb2 HE1 e1 e2 ⊢
  have HB1 := Lib.hid hb1
  have HB2 := Lib.hid hb2
  clear ha hb1 hb2 hn1 hn2
  obtain ⟨W0, hW0⟩ : ∃ W0, W0 = (w.alloc (.cells #[.int .u64 (a1 : Nat), .int .u64 (a2 : Nat)] 28)).alloc (.cells #[.int .u64 (b1 : Nat), .int .u64 (b2 : Nat)] 28) := ⟨_, rfl⟩
  have HN := Lib.hid (fun wr hb => MB.new w a1 a2 b1 b2 wr hb)
  rw [← hW0] at HN
  have hM := HN.out W0 (Below.refl _ _)
  obtain ⟨c0, c1, d0, d1, f0, f1, hz, hB⟩ := hM
  have HZ0 := Lib.hid hz
  have HQ : Hid (∀ (Q : Mc × List Mc → Prop), Q ((List.range 0).foldl (minusGoM (b1, b2)) ((a1, a2), [])) → Q ((a1, a2), [])) := fun Q h => h
  clear hz hB
  go_enter Tryz.func41, Tryz.ntmps41
  go_upto_block 0 with (first
    | (go_at_call 22; rw [← hW0]; clear hW0; (with_reducible refine (HE1.out _).mono ?_); rintro e w1 ⟨rfl, hb⟩; have hM1 := HN.out _ (hb.mono HZ0.out); have HM1 := Lib.hid hM1; obtain ⟨c0, c1, d0, d1, f0, f1, hz, hB⟩ := hM1; have HB01 := Lib.hid hb; clear hz hB hb)
    | (go_at_call 22; (with_reducible refine (HE2.out _).mono ?_); rintro e w2 ⟨rfl, hb⟩; have hM2 := HM1.out.mono (hb.mono HM1.out.size); clear hb c0 c1 d0 d1 f0 f1))
  go_wp2_with fail
  have HM2 := Lib.hid hM2
  clear hM2 HM1 HN HB01 HE1 HE2 e1 e2
  go_loopw [5, 6] (fun v5 v6 wr => ∃ (r A1 A2 : Nat) (out : List Mc), r ≤ 64 ∧ v6 = .int .i64 r ∧ out.length ≤ 2 * r ∧ Hid ((List.range r).foldl (minusGoM (b1, b2)) ((a1, a2), []) = ((A1, A2), out)) ∧ Hid (McOk (A1, A2)) ∧ Hid (Mo wr (w.heap.size + 2) v5 out) ∧ Hid (MB w wr A1 A2 b1 b2)) (fun _ v _ => 64 - (intOf v).toNat)
  case atStart => exact ⟨0, a1, a2, [], by omega, rfl, by simp, rfl, HA0.out, Mo.nil _ _, HM2.out⟩
  case round =>
    obtain ⟨r, A1, A2, out, hr, rfl, hol, hfo, hok, hmo, hmb⟩ := hrel
    have HG := Lib.hid hmb.out
    have hz := hmb.out.size
    obtain ⟨c0, c1, d0, d1, f0, f1, -, -⟩ := hmb.out
    by_cases hr6 : r < 64
    · have hk0 : (0 : Int) ≤ (r : Int) := Int.natCast_nonneg _
      have hk1 : (r : Int) < 64 := by omega
      have hpl := bit_lt hr6
      have hst := fun x1 x2 x3 x4 h1 h2 h3 h4 => (HSU.out r).trans ((congrArg (fun st => minusGoM (b1, b2) st r) hfo.out).trans (go_stepM (a := (A1, A2)) (b := (b1, b2)) (out := out) (r := r) x1 x2 x3 x4 h1 h2 h3 h4))
      have hpw : (2 : Int) ^ r = ((2 ^ r : Nat) : Int) := by simp
      obtain ⟨P, eP⟩ : ∃ P, 2 ^ r = P := ⟨_, rfl⟩
      rw [eP] at hpl hpw
      have hwp : IntKind.u64.wrap (P : Int) = (P : Int) := by rw [IntKind.wrap_u64]; omega
      simp only [eP] at hst
      have g1 := u64_and_nat b1 P HB1.out hpl
      have g2 := u64_and_nat A1 P hok.out.1 hpl
      have g3 := u64_and_nat b2 P HB2.out hpl
      have g4 := u64_and_nat A2 P hok.out.2 hpl
      have o1 := u64_or_nat A1 P hok.out.1 hpl
      have o2 := u64_or_nat A2 P hok.out.2 hpl
      have l1 := lor_lt hok.out.1 hpl
      have l2 := lor_lt hok.out.2 hpl
      have o3 := u64_or_nat (A1 ||| P) P l1 hpl
      have l3 := lor_lt l1 hpl
      dsimp only at g2 g4 o1 o2 l1 l2 o3 l3 hst
      obtain ⟨x1, y1⟩ : ∃ x, (b1 &&& P != 0) = x := ⟨_, rfl⟩
      obtain ⟨x2, y2⟩ : ∃ x, (A1 &&& P == 0) = x := ⟨_, rfl⟩
      obtain ⟨x3, y3⟩ : ∃ x, (b2 &&& P != 0) = x := ⟨_, rfl⟩
      obtain ⟨x4, y4⟩ : ∃ x, (A2 &&& P == 0) = x := ⟨_, rfl⟩
      have HS := Lib.hid (hst x1 x2 x3 x4 y1 y2 y3 y4)
      have z1 := ne0 y1
      have z2 := eq0 y2
      have z3 := ne0 y3
      have z4 := eq0 y4
      have hL1 := Lib.hid hok.out.1
      have hL2 := Lib.hid hok.out.2
      have H1 := Lib.hid l1
      have H2 := Lib.hid l2
      have H3 := Lib.hid l3
      clear hst y1 y2 y3 y4 eP hok hfo hpl hmb l1 l2 l3
      generalize b1 &&& P = p1 at *
      generalize A1 &&& P = p2 at *
      generalize b2 &&& P = p3 at *
      generalize A2 &&& P = p4 at *
      generalize (A1 ||| P) ||| P = q3 at *
      generalize A1 ||| P = q1 at *
      generalize A2 ||| P = q2 at *
      obtain ⟨oa, on, oc, rfl, -, -⟩ := hmo.out.dn
      cases x1
      ·
        cases x3
        ·
          go_wp2_with fail
          go_roundw
          case rel => exact ⟨r + 1, A1, A2, out, by omega, by go_num, by (try simp); omega, HS.out, ⟨hL1.out, hL2.out⟩, hmo.out, HG.out⟩
          case measure => simp [intOf]; omega
        · cases x4
          ·
            go_wp2_with fail
            go_roundw
            case rel => exact ⟨r + 1, A1, A2, out, by omega, by go_num, by (try simp); omega, HS.out, ⟨hL1.out, hL2.out⟩, hmo.out, HG.out⟩
            case measure => simp [intOf]; omega
          ·
            go_wp2_with (first
              | (at_builtin; refine wpList_append_mo rfl (.tmp 69) (.tmp 77) rfl (w.heap.size + 2) _ out rfl (hmo.out.below ((Below.refl _ _).alloc (Nat.le_refl _) _)) _ 1 1 [(q1, A2)] rfl (Ms.one _ (q1, A2) ⟨H1.out, hL2.out⟩ _ (by first | rfl | simp)) (by simp; omega) (by simp; omega) ?_; intro v7 w7 hown hg; have hbb := mo_push hmo.out hz hg; obtain ⟨oa7, on7, oc7, rfl, -, -⟩ := hown.dn; have HG7 := Lib.hid (HG.out.mono hbb); have HGB := Lib.hid (HG7.out.set1 q2); have HOB := Lib.hid (hown.set 1 (.int .u64 (q2 : Nat))); clear c0 c1 d0 d1 f0 f1; have c0 := HG7.out.c0; have c1 := HG7.out.c1; have d0 := HG7.out.d0; have d1 := HG7.out.d1; have f0 := HG7.out.f0; have f1 := HG7.out.f1; clear hbb hg hown))
            go_roundw
            case rel => exact ⟨r + 1, A1, q2, out ++ [(q1, A2)], by omega, by go_num, by (try simp); omega, HS.out, ⟨hL1.out, H2.out⟩, HOB.out, HGB.out⟩
            case measure => simp [intOf]; omega
      · cases x2
        ·
          cases x3
          ·
            go_wp2_with fail
            go_roundw
            case rel => exact ⟨r + 1, A1, A2, out, by omega, by go_num, by (try simp); omega, HS.out, ⟨hL1.out, hL2.out⟩, hmo.out, HG.out⟩
            case measure => simp [intOf]; omega
          · cases x4
            ·
              go_wp2_with fail
              go_roundw
              case rel => exact ⟨r + 1, A1, A2, out, by omega, by go_num, by (try simp); omega, HS.out, ⟨hL1.out, hL2.out⟩, hmo.out, HG.out⟩
              case measure => simp [intOf]; omega
            ·
              go_wp2_with (first
                | (at_builtin; refine wpList_append_mo rfl (.tmp 69) (.tmp 77) rfl (w.heap.size + 2) _ out rfl (hmo.out.below ((Below.refl _ _).alloc (Nat.le_refl _) _)) _ 1 1 [(q1, A2)] rfl (Ms.one _ (q1, A2) ⟨H1.out, hL2.out⟩ _ (by first | rfl | simp)) (by simp; omega) (by simp; omega) ?_; intro v7 w7 hown hg; have hbb := mo_push hmo.out hz hg; obtain ⟨oa7, on7, oc7, rfl, -, -⟩ := hown.dn; have HG7 := Lib.hid (HG.out.mono hbb); have HGB := Lib.hid (HG7.out.set1 q2); have HOB := Lib.hid (hown.set 1 (.int .u64 (q2 : Nat))); clear c0 c1 d0 d1 f0 f1; have c0 := HG7.out.c0; have c1 := HG7.out.c1; have d0 := HG7.out.d0; have d1 := HG7.out.d1; have f0 := HG7.out.f0; have f1 := HG7.out.f1; clear hbb hg hown))
              go_roundw
              case rel => exact ⟨r + 1, A1, q2, out ++ [(q1, A2)], by omega, by go_num, by (try simp); omega, HS.out, ⟨hL1.out, H2.out⟩, HOB.out, HGB.out⟩
              case measure => simp [intOf]; omega
        ·
          cases x3
          ·
            go_wp2_with (first
              | (at_builtin; refine wpList_append_mo rfl (.tmp 42) (.tmp 50) rfl (w.heap.size + 2) _ out rfl (hmo.out.below ((Below.refl _ _).alloc (Nat.le_refl _) _)) _ 1 1 [(A1, q2)] rfl (Ms.one _ (A1, q2) ⟨hL1.out, H2.out⟩ _ rfl) (by omega) (by simp; omega) ?_; intro v6 w6 hown hg; have hbb := mo_push hmo.out hz hg; obtain ⟨oa6, on6, oc6, rfl, -, -⟩ := hown.dn; have HG6 := Lib.hid (HG.out.mono hbb); have HGA := Lib.hid (HG6.out.set0 q1); have HOA := Lib.hid (hown.set 0 (.int .u64 (q1 : Nat))); have hz6 := HG6.out.size; clear c0 c1 d0 d1 f0 f1; have c0 := HG6.out.c0; have c1 := HG6.out.c1; have d0 := HG6.out.d0; have d1 := HG6.out.d1; have f0 := HG6.out.f0; have f1 := HG6.out.f1; have s0 := HGA.out.c0; have s1 := HGA.out.c1; have s2 := HGA.out.d0; have s3 := HGA.out.d1; have s4 := HGA.out.f0; have s5 := HGA.out.f1; have sz := HGA.out.size; clear hbb hg hown))
            go_roundw
            case rel => exact ⟨r + 1, q1, A2, out ++ [(A1, q2)], by omega, by go_num, by (try simp); omega, HS.out, ⟨H1.out, hL2.out⟩, HOA.out, HGA.out⟩
            case measure => simp [intOf]; omega
          · cases x4
            ·
              go_wp2_with (first
                | (at_builtin; refine wpList_append_mo rfl (.tmp 42) (.tmp 50) rfl (w.heap.size + 2) _ out rfl (hmo.out.below ((Below.refl _ _).alloc (Nat.le_refl _) _)) _ 1 1 [(A1, q2)] rfl (Ms.one _ (A1, q2) ⟨hL1.out, H2.out⟩ _ rfl) (by omega) (by simp; omega) ?_; intro v6 w6 hown hg; have hbb := mo_push hmo.out hz hg; obtain ⟨oa6, on6, oc6, rfl, -, -⟩ := hown.dn; have HG6 := Lib.hid (HG.out.mono hbb); have HGA := Lib.hid (HG6.out.set0 q1); have HOA := Lib.hid (hown.set 0 (.int .u64 (q1 : Nat))); have hz6 := HG6.out.size; clear c0 c1 d0 d1 f0 f1; have c0 := HG6.out.c0; have c1 := HG6.out.c1; have d0 := HG6.out.d0; have d1 := HG6.out.d1; have f0 := HG6.out.f0; have f1 := HG6.out.f1; have s0 := HGA.out.c0; have s1 := HGA.out.c1; have s2 := HGA.out.d0; have s3 := HGA.out.d1; have s4 := HGA.out.f0; have s5 := HGA.out.f1; have sz := HGA.out.size; clear hbb hg hown))
              go_roundw
              case rel => exact ⟨r + 1, q1, A2, out ++ [(A1, q2)], by omega, by go_num, by (try simp); omega, HS.out, ⟨H1.out, hL2.out⟩, HOA.out, HGA.out⟩
              case measure => simp [intOf]; omega
            ·
              go_wp2_with (first
                | (at_builtin; refine wpList_append_mo rfl (.tmp 42) (.tmp 50) rfl (w.heap.size + 2) _ out rfl (hmo.out.below ((Below.refl _ _).alloc (Nat.le_refl _) _)) _ 1 1 [(A1, q2)] rfl (Ms.one _ (A1, q2) ⟨hL1.out, H2.out⟩ _ rfl) (by omega) (by simp; omega) ?_; intro v6 w6 hown hg; have hbb := mo_push hmo.out hz hg; obtain ⟨oa6, on6, oc6, rfl, -, -⟩ := hown.dn; have HG6 := Lib.hid (HG.out.mono hbb); have HGA := Lib.hid (HG6.out.set0 q1); have HOA := Lib.hid (hown.set 0 (.int .u64 (q1 : Nat))); have hz6 := HG6.out.size; clear c0 c1 d0 d1 f0 f1; have c0 := HG6.out.c0; have c1 := HG6.out.c1; have d0 := HG6.out.d0; have d1 := HG6.out.d1; have f0 := HG6.out.f0; have f1 := HG6.out.f1; have s0 := HGA.out.c0; have s1 := HGA.out.c1; have s2 := HGA.out.d0; have s3 := HGA.out.d1; have s4 := HGA.out.f0; have s5 := HGA.out.f1; have sz := HGA.out.size; clear hbb hg hown)
                | (at_builtin; refine wpList_append_mo rfl (.tmp 69) (.tmp 77) rfl (w.heap.size + 2) _ (out ++ [(A1, q2)]) rfl (HOA.out.below ((Below.refl _ _).alloc (Nat.le_refl _) _)) _ 1 1 [(q3, A2)] rfl (Ms.one _ (q3, A2) ⟨H3.out, hL2.out⟩ _ (by first | rfl | simp)) (by simp; omega) (by simp; omega) ?_; intro v7 w7 hown hg; have hbb := mo_push HOA.out sz hg; obtain ⟨oa7, on7, oc7, rfl, -, -⟩ := hown.dn; have HG7 := Lib.hid (HGA.out.mono hbb); have HGB := Lib.hid (HG7.out.set1 q2); have HOB := Lib.hid (hown.set 1 (.int .u64 (q2 : Nat))); clear c0 c1 d0 d1 f0 f1 s0 s1 s2 s3 s4 s5; have c0 := HG7.out.c0; have c1 := HG7.out.c1; have d0 := HG7.out.d0; have d1 := HG7.out.d1; have f0 := HG7.out.f0; have f1 := HG7.out.f1; clear hbb hg hown))
              go_roundw
              case rel => exact ⟨r + 1, q1, q2, out ++ [(A1, q2)] ++ [(q3, A2)], by omega, by go_num, by (try simp); omega, HS.out, ⟨H1.out, H2.out⟩, HOB.out, HGB.out⟩
              case measure => simp [intOf]; omega
    · have hre : r = 64 := by omega
      have HE : Hid (res = out) := by show _ = _; rw [HR.out, ← hre, hfo.out]
      clear hre hfo
      go_wp2_with fail
      go_ret
      rw [HE.out]
      exact ⟨_, rfl, hmo.out.lower (by omega), HG.out.bel⟩
theorem minusM_len (a b : Mc) : (minusM a b).length ≤ 128 := by
  unfold minusM
  split
  · simp
  · split
    · simp
    · exact fold_lenM b a 64
theorem mo_lit (w : World) (x : Mc) (hx : McOk x) : Mo (w.alloc (.cells #[.int .u64 (x.1 : Nat), .int .u64 (x.2 : Nat)] 28)) w.heap.size (.slice (some ⟨w.heap.size, 0, none⟩) 1 1) [x] :=
  ⟨World.ownsRow_lit (base := w.heap.size) (size := 2) (e := 28) w #[.int .u64 (x.1 : Nat), .int .u64 (x.2 : Nat)] 1 (Nat.le_refl _) (by unfold maxLen; omega) rfl, fun c hc => by rw [List.mem_singleton] at hc; rw [hc]; exact hx⟩
set_option maxRecDepth 20000 in
theorem rminusC_any (a b : Mc) (ha : McOk a) (hb : McOk b) (w : World) :
    Calls Tryz.prog 41 #[.agg #[.int .u64 (a.1 : Nat), .int .u64 (a.2 : Nat)], .agg #[.int .u64 (b.1 : Nat), .int .u64 (b.2 : Nat)]] w (RowMo w (minusM a b)) := by
  cases hn1 : emptyM a
  · cases hn2 : emptyM (bothM a b)
    · exact rminus_loop a b ha hb w hn1 hn2
    · have HR : Hid (minusM a b = [a]) := by show _ = _; unfold minusM; rw [hn1, hn2]; rfl
      rw [HR.out]
      have HE1 := Lib.hid (fun w' => rempty_any a ha w')
      have HE2 := Lib.hid (fun w' => rempty_any (bothM a b) (bothM_ok ha hb) w')
      rw [hn1] at HE1
      rw [hn2] at HE2
      have HA0 := Lib.hid ha
      obtain ⟨a1, a2⟩ := a
      obtain ⟨b1, b2⟩ := b
      obtain ⟨hb1, hb2⟩ := hb
      have e1 := u64_or_nat a1 b1 ha.1 hb1
      have e2 := u64_or_nat a2 b2 ha.2 hb2
      have HE2 : Hid (∀ w', Calls Tryz.prog 22 #[.agg #[.int .u64 ((a1 ||| b1 : Nat) : Int), .int .u64 ((a2 ||| b2 : Nat) : Int)]] w' (BoolPost w' true)) := HE2.out
      generalize a1 ||| b1 = ab1 at e1 HE2
      generalize a2 ||| b2 = ab2 at e2 HE2
      dsimp only at HE1 e1 e2 ⊢
      clear ha hb1 hb2 hn1 hn2 HR
      obtain ⟨W0, hW0⟩ : ∃ W0, W0 = (w.alloc (.cells #[.int .u64 (a1 : Nat), .int .u64 (a2 : Nat)] 28)).alloc (.cells #[.int .u64 (b1 : Nat), .int .u64 (b2 : Nat)] 28) := ⟨_, rfl⟩
      have HN := Lib.hid (fun wr hb => MB.new w a1 a2 b1 b2 wr hb)
      rw [← hW0] at HN
      have hM := HN.out W0 (Below.refl _ _)
      obtain ⟨c0, c1, d0, d1, f0, f1, hz, hB⟩ := hM
      have HZ0 := Lib.hid hz
      clear hz hB
      go_enter Tryz.func41, Tryz.ntmps41
      go_wp2_with (first
        | (go_at_call 22; rw [← hW0]; clear hW0; (with_reducible refine (HE1.out _).mono ?_); rintro e w1 ⟨rfl, hb⟩; have hM1 := HN.out _ (hb.mono HZ0.out); have HM1 := Lib.hid hM1; obtain ⟨c0, c1, d0, d1, f0, f1, hz, hB⟩ := hM1; clear hz hB hb)
        | (go_at_call 22; (with_reducible refine (HE2.out _).mono ?_); rintro e w2 ⟨rfl, hb⟩; have hM2 := HM1.out.mono (hb.mono HM1.out.size); clear hb c0 c1 d0 d1 f0 f1; have c0 := hM2.c0; have c1 := hM2.c1))
      go_ret
      have hz2 := hM2.size
      exact ⟨_, rfl, (mo_lit w2 (a1, a2) HA0.out).lower (by omega), hM2.bel.alloc hM2.bel.size _⟩
  · have HR : Hid (minusM a b = []) := by show _ = _; unfold minusM; rw [hn1]; rfl
    rw [HR.out]
    have HE1 := Lib.hid (fun w' => rempty_any a ha w')
    rw [hn1] at HE1
    obtain ⟨a1, a2⟩ := a
    obtain ⟨b1, b2⟩ := b
    dsimp only at HE1 ⊢
    clear ha hb hn1 HR
    go_enter Tryz.func41, Tryz.ntmps41
    go_wp2_with (go_at_call 22; (with_reducible refine (HE1.out _).mono ?_); rintro e w1 ⟨rfl, hb⟩; have hB := bel2 hb; clear hb)
    go_ret
    exact ⟨_, rfl, Mo.nil _ _, hB⟩
end Go.Proofs.YtadomogbakcokaaGreatDoor
