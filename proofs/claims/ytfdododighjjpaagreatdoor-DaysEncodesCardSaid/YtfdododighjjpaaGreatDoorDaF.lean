/- Contracts: Has, All, Spans, Equal, Not. -/
import Derived.Test.YtfdododighjjpaaGreatDoorDaC
import Derived.Test.YtfdododighjjpaaGreatDoorDaB
import Derived.Test.YtfdododighjjpaaGreatDoorDaBox
namespace Go.Proofs.YtfdododighjjpaaGreatDoor.Dy
open Go.RowKit Go.PlainAid
set_option linter.unusedVariables false
set_option linter.unusedSimpArgs false
set_option maxHeartbeats 1000000

theorem Ds.set {w : World} {a : Option Addr} {n cap : Nat} {l : List (Int × Int)} {p : Addr} {v u : Value} (h : Ds w a n cap l) (hp : w.cell? p = some v) (hv : ∀ x : Int, v ≠ .int .i64 x) : Ds (w.setCell p u) a n cap l := by
  obtain ⟨h1, h2, h3, h4⟩ := h
  refine ⟨h1, h2, h3, ?_⟩
  rcases h4 with h4 | ⟨b, o, h4, hb, hc⟩
  · exact .inl h4
  · refine .inr ⟨b, o, h4, by simpa using hb, fun j q hq => ?_⟩
    obtain ⟨c1, c2⟩ := hc j q hq
    constructor
    · rw [World.cell?_setCell_other]
      · exact c1
      · intro e
        rw [e, c1] at hp
        exact hv _ (Option.some.inj hp).symm
    · rw [World.cell?_setCell_other]
      · exact c2
      · intro e
        rw [e, c2] at hp
        exact hv _ (Option.some.inj hp).symm

/-- The result is the set of the days of f. -/
def SetP (w : World) (f : Int → Bool) (e : Ending) (w' : World) : Prop :=
  ∃ a n cap l, e = .returned (.agg #[.slice a n cap]) ∧ Ds w' a n cap l ∧ Can l ∧ (∀ d, Dm l d = f d) ∧ Below w.heap.size w w'

theorem nextP_find {l : List (Int × Int)} (h : Can l) (d : Int) : ((nextP l d).2 && decide ((nextP l d).1 = d)) = Dm l d := by
  induction l with
  | nil => rfl
  | cons p l ih =>
    obtain ⟨p1, p2⟩ := p
    by_cases hd : d ≤ p2
    · rw [nextP_yes hd, dm_cons]
      have : Dm l d = false := by
        rw [← Bool.not_eq_true]
        exact dm_not fun q hq => by have := h.after q hq; dsimp only at this; omega
      rw [this]
      dsimp only
      have e : decide (max d p1 = d) = decide (p1 ≤ d) := decide_eq_decide.2 (by omega)
      rw [e, decide_eq_true hd]; simp
    · rw [nextP_no hd, ih h.tail, dm_cons, decide_eq_false hd]; simp
theorem has_any (a : Option Addr) (n cap : Nat) (l : List (Int × Int)) (d : Int) (w : World) (h : Ds w a n cap l) (hcan : Can l) :
    Calls Tryz.prog 40 #[.agg #[.slice a n cap], .int .i64 d] w fun e w' => e = .returned (.bool (Dm l d)) ∧ Below w.heap.size w w' := by
  have HN := Lib.hid (fun W (hw : Below w.heap.size w W) => next_any a n cap l d W (h.below hw (Nat.le_refl _)))
  have HF := Lib.hid (nextP_find hcan d)
  clear h hcan
  generalize nextP l d = r at HN HF
  obtain ⟨r1, r2⟩ := r
  dsimp only at HN HF
  cases r2
  · have HR : Hid (Dm l d = false) := HF.out.symm
    clear HF
    go_enter Tryz.func40, Tryz.ntmps40
    go_wp2_with (go_at_call 28; refine (HN.out _ ((Below.refl _ w).alloc (Nat.le_refl _) _)).mono ?_; rintro e w1 ⟨rfl, hb1⟩)
    go_ret
    exact ⟨retB HR.out.symm, bel1 hb1⟩
  · have HR : Hid (Dm l d = (r1 == d)) := by have := HF.out; rw [← this]; simp; rfl
    clear HF
    go_enter Tryz.func40, Tryz.ntmps40
    go_wp2_with (go_at_call 28; refine (HN.out _ ((Below.refl _ w).alloc (Nat.le_refl _) _)).mono ?_; rintro e w1 ⟨rfl, hb1⟩)
    go_ret
    exact ⟨retB HR.out.symm, bel1 hb1⟩

theorem spans_any (a : Option Addr) (n cap : Nat) (l : List (Int × Int)) (w : World) (h : Ds w a n cap l) (hn : n ≤ 100000) :
    Calls Tryz.prog 18 #[.agg #[.slice a n cap]] w fun e w' => ∃ v', e = .returned v' ∧ Below w.heap.size w w' ∧ Os 48 w' w.heap.size v' l := by
  have HN := Lib.hid (fun W (hw : Below w.heap.size w W) => clone_any a n cap l W (h.below hw (Nat.le_refl _)) hn)
  clear h
  go_enter Tryz.func18, Tryz.ntmps18
  go_wp2_with (go_at_call 49; refine (HN.out _ ((Below.refl _ w).alloc (Nat.le_refl _) _)).mono ?_; rintro e w1 ⟨v1, rfl, hb1, hown⟩)
  go_ret
  exact ⟨_, rfl, bel1 hb1, hown.lower (by simp)⟩

theorem setEqual_any (a b : Option Addr) (n m ca cb : Nat) (l r : List (Int × Int)) (w : World) (ha : Ds w a n ca l) (hb : Ds w b m cb r) :
    Calls Tryz.prog 14 #[.agg #[.slice a n ca], .agg #[.slice b m cb]] w fun e w' => e = .returned (.bool (decide (l = r))) ∧ Below w.heap.size w w' := by
  have HN := Lib.hid (fun W (hw : Below w.heap.size w W) => equal_any a b n m ca cb l r W (ha.below hw (Nat.le_refl _)) (hb.below hw (Nat.le_refl _)))
  clear ha hb
  go_enter Tryz.func14, Tryz.ntmps14
  go_wp2_with (go_at_call 45; refine (HN.out _ (((Below.refl _ w).alloc (Nat.le_refl _) _).alloc (by simp) _)).mono ?_; rintro e w1 ⟨rfl, hb1⟩)
  go_ret
  exact ⟨rfl, bel2 hb1⟩

theorem can_all : Can [((0 : Int), (30000 : Int))] := can_cons (by unfold Okp; dsimp only; omega) can_nil (fun q hq => by cases hq)
theorem all_any (w : World) :
    Calls Tryz.prog 30 #[] w (SetP w inD) := by
  go_enter Tryz.func30, Tryz.ntmps30
  go_wp2_with fail
  refine bodyPost_ret (v := .agg #[.slice (some ⟨w.heap.size + 1, 0, none⟩) 1 1]) (by simp [results, Tryz.results30, go_sem]) rfl ?_
  refine ⟨_, 1, 1, [(0, 30000)], rfl, Ds.one _ 0 30000 _ _ (by simp), can_all, fun d => ?_, ((Below.refl _ w).alloc (Nat.le_refl _) _).alloc (by simp) _⟩
  apply bool_ext
  rw [inD_iff, dm_cons_iff, dm_nil]
  simp

theorem fit_can {l : List (Int × Int)} (h : Can l) : ∀ x ∈ l, Okp x := h.1

set_option maxRecDepth 100000 in
theorem not_any (a : Option Addr) (n cap : Nat) (l : List (Int × Int)) (w : World) (h : Ds w a n cap l) (hcan : Can l) :
    Calls Tryz.prog 29 #[.agg #[.slice a n cap]] w (SetP w fun d => inD d && !Dm l d) := by
  obtain ⟨i0, hi, hz0, hz1, hz2⟩ := info_parts infoSpan
  have hlen := can_len hcan
  obtain ⟨hl, hc, hm, h4⟩ := h
  unfold maxLen at hm
  rw [hl] at hlen
  have H4 := Lib.hid h4
  have HL := Lib.hid hl
  have HC := Lib.hid hcan
  clear h4 hl hcan
  go_enter Tryz.func29, Tryz.ntmps29
  go_wp2_with fail
  go_loopw [3, 4, 10] (fun v3 v4 v10 wr => ∃ (j : Nat) (f : Int) (acc : List (Int × Int)), j ≤ n ∧ v10 = .int .i64 j ∧ v4 = .int .i64 f ∧ 0 ≤ f ∧ f ≤ 30001 ∧ acc.length ≤ j ∧ Os 48 wr (w.heap.size + 2) v3 acc ∧ Hid (NotI l acc f (l.drop j)) ∧
    Below (w.heap.size + 2) ((w.alloc (.cells #[.slice a n cap] 25)).alloc (.cells #[.slice none 0 0] 25)) wr) (fun _ _ v _ => n - (intOf v).toNat)
  case atStart => exact ⟨0, 0, [], by omega, rfl, rfl, by omega, by omega, by simp, Os.nil _ _ _, NotI.start HC.out, Below.refl _ _⟩
  case round =>
    obtain ⟨j, f, acc, hj, rfl, rfl, hf0, hf1, hacc, hown, hpre, hbel⟩ := hrel
    obtain ⟨c0, c1, f1, hz, hbw⟩ := box2 hbel
    by_cases hjn : j < n
    · rcases H4.out with h0 | ⟨b, o, rfl, hb, hcell⟩
      · omega
      obtain ⟨⟨p1, p2⟩, hp⟩ : ∃ p, l[j]? = some p := ⟨_, List.getElem?_eq_getElem (by rw [HL.out]; exact hjn)⟩
      obtain ⟨x1, x2⟩ := hcell j _ hp
      have x1 := (hbw.cell (p := ⟨b, _, none⟩) hb).trans x1
      have x2 := (hbw.cell (p := ⟨b, _, none⟩) hb).trans x2
      dsimp only at x1 x2
      have hok := HC.out.1 _ (List.mem_of_getElem? hp)
      unfold Okp at hok
      dsimp only at hok
      have hst : NotI l _ _ (l.drop (j + 1)) := NotI.step (x := (p1, p2)) (by rw [← drop_at hp]; exact hpre.out)
      dsimp only at hst
      have hj0 : (0 : Int) ≤ (j : Int) := Int.natCast_nonneg _
      have hj1 : (j : Int) < (n : Int) := by omega
      have e1 : IntKind.i64.wrap (p1 - 1) = p1 - 1 := by rw [IntKind.wrap_i64]; omega
      have e2 : IntKind.i64.wrap (p2 + 1) = p2 + 1 := by rw [IntKind.wrap_i64]; omega
      have hb1 := hbel.alloc hz (.cells #[.int .i64 p1, .int .i64 p2] 48)
      by_cases hlt : f < p1
      · rw [if_pos hlt] at hst
        have HST := Lib.hid hst
        clear hcell hst hp hpre
        have hown1 := (hown.alloc (.cells #[.int .i64 p1, .int .i64 p2] 48)).alloc (.cells #[.int .i64 f, .int .i64 (p1 - 1)] 48)
        go_wp2_with (at_builtin; refine wpList_append_ds rfl (.tmp 18) (.tmp 24) 23 48 rfl Tryz.underlying23 (w.heap.size + 2) i0 hi hz0 hz1 hz2 _ _ rfl hown1 _ 1 1 [(f, p1 - 1)] rfl (Ds.one _ _ _ _ _ (by simp)) (by omega) (by simp; omega) ?_)
        intro v2 w2 hown2 hgr2
        have hb2 := (hb1.alloc (by simp; omega) (.cells #[.int .i64 f, .int .i64 (p1 - 1)] 48)).grown hgr2 (by simp; omega) (fun b hb => (hown.lt b hb).1)
        have d1 : w2.cell? ⟨wr.heap.size, 1, none⟩ = some (.int .i64 p2) := by
          rw [hgr2.cell (a := ⟨wr.heap.size, 1, none⟩) (v := .int .i64 p2)]
          · rw [World.cell?_alloc_lt _ _ _ (by simp)]; simp
          · intro e; have := (hown.lt _ e.symm).2; simp at this
        clear hgr2 hown1 hown hbel hb1 c0 c1 f1 x1 x2
        go_wp2_with fail
        go_roundw
        case rel => exact ⟨j + 1, _, acc ++ [(f, p1 - 1)], by omega, by go_num, rfl, by omega, by omega, by simp; omega, hown2, HST.out, hb2⟩
        case measure => simp [intOf]; omega
      · rw [if_neg hlt] at hst
        have HST := Lib.hid hst
        clear hcell hst hp hpre
        go_wp2_with fail
        go_roundw
        case rel => exact ⟨j + 1, _, acc, by omega, by go_num, rfl, by omega, by omega, by omega, hown.alloc _, HST.out, hb1⟩
        case measure => simp [intOf]; omega
    · obtain rfl : j = n := by omega
      have hst : NotI l acc f [] := by
        have := hpre.out
        rwa [List.drop_of_length_le (by rw [HL.out]; exact Nat.le_refl _)] at this
      have hend := hst.stop
      by_cases hf : f ≤ 30000
      · rw [if_pos hf] at hend
        have HE := Lib.hid hend
        clear hst hend hpre
        have hown1 := hown.alloc (.cells #[.int .i64 f, .int .i64 30000] 48)
        go_wp2_with (at_builtin; refine wpList_append_ds rfl (.tmp 32) (.tmp 35) 23 48 rfl Tryz.underlying23 (w.heap.size + 2) i0 hi hz0 hz1 hz2 _ _ rfl hown1 _ 1 1 [(f, 30000)] rfl (Ds.one _ _ _ _ _ (by simp)) (by omega) (by simp; omega) ?_)
        intro v2 w2 hown2 hgr2
        have hb2 := (hbel.alloc hz (.cells #[.int .i64 f, .int .i64 30000] 48)).grown hgr2 (by simp; omega) (fun b hb => (hown.lt b hb).1)
        obtain ⟨d0, d1, g1, hz', hbw'⟩ := box2 hb2
        obtain ⟨a2, n2, c2, rfl, hn2, hs2⟩ := hown2.dn
        have HS2 := Lib.hid hs2
        clear hgr2 hown1 hown2 hown hbel hs2 hn2 c0 c1 f1 hb2
        go_wp2_with fail
        have cs := World.cell?_setCell_same w2 ⟨w.heap.size + 1, 0, none⟩ (.slice a2 n2 c2) d1
        refine bodyPost_ret (v := .agg #[.slice a2 n2 c2]) (by simp [results, Tryz.results29, go_sem, cs]) rfl ?_
        exact ⟨a2, _, c2, _, rfl, HS2.out.set d1 (by intro x e; cases e), HE.out.1, HE.out.2, hbw'.setCell (show w.heap.size ≤ w.heap.size + 1 by omega) _⟩
      · rw [if_neg hf] at hend
        have HE := Lib.hid hend
        obtain ⟨a2, n2, c2, rfl, hn2, hs2⟩ := hown.dn
        have HS2 := Lib.hid hs2
        clear hst hend hpre hs2 hown hn2
        go_wp2_with fail
        have cs := World.cell?_setCell_same wr ⟨w.heap.size + 1, 0, none⟩ (.slice a2 n2 c2) c1
        refine bodyPost_ret (v := .agg #[.slice a2 n2 c2]) (by simp [results, Tryz.results29, go_sem, cs]) rfl ?_
        exact ⟨a2, _, c2, _, rfl, HS2.out.set c1 (by intro x e; cases e), HE.out.1, HE.out.2, hbw.setCell (show w.heap.size ≤ w.heap.size + 1 by omega) _⟩
end Go.Proofs.YtfdododighjjpaaGreatDoor.Dy
