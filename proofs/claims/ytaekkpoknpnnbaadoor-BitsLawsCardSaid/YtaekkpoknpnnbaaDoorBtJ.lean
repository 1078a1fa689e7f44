/- Contract: List. -/
import Derived.Test.YtaekkpoknpnnbaaDoorBtI
namespace Go.Proofs.YtaekkpoknpnnbaaDoor
open Go.RowKit Go.PlainAid Go.Shelf
attribute [local go_sem] Oper.semAt_some
set_option linter.unusedVariables false
set_option linter.unusedSimpArgs false
set_option maxHeartbeats 4000000

def i64v (x : Nat) : Value := .int .i64 ((x : Nat) : Int)
theorem info3i : (Tryd.prog.info? 3).map (fun i => (i.zero, i.size, i.bytes)) = some (some (.int .i64 0), 1, 8) := by kernel_rfl
theorem Tz.to {w : World} (h : Tz w) : Tzn w.heap.size w := h
theorem asc_length {l : List Nat} (h : Asc l) : l.length ≤ 4096 := by
  have : l = mlist (fun x => decide (x ∈ l)) := asc_ext h (asc_mlist _) fun x => by
    rw [mem_mlist, decide_eq_true_eq]; exact ⟨fun hx => ⟨h.2 x hx, hx⟩, fun hx => hx.2⟩
  rw [this]
  unfold mlist
  exact Nat.le_trans (List.length_filter_le _ _) (by simp)

set_option maxRecDepth 100000 in
theorem list_any (a : Option Addr) (n cap : Nat) (l : List Nat) (w : World) (h : Bs w a n cap l) (hT : Tz w) :
    Calls Tryd.prog 22 #[.agg #[.slice a n cap]] w fun e w' => ∃ v, e = .returned v ∧ w'.ownsRow w.heap.size 3 1 v l.length (l.map i64v) ∧ Below w.heap.size w w' := by
  obtain ⟨i0, hi, hz0, hz1, hz2⟩ := info_parts info3i
  have hL := Lib.hid (fun w' (hb : Below w.heap.size w w') => len_any a n cap l w' (h.below hb))
  have hlen : l.length ≤ 4096 := by obtain ⟨ws, _, hr⟩ := h; exact asc_length hr.asc
  have hblk : Hid (∀ p, a = some p → p.block < w.heap.size) := by
    obtain ⟨ws, ⟨_, _, _, ⟨rfl, _⟩ | ⟨b, o, rfl, hb, _⟩⟩, _⟩ := h
    · intro p hp; cases hp
    · intro p hp; cases hp; exact hb
  have HH := Lib.hid h
  have HT := Lib.hid hT
  have hncap : n ≤ cap := by obtain ⟨ws, hw, _⟩ := h; exact hw.2.1
  clear h hT
  obtain ⟨m, hm⟩ : ∃ m, m = l.length := ⟨_, rfl⟩
  rw [← hm] at hL hlen
  have HM := Lib.hid hm
  clear hm
  have hby : i0.bytes * m ≤ 281474976710656 := by rw [hz2]; omega
  have hmx : m ≤ maxLen := by unfold maxLen; omega
  refine (callsIn_wide (n := 3)).1 ?_
  refine callsIn_of_wp_marks Tryd.func22 rfl trivial ?_ rfl
  simp only [Tryd.ntmps22, List.size_toArray, List.length_cons, List.length_nil, Nat.reduceAdd, Nat.reduceSub, Array.replicate_succ, Array.replicate_zero, List.push_toArray, List.append_toArray, List.nil_append, List.cons_append]
  gi_wp2_with (first | (refine ⟨trivial, ?_⟩; gi_at_call 48; refine (callsIn_wide.2 (hL.out _ (by go_grown))).mono ?_; rintro e w2 ⟨rfl, hb2⟩; have q0 := (hb2.cell (p := ⟨w.heap.size, 0, none⟩) (by simp)).trans (new1 w _ _).1; have hz2' := hb2.size; simp at hz2'; have hbw := bel1 hb2) | (gi_at_make; refine wpListIn_make_own _ rfl _ (.tmp 6) 22 rfl w.heap.size 3 i0 (.int .i64 0) 1 Tryd.underlying22 hi hz0 hz1 .i64 .i64 m m rfl rfl rfl hby hmx (by omega) ?_; (intro w3 hown hgr; have hown3 := Lib.hid hown; have hb3 := (Below.refl w2.heap.size w2).grown hgr (Nat.le_refl _) (fun b hb => by cases hb); have q3 := (hb3.cell (p := ⟨w.heap.size, 0, none⟩) (by exact hz2')).trans q0; have hz3 := hb3.size; have l3 : w.heap.size < w3.heap.size := (by omega); clear hown hgr)) | (refine ⟨trivial, ?_⟩; gi_at_call 20; refine (all_in 2 _ _ _ _).mono ?_; rintro e w4 ⟨rfl, rfl⟩))
  have hb03 := Lib.hid (hbw.trans (hb3.mono hbw.size))
  have hzw3 := hb03.out.size
  have bO := Boxed.new w3 22 (.slice (some ⟨w2.heap.size, 0, none⟩) 0 m)
  have bN := Boxed.new (w3.alloc (.cells #[.slice (some ⟨w2.heap.size, 0, none⟩) 0 m] 22)) 27 (.slice a n cap)
  rw [World.size_alloc] at bN
  have hB0 : Below w.heap.size w ((w3.alloc (.cells #[.slice (some ⟨w2.heap.size, 0, none⟩) 0 m] 22)).alloc (.cells #[.slice a n cap] 27)) := (hb03.out.alloc hzw3 _).alloc (by simp; omega) _
  refine wpIn_rangeFunc_ownG (F := Fence.wide) rfl (show 1 ≤ 3 by omega) (gf := 52) (lb := #[.pointer (some ⟨w3.heap.size + 1, 0, none⟩)]) rfl trivial (enters_of Tryd.func52 (by kernel_rfl) rfl)
    (all_stops (3 - 1) (by omega) (w3.heap.size + 1) w.heap.size a n cap l _ (by simp) (by simp; omega) ((Tz.to HT.out).below hB0) bN.cell (HH.out.below hB0) hblk.out) belowK_t (belowK_b (by simp; omega)) (Below.refl _ _) (fun _ => rfl)
    (fun pre W => (∃ v, Boxed W w3.heap.size 22 v ∧ W.ownsRow w.heap.size 3 1 v pre.length (pre.map i64v) ∧ True) ∧ Below w.heap.size w W)
    (fun _ _ _ => False)
    (OwnFrom.and (Own.from (holdsRow_own w.heap.size w3.heap.size 22 3 1 (fun pre : List Nat => pre.length) (fun pre => pre.map i64v) (fun pre v => True)) _) (ownFrom_below (Nat.le_refl _) (by simp; omega)))
    (fun _ _ _ _ _ hs _ _ => hs)
    ⟨⟨_, bO.alloc _, (hown3.out.alloc _).alloc _, trivial⟩, hB0⟩
    (fun x => { tmps := #[.agg #[.slice a n cap], .pointer (some ⟨w.heap.size, 0, none⟩), .slice none 0 0, .pointer (some ⟨w3.heap.size, 0, none⟩), .int .i64 ((x : Nat) : Int), .agg #[.slice a n cap], .int .i64 (m : Nat), .slice (some ⟨w2.heap.size, 0, none⟩) 0 m, .agg #[.slice a n cap], .func (.func 52) #[] #[.pointer (some ⟨w3.heap.size + 1, 0, none⟩)], .int .i64 ((x : Nat) : Int), undef, undef, undef, undef, undef], defers := [] }) ?assign ?body ?done ?stop
  case assign =>
    intro lk x W K hK
    gi_wp2
    exact hK
  case body =>
    rintro lk pre x W ⟨⟨v, hv, hrow, -⟩, hB⟩ hlt
    have hc := hv.cell
    have hpl : pre.length < 4096 := by have := HM.out; omega
    gi_wp2_with (gi_at_builtin; refine wpListIn_append_own _ rfl _ _ 22 rfl w.heap.size 3 i0 (.int .i64 0) 1 8 Tryd.underlying22 hi hz0 hz1 hz2 rfl (by decide) _ _ _ rfl (hrow.alloc _) ⟨W.heap.size, 0, none⟩ 1 1 [.int .i64 ((x : Nat) : Int)] rfl rfl (cell_one_new _ _ _) (by simp [Value.oneCell']) (by unfold maxLen; omega) (by omega) (by have := hB.size; simp; omega) ?_; intro v' w1 hown' hgrow _; obtain ⟨g', cap', rfl⟩ := ownsRow_succ hown'; obtain ⟨hv1, hv2, hr2, hk2, hb2⟩ := hv.appended (by decide) hrow hB.size hzw3 hown' hgrow; have hc1 := hv1.cell; have hf1 := hv1.frozen)
    exact ⟨hk2.from _, hb2, ⟨_, hv2, by simpa [i64v] using hr2, trivial⟩, hB.trans hb2⟩
  case done =>
    rintro D ys W hD rfl ⟨⟨v, hv, hrow, -⟩, hB⟩ hK
    have hc := hv.cell
    gi_wp2
    refine ⟨by simp, .inl ⟨_, _, rfl, run_takeDeferred hK, ?_⟩⟩
    exact ⟨_, results_tmp rfl _ _ _, v, rfl, ownsRow_putObj hrow _ hK rfl, hB.trans (belowK_b (w := w) (Nat.le_refl _) W D _ _ (by simp at hD; omega) hK rfl rfl)⟩
  case stop =>
    rintro D c pre W _ _ h _
    exact h.elim
end Go.Proofs.YtaekkpoknpnnbaaDoor
