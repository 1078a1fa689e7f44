/- The walk of BitsRanges. -/
import Derived.Test.YtaekkpoknpnnbaaDoorBuG
namespace Go.Proofs.YtaekkpoknpnnbaaDoor
open Go.RowKit Go.PlainAid Go.Shelf
attribute [local go_sem] Oper.semAt_some
set_option linter.unusedVariables false
set_option linter.unusedSimpArgs false
set_option maxHeartbeats 8000000

theorem al2' (w : World) (o o2 : Obj) : Below w.heap.size w ((w.alloc o).alloc o2) := ((Below.refl _ _).alloc (Nat.le_refl _) _).alloc (by simp) _
theorem bs_blk {w : World} {a : Option Addr} {n cap : Nat} {l : List Nat} (h : Bs w a n cap l) : ∀ p, a = some p → p.block < w.heap.size := by
  obtain ⟨ws, ⟨_, _, _, ⟨rfl, _⟩ | ⟨b, o, rfl, hb, _⟩⟩, _⟩ := h
  · intro p hp; cases hp
  · intro p hp; cases hp; exact hb
theorem bd0' {w w3 : World} (h : Below w.drew.heap.size w.drew w3) : Below w.heap.size w w3 := (Below.refl w.heap.size w).drew.trans (h.mono (by simp))
theorem row_at {w : World} {B n cap k : Nat} {e : TypeId} {a : Option Addr} {xs : List Value} (h : w.ownsRow B e 1 (.slice a n cap) n xs) (hk : k < n) :
    ∃ g u, a = some ⟨g, 0, none⟩ ∧ B ≤ g ∧ g < w.heap.size ∧ w.cell? ⟨g, k, none⟩ = some u ∧ w.frozen? ⟨g, k, none⟩ = false := by
  obtain ⟨n', rfl⟩ : ∃ n', n = n' + 1 := ⟨n - 1, by omega⟩
  obtain ⟨g, c, e2⟩ := ownsRow_succ h
  cases e2
  have hl := World.ownsRow.lt h g rfl
  have hx : k < xs.length := by have := h.1; omega
  exact ⟨g, xs[k], rfl, hl.1, hl.2, by rw [World.ownsRow.cellAt h k (by simpa using hk), List.getElem?_eq_getElem hx], World.ownsRow.frozenAt h k⟩
theorem abs_rounds {P : Program} {c : Code} {Q : Exit → Act → World → Prop} {k : Nat} {a : Act} {W : World} (F : World → Prop) (hF : F W) (h : ∀ W', F W' → Code.rounds P c Q k a W') : Code.rounds P c Q k a W := h W hF
set_option maxRecDepth 100000 in
theorem bitsRanges_walk (a : Option Addr) (n cap : Nat) (zs : List Int) (u : Int) (w : World) (hW : Wld w) (h : Iw w a n cap zs) (hu0 : 0 ≤ u) (hu1 : u ≤ 255) :
    Calls Tryd.prog 4 #[.slice a n cap, .int .u8 u] w fun e w' => e = .returned (.bool true) ∧ Below w.heap.size w w' := by
  obtain ⟨i0, hif, hz0, hz1, hz2⟩ := info_parts info3i
  obtain ⟨n', ys, hn, hi, hf⟩ := few_do a n cap zs w h
  obtain ⟨L, eL⟩ : ∃ L, L = ofL ys := ⟨_, rfl⟩
  have AL : Hid (Asc L) := by rw [eL]; exact asc_ofL ys
  have HL60 : Hid (L.length ≤ 4096) := asc_len AL.out
  obtain ⟨nn, hnn⟩ : ∃ nn : Nat, u % 70 = nn := ⟨(u % 70).toNat, by omega⟩
  have hnn70 : nn < 70 := by omega
  have EL := Lib.hid eL
  have HW := Lib.hid hW
  have HF := Lib.hid hf
  have HI := Lib.hid hi
  clear hW hf hi h eL
  have tk0 : Hid True := trivial
  refine (callsIn_wide (n := 3)).1 ?_
  refine callsIn_of_wp_marks Tryd.func4 rfl trivial ?_ rfl
  simp only [Tryd.ntmps4, List.size_toArray, List.length_cons, List.length_nil, Nat.reduceAdd, Nat.reduceSub, Array.replicate_succ, Array.replicate_zero, List.push_toArray, List.append_toArray, List.nil_append, List.cons_append]
  refine wpIn_wide.2 ?_
  go_wp2_with (first
    | (go_at_call 13; (with_reducible refine (awake_any _ HW.out).mono ?_); rintro e w0 ⟨rfl, hB⟩)
    | (go_at_call 14; (with_reducible refine (HF.out _ hB).mono ?_); rintro e wf ⟨rfl, hw⟩; rw [hw]; clear hw)
    | (go_at_call 16; clear tk0; (with_reducible refine (of_any _ _ _ _ _ (HI.out.below hB) (by omega)).mono ?_); have tk1 : Hid True := trivial; rintro e w1 ⟨a1, n1, c1, rfl, hs1, hb⟩; have hB := step_call hB hb; clear hb; rw [← EL.out] at hs1)
    | (go_at_call 17; clear tk1; (with_reducible refine (r_of _ _ _ _ _ (HI.out.below hB)).mono ?_); have tk2 : Hid True := trivial; rintro e w2 ⟨a2, n2, c2, rfl, hi2, hb⟩; have hB := step_call hB hb; have hs1 := hs1.below hb; clear hb; rw [← EL.out] at hi2))
  have HS1 := Lib.hid hs1
  have HI2 := Lib.hid hi2
  have HB2 := Lib.hid hB
  have hzw2 := hB.size
  clear hs1 hi2 hB
  have HLN : Hid ((cs L).length = n2) := HI2.out.1
  obtain ⟨m, hm⟩ : ∃ m : Nat, min (n2 : Int) (nn : Int) = m := ⟨min n2 nn, by omega⟩
  have hmc : m ≤ c2 := by have := HI2.out.2.1; omega
  have hc2m : c2 ≤ 9223372036854775807 := HI2.out.2.2.1
  have hmn : m ≤ n2 := by omega
  have hmin : min n2 m = m := by omega
  obtain ⟨a2v, ha2v⟩ : ∃ a2v, a2v = a2 := ⟨_, rfl⟩
  have HIT : Hid (Iw w2 a2v m c2 ((cs L).take m)) := by have := HI2.out.take m; rw [hmin, ← ha2v] at this; exact this
  have haddr : a2 = none ∧ n2 = 0 ∧ c2 = 0 ∧ m = 0 ∨ ∃ b2 o2, a2 = some ⟨b2, o2, none⟩ := by
    rcases HI2.out.2.2.2 with ⟨h1, h2, h3⟩ | ⟨b2, o2, h1, _⟩
    · exact .inl ⟨h1, h2, h3, by omega⟩
    · exact .inr ⟨b2, o2, h1⟩
  have hmz : min (0 : Int) (nn : Int) = 0 := by omega
  clear hmin
  rcases haddr with ⟨rfl, rfl, rfl, rfl⟩ | ⟨b2, o2, rfl⟩
  · subst ha2v
    by_cases hcase : L.length ≤ nn
    · have HEQ0 : Hid (decide (cs L = (cs L).take 0) = true) := decide_eq_true (by rw [List.take_of_length_le (by have h := HLN.out; rw [cs_length] at h; rw [cs_length]; omega)])
      refine wp_loop_rounds 3 ?_
      refine abs_rounds (fun V => Below (w2.heap.size + 2) ((w2.alloc (.cells #[.slice a1 n1 c1] 27)).alloc (.cells #[.int .i64 nn] 3)) V) (Below.refl _ _) (fun V hE1 => ?_)
      rw [rounds_succ]
      obtain ⟨q1, q2, -, hzV, hDV⟩ := box2 hE1
      have hlt1 : w2.heap.size < V.heap.size := by omega
      have hlt2 : w2.heap.size + 1 < V.heap.size := by omega
      go_wp2_with (go_at_call 20; refine ((callsIn_wide.1 (all_in 2 _ _ _ _))).mono ?_; rintro e wA1 ⟨rfl, rfl⟩)
      have bO := Boxed.new V 22 (.slice none 0 0)
      have bN := Boxed.new (V.alloc (.cells #[.slice none 0 0] 22)) 27 (.slice a1 n1 c1)
      rw [World.size_alloc] at bN
      have hVb : Below V.heap.size V ((V.alloc (.cells #[.slice none 0 0] 22)).alloc (.cells #[.slice a1 n1 c1] 27)) := al2' _ _ _
      have hSV : Bs V a1 n1 c1 L := HS1.out.below hDV
      have hblk : ∀ p, a1 = some p → p.block < V.heap.size := bs_blk hSV
      have hTV : Tz V := (HW.out.below (step_call HB2.out hDV)).tz
      refine (wpIn_wide (n := 3)).1 ?_
      refine' wpIn_rangeFunc_ownG (F := Fence.wide) (n := 3) rfl (show 1 ≤ 3 by omega) (gf := 52) (lb := #[.pointer (some ⟨V.heap.size + 1, 0, none⟩)]) rfl trivial (enters_of Tryd.func52 (by kernel_rfl) rfl)
        (all_stops (3 - 1) (by omega) (V.heap.size + 1) V.heap.size a1 n1 c1 L _ (by simp) (by simp; omega) ((Tz.to hTV).below hVb) bN.cell (hSV.below hVb) hblk) belowK_t (belowK_b (by simp; omega)) (Below.refl _ _) (fun _ => rfl)
        (fun pre W => (∃ v, Boxed W V.heap.size 22 v ∧ W.ownsRow V.heap.size 3 1 v pre.length (pre.map i64v) ∧ pre.length ≤ nn) ∧ Below V.heap.size V W)
        (fun _ _ _ => False)
        (OwnFrom.and (Own.from (holdsRow_own V.heap.size V.heap.size 22 3 1 (fun pre : List Nat => pre.length) (fun pre => pre.map i64v) (fun pre v => pre.length ≤ nn)) _) (ownFrom_below (Nat.le_refl _) (by simp; omega)))
        (fun _ _ _ _ _ hs _ _ => hs)
        ⟨⟨_, bO.alloc _, World.ownsRow_nil _ _ _ _, Nat.zero_le _⟩, hVb⟩
        _ ?assign ?body ?done ?stop
      case assign =>
        intro lk x W K hK
        gi_wp2
        exact hK
      case body =>
        rintro lk pre x W ⟨⟨v, hv, hrow, hle⟩, hB⟩ hlt
        have hL60 := HL60.out
        obtain ⟨av, cv, rfl, -⟩ := iw_of_i64 hrow rfl
        have hc := hv.cell
        have qn := (hB.cell (p := ⟨w2.heap.size + 1, 0, none⟩) (show w2.heap.size + 1 < V.heap.size by omega)).trans q2
        have hne : (((pre.length : Nat) : Int) == (nn : Int)) = false := beq_eq_false_iff_ne.2 (by omega)
        gi_wp2_with (gi_at_builtin; refine wpListIn_append_own _ rfl _ _ 22 rfl V.heap.size 3 i0 (.int .i64 0) 1 8 Tryd.underlying22 hif hz0 hz1 hz2 rfl (by decide) _ _ _ rfl (hrow.alloc _) ⟨W.heap.size, 0, none⟩ 1 1 [.int .i64 ((x : Nat) : Int)] rfl rfl (cell_one_new _ _ _) (by simp [Value.oneCell']) (by unfold maxLen; omega) (by omega) (by have := hB.size; simp; omega) ?_; intro v' w1 hown' hgrow _; obtain ⟨g', cap', rfl⟩ := ownsRow_succ hown'; obtain ⟨hv1, hv2, hr2, hk2, hb2⟩ := hv.appended (by decide) hrow hB.size (Nat.le_refl _) hown' hgrow; have hc1 := hv1.cell; have hf1 := hv1.frozen)
        exact ⟨hk2.from _, hb2, ⟨_, hv2, by simpa [i64v] using hr2, by simp; omega⟩, hB.trans hb2⟩
      case stop =>
        rintro D c pre W _ _ h _
        exact h.elim
      case done =>
        rintro D1 G W1 hD1 hys ⟨⟨v, hv, hrow, -⟩, hB1⟩ hK1
        have hys : G = L := hys
        rw [hys] at hrow
        clear hys
        obtain ⟨av1, cv1, rfl, hgot⟩ := iw_of_i64 hrow rfl
        have HEQ1 : Hid (decide (cs L = (cs L).take 0) = true) := HEQ0
        have hvc := hv.cell
        have hgV : V.heap.size < W1.heap.size := hv.lt
        have qn1 := (hB1.cell (p := ⟨w2.heap.size + 1, 0, none⟩) (show w2.heap.size + 1 < V.heap.size by omega)).trans q2
        have hEW1 := step_callB hE1 (by simp) hB1
        obtain ⟨-, -, -, hzW1, hDW1⟩ := box2 hEW1
        have HGOT := Lib.hid hgot
        have HA : Hid (Iw W1 none 0 0 ((cs L).take 0)) := HIT.out.below hDW1
        have HQ : Hid (∀ W', Below W1.heap.size W1 W' → W'.cell? ⟨V.heap.size, 0, none⟩ = some (.slice av1 L.length cv1) ∧ W'.cell? ⟨w2.heap.size + 1, 0, none⟩ = some (.int .i64 nn)) := fun W' hb => ⟨(hb.cell (p := ⟨V.heap.size, 0, none⟩) hgV).trans hvc, (hb.cell (p := ⟨w2.heap.size + 1, 0, none⟩) (show w2.heap.size + 1 < W1.heap.size by omega)).trans qn1⟩
        have hcvl : L.length ≤ cv1 := hgot.2.1
        have hcvm : cv1 ≤ 9223372036854775807 := hgot.2.2.1
        clear hv hrow hgot
        generalize hGL : L.length = gl at HGOT HQ hcvl ⊢
        clear hGL
        go_wp2_with fail
        go_region_held3 (fun w' => w'.cell? ⟨V.heap.size, 0, none⟩ = some (.slice av1 gl cv1) ∧ w'.cell? ⟨w2.heap.size + 1, 0, none⟩ = some (.int .i64 nn))
          (first | exact HQ.out _ (Below.refl _ _).drew | exact HQ.out _ hbE1)
          (first | (go_at_call 21; (with_reducible refine (equalI_any _ _ _ _ _ _ _ _ _ (HGOT.out.below (Below.refl W1.heap.size W1).drew) (HA.out.below (Below.refl W1.heap.size W1).drew)).mono ?_); rintro e wE1 ⟨rfl, hbE1⟩; rw [HEQ1.out]; replace hbE1 := bd0' hbE1))
        go_wp2_with fail
        have hE2 := step_callB hEW1 (by simp) hbE1
        have hKE1 : wE1.heap[D1]? = some (.deferred (some [])) := (hbE1.block D1 (Array.getElem?_eq_some_iff.1 hK1).1).trans hK1
        rw [rounds_succ]
        obtain ⟨q1, q2, -, hzV, hDV⟩ := box2 hE2
        have hlt1 : w2.heap.size < wE1.heap.size := by omega
        have hlt2 : w2.heap.size + 1 < wE1.heap.size := by omega
        go_wp2_with (go_at_call 20; refine ((callsIn_wide.1 (all_in 2 _ _ _ _))).mono ?_; rintro e wA2 ⟨rfl, rfl⟩)
        have bO := Boxed.new wE1 22 (.slice none 0 0)
        have bN := Boxed.new (wE1.alloc (.cells #[.slice none 0 0] 22)) 27 (.slice a1 n1 c1)
        rw [World.size_alloc] at bN
        have hVb : Below wE1.heap.size wE1 ((wE1.alloc (.cells #[.slice none 0 0] 22)).alloc (.cells #[.slice a1 n1 c1] 27)) := al2' _ _ _
        have hSV : Bs wE1 a1 n1 c1 L := HS1.out.below hDV
        have hblk : ∀ p, a1 = some p → p.block < wE1.heap.size := bs_blk hSV
        have hTV : Tz wE1 := (HW.out.below (step_call HB2.out hDV)).tz
        refine (wpIn_wide (n := 3)).1 ?_
        refine' wpIn_rangeFunc_ownG (F := Fence.wide) (n := 3) rfl (show 1 ≤ 3 by omega) (gf := 52) (lb := #[.pointer (some ⟨wE1.heap.size + 1, 0, none⟩)]) rfl trivial (enters_of Tryd.func52 (by kernel_rfl) rfl)
          (all_stops (3 - 1) (by omega) (wE1.heap.size + 1) wE1.heap.size a1 n1 c1 L _ (by simp) (by simp; omega) ((Tz.to hTV).below hVb) bN.cell (hSV.below hVb) hblk) belowK_t (belowK_b (by simp; omega)) (Below.refl _ _) (fun _ => rfl)
          (fun pre W => (∃ v, Boxed W wE1.heap.size 22 v ∧ W.ownsRow wE1.heap.size 3 1 v pre.length (pre.map i64v) ∧ pre.length ≤ nn) ∧ Below wE1.heap.size wE1 W)
          (fun _ _ _ => False)
          (OwnFrom.and (Own.from (holdsRow_own wE1.heap.size wE1.heap.size 22 3 1 (fun pre : List Nat => pre.length) (fun pre => pre.map i64v) (fun pre v => pre.length ≤ nn)) _) (ownFrom_below (Nat.le_refl _) (by simp; omega)))
          (fun _ _ _ _ _ hs _ _ => hs)
          ⟨⟨_, bO.alloc _, World.ownsRow_nil _ _ _ _, Nat.zero_le _⟩, hVb⟩
          _ ?assign ?body ?done ?stop
        case assign =>
          intro lk x W K hK
          gi_wp2
          exact hK
        case body =>
          rintro lk pre x W ⟨⟨v, hv, hrow, hle⟩, hB⟩ hlt
          have hL60 := HL60.out
          obtain ⟨av, cv, rfl, -⟩ := iw_of_i64 hrow rfl
          have hc := hv.cell
          have qn := (hB.cell (p := ⟨w2.heap.size + 1, 0, none⟩) (show w2.heap.size + 1 < wE1.heap.size by omega)).trans q2
          have hne : (((pre.length : Nat) : Int) == (nn : Int)) = false := beq_eq_false_iff_ne.2 (by omega)
          gi_wp2_with (gi_at_builtin; refine wpListIn_append_own _ rfl _ _ 22 rfl wE1.heap.size 3 i0 (.int .i64 0) 1 8 Tryd.underlying22 hif hz0 hz1 hz2 rfl (by decide) _ _ _ rfl (hrow.alloc _) ⟨W.heap.size, 0, none⟩ 1 1 [.int .i64 ((x : Nat) : Int)] rfl rfl (cell_one_new _ _ _) (by simp [Value.oneCell']) (by unfold maxLen; omega) (by omega) (by have := hB.size; simp; omega) ?_; intro v' w1 hown' hgrow _; obtain ⟨g', cap', rfl⟩ := ownsRow_succ hown'; obtain ⟨hv1, hv2, hr2, hk2, hb2⟩ := hv.appended (by decide) hrow hB.size (Nat.le_refl _) hown' hgrow; have hc1 := hv1.cell; have hf1 := hv1.frozen)
          exact ⟨hk2.from _, hb2, ⟨_, hv2, by simpa [i64v] using hr2, by simp; omega⟩, hB.trans hb2⟩
        case stop =>
          rintro D c pre W _ _ h _
          exact h.elim
        case done =>
          rintro D2 G W2 hD2 hys ⟨⟨v, hv, hrow, -⟩, hB2⟩ hK2
          have hys : G = L := hys
          rw [hys] at hrow
          clear hys
          obtain ⟨av2, cv2, rfl, hgot⟩ := iw_of_i64 hrow rfl
          have HEQ2 : Hid (decide (cs L = (cs L).take 0) = true) := HEQ0
          have hvc := hv.cell
          have hgV : wE1.heap.size < W2.heap.size := hv.lt
          have qn2 := (hB2.cell (p := ⟨w2.heap.size + 1, 0, none⟩) (show w2.heap.size + 1 < wE1.heap.size by omega)).trans q2
          have hEW2 := step_callB hE2 (by simp) hB2
          obtain ⟨-, -, -, hzW2, hDW2⟩ := box2 hEW2
          have HGOT := Lib.hid hgot
          have HA : Hid (Iw W2 none 0 0 ((cs L).take 0)) := HIT.out.below hDW2
          have HQ : Hid (∀ W', Below W2.heap.size W2 W' → W'.cell? ⟨wE1.heap.size, 0, none⟩ = some (.slice av2 L.length cv2) ∧ W'.cell? ⟨w2.heap.size + 1, 0, none⟩ = some (.int .i64 nn)) := fun W' hb => ⟨(hb.cell (p := ⟨wE1.heap.size, 0, none⟩) hgV).trans hvc, (hb.cell (p := ⟨w2.heap.size + 1, 0, none⟩) (show w2.heap.size + 1 < W2.heap.size by omega)).trans qn2⟩
          have hcvl : L.length ≤ cv2 := hgot.2.1
          have hcvm : cv2 ≤ 9223372036854775807 := hgot.2.2.1
          clear hv hrow hgot
          generalize hGL : L.length = gl at HGOT HQ hcvl ⊢
          clear hGL
          go_wp2_with fail
          go_region_held3 (fun w' => w'.cell? ⟨wE1.heap.size, 0, none⟩ = some (.slice av2 gl cv2) ∧ w'.cell? ⟨w2.heap.size + 1, 0, none⟩ = some (.int .i64 nn))
            (first | exact HQ.out _ (Below.refl _ _).drew | exact HQ.out _ hbE2)
            (first | (go_at_call 21; (with_reducible refine (equalI_any _ _ _ _ _ _ _ _ _ (HGOT.out.below (Below.refl W2.heap.size W2).drew) (HA.out.below (Below.refl W2.heap.size W2).drew)).mono ?_); rintro e wE2 ⟨rfl, hbE2⟩; rw [HEQ2.out]; replace hbE2 := bd0' hbE2))
          go_wp2_with fail
          have hE3 := step_callB hEW2 (by simp) hbE2
          have hKE2 : wE2.heap[D2]? = some (.deferred (some [])) := (hbE2.block D2 (Array.getElem?_eq_some_iff.1 hK2).1).trans hK2
          rw [rounds_succ]
          obtain ⟨q1, q2, -, hzZ, hDZ⟩ := box2 hE3
          have hltZ : w2.heap.size < wE2.heap.size := by omega
          have HK2 := Lib.hid hKE2
          have HK1 : Hid (wE2.heap[D1]? = some (.deferred (some []))) := by
            have h1 : D1 < wE1.heap.size := (Array.getElem?_eq_some_iff.1 hKE1).1
            have h2 := hB2.size
            exact ((hbE2.block D1 (by omega)).trans (hB2.block D1 h1)).trans hKE1
          have HD1 : Hid (D1 < wE1.heap.size) := (Array.getElem?_eq_some_iff.1 hKE1).1
          have HD2 : Hid (wE1.heap.size ≤ D2) := by show _ ≤ _; simp at hD2; omega
          have HD0 : Hid (w2.heap.size ≤ D1) := by show _ ≤ _; simp at hD1; omega
          have HZ12 : Hid (wE1.heap.size ≤ wE2.heap.size) := Nat.le_trans hB2.size hbE2.size
          have HSZ : Hid (Bs wE2 a1 n1 c1 L) := HS1.out.below hDZ
          have HWZ : Hid (Wld wE2) := HW.out.below (step_call HB2.out hDZ)
          have HBZ : Hid (Below w.heap.size w wE2) := step_call HB2.out hDZ
          have HIZ := Lib.hid (HI2.out.below hDZ)
          have HQZ : Hid (∀ W', Below wE2.heap.size wE2 W' → W'.cell? ⟨w2.heap.size, 0, none⟩ = some (.slice a1 n1 c1)) := fun W' hb => (hb.cell (p := ⟨w2.heap.size, 0, none⟩) hltZ).trans q1
          have HZW : Hid (w.heap.size ≤ w2.heap.size) := hzw2
          go_wp2_with fail
          go_region_held3 (fun w' => w'.cell? ⟨w2.heap.size, 0, none⟩ = some (.slice a1 n1 c1))
            (first | exact HQZ.out _ (Below.refl _ _).drew | exact HQZ.out _ hb8 | exact HQZ.out _ hb7)
            (first
              | (go_at_call 22; (with_reducible refine (list_any a1 n1 c1 L _ (HSZ.out.below (Below.refl wE2.heap.size wE2).drew) (HWZ.out.below (Below.refl wE2.heap.size wE2).drew).tz).mono ?_); rintro e w7 ⟨v7, rfl, hr7, hb7⟩; replace hb7 := bd0' hb7)
              | (go_at_call 23; (with_reducible refine (bytes_any a1 n1 c1 L _ (HSZ.out.below hb7)).mono ?_); rintro e w8 ⟨bs, v8, rfl, -, hr8, hb8⟩; have HB78 := Lib.hid hb8; replace hb8 := hb7.trans (hb8.mono hb7.size)))
          obtain ⟨al, cl, rfl, hil⟩ := iw_of_i64 hr7 rfl
          obtain ⟨ab, cb, rfl, hlb, hcb⟩ := RowY.slice (show RowY w8 w7.heap.size v8 bs from hr8)
          have hcl1 := hil.2.1
          have hcl2 := hil.2.2.1
          have HG7 : Hid (∀ g, al = some ⟨g, 0, none⟩ → g < w7.heap.size) := fun g hg => (World.ownsRow.lt hr7 g (by rw [hg]; rfl)).2
          have HR7 : Hid (w8.ownsRow wE2.heap.size 3 1 (.slice al L.length cl) L.length (L.map i64v)) := owns_below (show w7.ownsRow wE2.heap.size 3 1 (.slice al L.length cl) L.length (L.map i64v) from hr7) (Nat.le_refl _) HB78.out
          have HR8 := Lib.hid hr8
          have HZ7 : Hid (wE2.heap.size ≤ w7.heap.size) := hb7.size
          have HB8 := Lib.hid hb8
          clear hr7 hr8 hil hb7 hb8
          generalize L.map i64v = xs0 at HR7
          generalize hLN2 : L.length = nl at HR7 hcl1 ⊢
          generalize bs.map u8v = ys0 at HR8
          generalize bs.length = nb at HR8 hlb ⊢
          have hnl : nl ≤ 4096 := by have := HL60.out; omega
          clear hLN2
          go_wp2_with fail
          go_loopw [54] (fun v54 wr => ∃ (k : Nat) (xs : List Value), k ≤ nl ∧ v54 = .int .i64 k ∧ Hid (wr.ownsRow wE2.heap.size 3 1 (.slice al nl cl) nl xs) ∧ Hid (wr.ownsRow w7.heap.size 5 1 (.slice ab nb cb) nb ys0) ∧ Hid (Below wE2.heap.size wE2 wr)) (fun v _ => nl - (intOf v).toNat)
          case atStart => exact ⟨0, _, Nat.zero_le _, rfl, HR7.out, HR8.out, HB8.out⟩
          case round =>
            obtain ⟨k, xs, hk, rfl, HX, HY, HBr⟩ := hrel
            by_cases hlt : k < nl
            · obtain ⟨g, vg, rfl, hg1, hg2, x1, f1⟩ := row_at HX.out hlt
              have hg7 := HG7.out g rfl
              go_wp2_with fail
              go_roundw
              case rel => exact ⟨k + 1, xs.set k (.int .i64 7), by omega, by go_num, (World.ownsRow.stored HX.out k _).1, owns_set HY.out (fun b hb => by have := (World.ownsRow.lt HY.out b hb).1; show b ≠ g; omega) _, HBr.out.setCell hg1 _⟩
              case measure => simp [intOf]; omega
            · go_wp2_with fail
              go_loopw [63] (fun v63 wr => ∃ (k : Nat) (xs : List Value), k ≤ nb ∧ v63 = .int .i64 k ∧ Hid (wr.ownsRow w7.heap.size 5 1 (.slice ab nb cb) nb xs) ∧ Hid (Below wE2.heap.size wE2 wr)) (fun v _ => nb - (intOf v).toNat)
              case atStart => exact ⟨0, _, Nat.zero_le _, rfl, HY.out, HBr.out⟩
              case round =>
                obtain ⟨k2, zs2, hk2, rfl, HY2, HBr2⟩ := hrel
                by_cases hlt2 : k2 < nb
                · obtain ⟨g, vg, rfl, hg1, hg2, x1, f1⟩ := row_at HY2.out hlt2
                  have hg7 : wE2.heap.size ≤ g := Nat.le_trans HZ7.out hg1
                  go_wp2_with fail
                  go_roundw
                  case rel => exact ⟨k2 + 1, zs2.set k2 (.int .u8 255), by omega, by go_num, (World.ownsRow.stored HY2.out k2 _).1, HBr2.out.setCell hg7 _⟩
                  case measure => simp [intOf]; omega
                · have q9 := HQZ.out _ HBr2.out
                  go_wp2_with (go_at_call 15; (with_reducible refine (is_yes _ _ _ _ _ _ _ _ (HSZ.out.below HBr2.out) (HIZ.out.below HBr2.out) (HWZ.out.below HBr2.out)).mono ?_); rintro e wF ⟨rfl, hbF⟩)
                  have hBF := HBr2.out.trans (hbF.mono HBr2.out.size)
                  have k2F := (hBF.block D2 (Array.getElem?_eq_some_iff.1 HK2.out).1).trans HK2.out
                  have k1F := (hBF.block D1 (Array.getElem?_eq_some_iff.1 HK1.out).1).trans HK1.out
                  have hbD2 : Below wE1.heap.size wF (wF.putObj D2 _) := belowK_b (w := wE1) (Nat.le_refl _) wF D2 _ (.deferred none) HD2.out k2F rfl rfl
                  have k1G := (hbD2.block D1 HD1.out).trans k1F
                  refine ⟨by simp, .inl ⟨_, _, rfl, run_takeDeferred k2F, ?_⟩⟩
                  refine ⟨by simp, .inl ⟨_, _, rfl, run_takeDeferred k1G, ?_⟩⟩
                  exact ⟨_, results_tmp rfl _ _ _, rfl, ((HBZ.out.trans (hBF.mono HBZ.out.size)).trans (hbD2.mono (by have := HZW.out; have := HD0.out; have := HD1.out; omega))).trans (belowK_b (w := w) (Nat.le_refl _) _ D1 _ _ (by have := HZW.out; have := HD0.out; omega) k1G rfl rfl)⟩
    · have HEQ0 : ∀ G : List Nat, G <+: L → G.length = nn → Hid (decide (cs G = (cs L).take 0) = true) := fun G hp hl => decide_eq_true (by
        have h1 : 0 = nn := by have := HLN.out; rw [cs_length] at this; omega
        rw [h1, ← hl]
        unfold cs
        rw [← List.map_take, ← List.prefix_iff_eq_take.1 hp])
      refine wp_loop_rounds 3 ?_
      refine abs_rounds (fun V => Below (w2.heap.size + 2) ((w2.alloc (.cells #[.slice a1 n1 c1] 27)).alloc (.cells #[.int .i64 nn] 3)) V) (Below.refl _ _) (fun V hE1 => ?_)
      rw [rounds_succ]
      obtain ⟨q1, q2, -, hzV, hDV⟩ := box2 hE1
      have hlt1 : w2.heap.size < V.heap.size := by omega
      have hlt2 : w2.heap.size + 1 < V.heap.size := by omega
      go_wp2_with (go_at_call 20; refine ((callsIn_wide.1 (all_in 2 _ _ _ _))).mono ?_; rintro e wA1 ⟨rfl, rfl⟩)
      have bO := Boxed.new V 22 (.slice none 0 0)
      have bN := Boxed.new (V.alloc (.cells #[.slice none 0 0] 22)) 27 (.slice a1 n1 c1)
      rw [World.size_alloc] at bN
      have hVb : Below V.heap.size V ((V.alloc (.cells #[.slice none 0 0] 22)).alloc (.cells #[.slice a1 n1 c1] 27)) := al2' _ _ _
      have hSV : Bs V a1 n1 c1 L := HS1.out.below hDV
      have hblk : ∀ p, a1 = some p → p.block < V.heap.size := bs_blk hSV
      have hTV : Tz V := (HW.out.below (step_call HB2.out hDV)).tz
      refine (wpIn_wide (n := 3)).1 ?_
      refine' wpIn_rangeFunc_ownG (F := Fence.wide) (n := 3) rfl (show 1 ≤ 3 by omega) (gf := 52) (lb := #[.pointer (some ⟨V.heap.size + 1, 0, none⟩)]) rfl trivial (enters_of Tryd.func52 (by kernel_rfl) rfl)
        (all_stops (3 - 1) (by omega) (V.heap.size + 1) V.heap.size a1 n1 c1 L _ (by simp) (by simp; omega) ((Tz.to hTV).below hVb) bN.cell (hSV.below hVb) hblk) belowK_t (belowK_b (by simp; omega)) (Below.refl _ _) (fun _ => rfl)
        (fun pre W => (∃ v, Boxed W V.heap.size 22 v ∧ W.ownsRow V.heap.size 3 1 v pre.length (pre.map i64v) ∧ pre.length ≤ nn) ∧ Below V.heap.size V W)
        (fun c xs W => (∃ v, Boxed W V.heap.size 22 v ∧ W.ownsRow V.heap.size 3 1 v xs.dropLast.length (xs.dropLast.map i64v) ∧ (xs.dropLast.length = nn ∧ c = Code.exit 2)) ∧ Below V.heap.size V W)
        (OwnFrom.and (Own.from (holdsRow_own V.heap.size V.heap.size 22 3 1 (fun pre : List Nat => pre.length) (fun pre => pre.map i64v) (fun pre v => pre.length ≤ nn)) _) (ownFrom_below (Nat.le_refl _) (by simp; omega)))
        (fun c => OwnFrom.and (Own.from (holdsRow_own V.heap.size V.heap.size 22 3 1 (fun xs : List Nat => xs.dropLast.length) (fun xs => xs.dropLast.map i64v) (fun xs v => xs.dropLast.length = nn ∧ c = Code.exit 2)) _) (ownFrom_below (Nat.le_refl _) (by simp; omega)))
        ⟨⟨_, bO.alloc _, World.ownsRow_nil _ _ _ _, Nat.zero_le _⟩, hVb⟩
        _ ?assign ?body ?done ?stop
      case assign =>
        intro lk x W K hK
        gi_wp2
        exact hK
      case body =>
        rintro lk pre x W ⟨⟨v, hv, hrow, hle⟩, hB⟩ hlt
        have hL60 := HL60.out
        obtain ⟨av, cv, rfl, -⟩ := iw_of_i64 hrow rfl
        have hc := hv.cell
        have qn := (hB.cell (p := ⟨w2.heap.size + 1, 0, none⟩) (show w2.heap.size + 1 < V.heap.size by omega)).trans q2
        by_cases hbr : pre.length = nn
        · have hne : (((pre.length : Nat) : Int) == (nn : Int)) = true := beq_iff_eq.2 (by omega)
          gi_wp2_with fail
          exact ⟨KeepsFrom.refl _ _, ⟨_, hv, by rw [List.dropLast_concat]; exact hrow, by rw [List.dropLast_concat]; exact hbr, rfl⟩, hB⟩
        · have hne : (((pre.length : Nat) : Int) == (nn : Int)) = false := beq_eq_false_iff_ne.2 (by omega)
          gi_wp2_with (gi_at_builtin; refine wpListIn_append_own _ rfl _ _ 22 rfl V.heap.size 3 i0 (.int .i64 0) 1 8 Tryd.underlying22 hif hz0 hz1 hz2 rfl (by decide) _ _ _ rfl (hrow.alloc _) ⟨W.heap.size, 0, none⟩ 1 1 [.int .i64 ((x : Nat) : Int)] rfl rfl (cell_one_new _ _ _) (by simp [Value.oneCell']) (by unfold maxLen; omega) (by omega) (by have := hB.size; simp; omega) ?_; intro v' w1 hown' hgrow _; obtain ⟨g', cap', rfl⟩ := ownsRow_succ hown'; obtain ⟨hv1, hv2, hr2, hk2, hb2⟩ := hv.appended (by decide) hrow hB.size (Nat.le_refl _) hown' hgrow; have hc1 := hv1.cell; have hf1 := hv1.frozen)
          exact ⟨hk2.from _, hb2, ⟨_, hv2, by simpa [i64v] using hr2, by simp; omega⟩, hB.trans hb2⟩
      case done =>
        rintro D ys W hD rfl ⟨⟨v, hv, hrow, hle⟩, hB⟩ hK
        exact absurd hle (by omega)
      case stop =>
        rintro D1 c pre W1 hD1 hpre ⟨⟨v, hv, hrow, hlen, rfl⟩, hB1⟩ hK1
        obtain ⟨G, hG⟩ : ∃ G, G = pre.dropLast := ⟨_, rfl⟩
        rw [← hG] at hrow hlen
        have HEQ1 : Hid (decide (cs G = (cs L).take 0) = true) := HEQ0 G (by rw [hG]; exact (List.dropLast_prefix pre).trans hpre) hlen
        clear hG
        obtain ⟨av1, cv1, rfl, hgot⟩ := iw_of_i64 hrow rfl
        gi_wp2
        have hvc := hv.cell
        have hgV : V.heap.size < W1.heap.size := hv.lt
        have qn1 := (hB1.cell (p := ⟨w2.heap.size + 1, 0, none⟩) (show w2.heap.size + 1 < V.heap.size by omega)).trans q2
        have hEW1 := step_callB hE1 (by simp) hB1
        obtain ⟨-, -, -, hzW1, hDW1⟩ := box2 hEW1
        have HGOT := Lib.hid hgot
        have HA : Hid (Iw W1 none 0 0 ((cs L).take 0)) := HIT.out.below hDW1
        have HQ : Hid (∀ W', Below W1.heap.size W1 W' → W'.cell? ⟨V.heap.size, 0, none⟩ = some (.slice av1 G.length cv1) ∧ W'.cell? ⟨w2.heap.size + 1, 0, none⟩ = some (.int .i64 nn)) := fun W' hb => ⟨(hb.cell (p := ⟨V.heap.size, 0, none⟩) hgV).trans hvc, (hb.cell (p := ⟨w2.heap.size + 1, 0, none⟩) (show w2.heap.size + 1 < W1.heap.size by omega)).trans qn1⟩
        have hcvl : G.length ≤ cv1 := hgot.2.1
        have hcvm : cv1 ≤ 9223372036854775807 := hgot.2.2.1
        clear hv hrow hgot
        generalize hGL : G.length = gl at HGOT HQ hcvl ⊢
        clear hGL
        go_wp2_with fail
        go_region_held3 (fun w' => w'.cell? ⟨V.heap.size, 0, none⟩ = some (.slice av1 gl cv1) ∧ w'.cell? ⟨w2.heap.size + 1, 0, none⟩ = some (.int .i64 nn))
          (first | exact HQ.out _ (Below.refl _ _).drew | exact HQ.out _ hbE1)
          (first | (go_at_call 21; (with_reducible refine (equalI_any _ _ _ _ _ _ _ _ _ (HGOT.out.below (Below.refl W1.heap.size W1).drew) (HA.out.below (Below.refl W1.heap.size W1).drew)).mono ?_); rintro e wE1 ⟨rfl, hbE1⟩; rw [HEQ1.out]; replace hbE1 := bd0' hbE1))
        go_wp2_with fail
        have hE2 := step_callB hEW1 (by simp) hbE1
        have hKE1 : wE1.heap[D1]? = some (.deferred (some [])) := (hbE1.block D1 (Array.getElem?_eq_some_iff.1 hK1).1).trans hK1
        rw [rounds_succ]
        obtain ⟨q1, q2, -, hzV, hDV⟩ := box2 hE2
        have hlt1 : w2.heap.size < wE1.heap.size := by omega
        have hlt2 : w2.heap.size + 1 < wE1.heap.size := by omega
        go_wp2_with (go_at_call 20; refine ((callsIn_wide.1 (all_in 2 _ _ _ _))).mono ?_; rintro e wA2 ⟨rfl, rfl⟩)
        have bO := Boxed.new wE1 22 (.slice none 0 0)
        have bN := Boxed.new (wE1.alloc (.cells #[.slice none 0 0] 22)) 27 (.slice a1 n1 c1)
        rw [World.size_alloc] at bN
        have hVb : Below wE1.heap.size wE1 ((wE1.alloc (.cells #[.slice none 0 0] 22)).alloc (.cells #[.slice a1 n1 c1] 27)) := al2' _ _ _
        have hSV : Bs wE1 a1 n1 c1 L := HS1.out.below hDV
        have hblk : ∀ p, a1 = some p → p.block < wE1.heap.size := bs_blk hSV
        have hTV : Tz wE1 := (HW.out.below (step_call HB2.out hDV)).tz
        refine (wpIn_wide (n := 3)).1 ?_
        refine' wpIn_rangeFunc_ownG (F := Fence.wide) (n := 3) rfl (show 1 ≤ 3 by omega) (gf := 52) (lb := #[.pointer (some ⟨wE1.heap.size + 1, 0, none⟩)]) rfl trivial (enters_of Tryd.func52 (by kernel_rfl) rfl)
          (all_stops (3 - 1) (by omega) (wE1.heap.size + 1) wE1.heap.size a1 n1 c1 L _ (by simp) (by simp; omega) ((Tz.to hTV).below hVb) bN.cell (hSV.below hVb) hblk) belowK_t (belowK_b (by simp; omega)) (Below.refl _ _) (fun _ => rfl)
          (fun pre W => (∃ v, Boxed W wE1.heap.size 22 v ∧ W.ownsRow wE1.heap.size 3 1 v pre.length (pre.map i64v) ∧ pre.length ≤ nn) ∧ Below wE1.heap.size wE1 W)
          (fun c xs W => (∃ v, Boxed W wE1.heap.size 22 v ∧ W.ownsRow wE1.heap.size 3 1 v xs.dropLast.length (xs.dropLast.map i64v) ∧ (xs.dropLast.length = nn ∧ c = Code.exit 2)) ∧ Below wE1.heap.size wE1 W)
          (OwnFrom.and (Own.from (holdsRow_own wE1.heap.size wE1.heap.size 22 3 1 (fun pre : List Nat => pre.length) (fun pre => pre.map i64v) (fun pre v => pre.length ≤ nn)) _) (ownFrom_below (Nat.le_refl _) (by simp; omega)))
          (fun c => OwnFrom.and (Own.from (holdsRow_own wE1.heap.size wE1.heap.size 22 3 1 (fun xs : List Nat => xs.dropLast.length) (fun xs => xs.dropLast.map i64v) (fun xs v => xs.dropLast.length = nn ∧ c = Code.exit 2)) _) (ownFrom_below (Nat.le_refl _) (by simp; omega)))
          ⟨⟨_, bO.alloc _, World.ownsRow_nil _ _ _ _, Nat.zero_le _⟩, hVb⟩
          _ ?assign ?body ?done ?stop
        case assign =>
          intro lk x W K hK
          gi_wp2
          exact hK
        case body =>
          rintro lk pre x W ⟨⟨v, hv, hrow, hle⟩, hB⟩ hlt
          have hL60 := HL60.out
          obtain ⟨av, cv, rfl, -⟩ := iw_of_i64 hrow rfl
          have hc := hv.cell
          have qn := (hB.cell (p := ⟨w2.heap.size + 1, 0, none⟩) (show w2.heap.size + 1 < wE1.heap.size by omega)).trans q2
          by_cases hbr : pre.length = nn
          · have hne : (((pre.length : Nat) : Int) == (nn : Int)) = true := beq_iff_eq.2 (by omega)
            gi_wp2_with fail
            exact ⟨KeepsFrom.refl _ _, ⟨_, hv, by rw [List.dropLast_concat]; exact hrow, by rw [List.dropLast_concat]; exact hbr, rfl⟩, hB⟩
          · have hne : (((pre.length : Nat) : Int) == (nn : Int)) = false := beq_eq_false_iff_ne.2 (by omega)
            gi_wp2_with (gi_at_builtin; refine wpListIn_append_own _ rfl _ _ 22 rfl wE1.heap.size 3 i0 (.int .i64 0) 1 8 Tryd.underlying22 hif hz0 hz1 hz2 rfl (by decide) _ _ _ rfl (hrow.alloc _) ⟨W.heap.size, 0, none⟩ 1 1 [.int .i64 ((x : Nat) : Int)] rfl rfl (cell_one_new _ _ _) (by simp [Value.oneCell']) (by unfold maxLen; omega) (by omega) (by have := hB.size; simp; omega) ?_; intro v' w1 hown' hgrow _; obtain ⟨g', cap', rfl⟩ := ownsRow_succ hown'; obtain ⟨hv1, hv2, hr2, hk2, hb2⟩ := hv.appended (by decide) hrow hB.size (Nat.le_refl _) hown' hgrow; have hc1 := hv1.cell; have hf1 := hv1.frozen)
            exact ⟨hk2.from _, hb2, ⟨_, hv2, by simpa [i64v] using hr2, by simp; omega⟩, hB.trans hb2⟩
        case done =>
          rintro D ys W hD rfl ⟨⟨v, hv, hrow, hle⟩, hB⟩ hK
          exact absurd hle (by omega)
        case stop =>
          rintro D2 c pre W2 hD2 hpre ⟨⟨v, hv, hrow, hlen, rfl⟩, hB2⟩ hK2
          obtain ⟨G, hG⟩ : ∃ G, G = pre.dropLast := ⟨_, rfl⟩
          rw [← hG] at hrow hlen
          have HEQ2 : Hid (decide (cs G = (cs L).take 0) = true) := HEQ0 G (by rw [hG]; exact (List.dropLast_prefix pre).trans hpre) hlen
          clear hG
          obtain ⟨av2, cv2, rfl, hgot⟩ := iw_of_i64 hrow rfl
          gi_wp2
          have hvc := hv.cell
          have hgV : wE1.heap.size < W2.heap.size := hv.lt
          have qn2 := (hB2.cell (p := ⟨w2.heap.size + 1, 0, none⟩) (show w2.heap.size + 1 < wE1.heap.size by omega)).trans q2
          have hEW2 := step_callB hE2 (by simp) hB2
          obtain ⟨-, -, -, hzW2, hDW2⟩ := box2 hEW2
          have HGOT := Lib.hid hgot
          have HA : Hid (Iw W2 none 0 0 ((cs L).take 0)) := HIT.out.below hDW2
          have HQ : Hid (∀ W', Below W2.heap.size W2 W' → W'.cell? ⟨wE1.heap.size, 0, none⟩ = some (.slice av2 G.length cv2) ∧ W'.cell? ⟨w2.heap.size + 1, 0, none⟩ = some (.int .i64 nn)) := fun W' hb => ⟨(hb.cell (p := ⟨wE1.heap.size, 0, none⟩) hgV).trans hvc, (hb.cell (p := ⟨w2.heap.size + 1, 0, none⟩) (show w2.heap.size + 1 < W2.heap.size by omega)).trans qn2⟩
          have hcvl : G.length ≤ cv2 := hgot.2.1
          have hcvm : cv2 ≤ 9223372036854775807 := hgot.2.2.1
          clear hv hrow hgot
          generalize hGL : G.length = gl at HGOT HQ hcvl ⊢
          clear hGL
          go_wp2_with fail
          go_region_held3 (fun w' => w'.cell? ⟨wE1.heap.size, 0, none⟩ = some (.slice av2 gl cv2) ∧ w'.cell? ⟨w2.heap.size + 1, 0, none⟩ = some (.int .i64 nn))
            (first | exact HQ.out _ (Below.refl _ _).drew | exact HQ.out _ hbE2)
            (first | (go_at_call 21; (with_reducible refine (equalI_any _ _ _ _ _ _ _ _ _ (HGOT.out.below (Below.refl W2.heap.size W2).drew) (HA.out.below (Below.refl W2.heap.size W2).drew)).mono ?_); rintro e wE2 ⟨rfl, hbE2⟩; rw [HEQ2.out]; replace hbE2 := bd0' hbE2))
          go_wp2_with fail
          have hE3 := step_callB hEW2 (by simp) hbE2
          have hKE2 : wE2.heap[D2]? = some (.deferred (some [])) := (hbE2.block D2 (Array.getElem?_eq_some_iff.1 hK2).1).trans hK2
          rw [rounds_succ]
          obtain ⟨q1, q2, -, hzZ, hDZ⟩ := box2 hE3
          have hltZ : w2.heap.size < wE2.heap.size := by omega
          have HK2 := Lib.hid hKE2
          have HK1 : Hid (wE2.heap[D1]? = some (.deferred (some []))) := by
            have h1 : D1 < wE1.heap.size := (Array.getElem?_eq_some_iff.1 hKE1).1
            have h2 := hB2.size
            exact ((hbE2.block D1 (by omega)).trans (hB2.block D1 h1)).trans hKE1
          have HD1 : Hid (D1 < wE1.heap.size) := (Array.getElem?_eq_some_iff.1 hKE1).1
          have HD2 : Hid (wE1.heap.size ≤ D2) := by show _ ≤ _; simp at hD2; omega
          have HD0 : Hid (w2.heap.size ≤ D1) := by show _ ≤ _; simp at hD1; omega
          have HZ12 : Hid (wE1.heap.size ≤ wE2.heap.size) := Nat.le_trans hB2.size hbE2.size
          have HSZ : Hid (Bs wE2 a1 n1 c1 L) := HS1.out.below hDZ
          have HWZ : Hid (Wld wE2) := HW.out.below (step_call HB2.out hDZ)
          have HBZ : Hid (Below w.heap.size w wE2) := step_call HB2.out hDZ
          have HIZ := Lib.hid (HI2.out.below hDZ)
          have HQZ : Hid (∀ W', Below wE2.heap.size wE2 W' → W'.cell? ⟨w2.heap.size, 0, none⟩ = some (.slice a1 n1 c1)) := fun W' hb => (hb.cell (p := ⟨w2.heap.size, 0, none⟩) hltZ).trans q1
          have HZW : Hid (w.heap.size ≤ w2.heap.size) := hzw2
          go_wp2_with fail
          go_region_held3 (fun w' => w'.cell? ⟨w2.heap.size, 0, none⟩ = some (.slice a1 n1 c1))
            (first | exact HQZ.out _ (Below.refl _ _).drew | exact HQZ.out _ hb8 | exact HQZ.out _ hb7)
            (first
              | (go_at_call 22; (with_reducible refine (list_any a1 n1 c1 L _ (HSZ.out.below (Below.refl wE2.heap.size wE2).drew) (HWZ.out.below (Below.refl wE2.heap.size wE2).drew).tz).mono ?_); rintro e w7 ⟨v7, rfl, hr7, hb7⟩; replace hb7 := bd0' hb7)
              | (go_at_call 23; (with_reducible refine (bytes_any a1 n1 c1 L _ (HSZ.out.below hb7)).mono ?_); rintro e w8 ⟨bs, v8, rfl, -, hr8, hb8⟩; have HB78 := Lib.hid hb8; replace hb8 := hb7.trans (hb8.mono hb7.size)))
          obtain ⟨al, cl, rfl, hil⟩ := iw_of_i64 hr7 rfl
          obtain ⟨ab, cb, rfl, hlb, hcb⟩ := RowY.slice (show RowY w8 w7.heap.size v8 bs from hr8)
          have hcl1 := hil.2.1
          have hcl2 := hil.2.2.1
          have HG7 : Hid (∀ g, al = some ⟨g, 0, none⟩ → g < w7.heap.size) := fun g hg => (World.ownsRow.lt hr7 g (by rw [hg]; rfl)).2
          have HR7 : Hid (w8.ownsRow wE2.heap.size 3 1 (.slice al L.length cl) L.length (L.map i64v)) := owns_below (show w7.ownsRow wE2.heap.size 3 1 (.slice al L.length cl) L.length (L.map i64v) from hr7) (Nat.le_refl _) HB78.out
          have HR8 := Lib.hid hr8
          have HZ7 : Hid (wE2.heap.size ≤ w7.heap.size) := hb7.size
          have HB8 := Lib.hid hb8
          clear hr7 hr8 hil hb7 hb8
          generalize L.map i64v = xs0 at HR7
          generalize hLN2 : L.length = nl at HR7 hcl1 ⊢
          generalize bs.map u8v = ys0 at HR8
          generalize bs.length = nb at HR8 hlb ⊢
          have hnl : nl ≤ 4096 := by have := HL60.out; omega
          clear hLN2
          go_wp2_with fail
          go_loopw [54] (fun v54 wr => ∃ (k : Nat) (xs : List Value), k ≤ nl ∧ v54 = .int .i64 k ∧ Hid (wr.ownsRow wE2.heap.size 3 1 (.slice al nl cl) nl xs) ∧ Hid (wr.ownsRow w7.heap.size 5 1 (.slice ab nb cb) nb ys0) ∧ Hid (Below wE2.heap.size wE2 wr)) (fun v _ => nl - (intOf v).toNat)
          case atStart => exact ⟨0, _, Nat.zero_le _, rfl, HR7.out, HR8.out, HB8.out⟩
          case round =>
            obtain ⟨k, xs, hk, rfl, HX, HY, HBr⟩ := hrel
            by_cases hlt : k < nl
            · obtain ⟨g, vg, rfl, hg1, hg2, x1, f1⟩ := row_at HX.out hlt
              have hg7 := HG7.out g rfl
              go_wp2_with fail
              go_roundw
              case rel => exact ⟨k + 1, xs.set k (.int .i64 7), by omega, by go_num, (World.ownsRow.stored HX.out k _).1, owns_set HY.out (fun b hb => by have := (World.ownsRow.lt HY.out b hb).1; show b ≠ g; omega) _, HBr.out.setCell hg1 _⟩
              case measure => simp [intOf]; omega
            · go_wp2_with fail
              go_loopw [63] (fun v63 wr => ∃ (k : Nat) (xs : List Value), k ≤ nb ∧ v63 = .int .i64 k ∧ Hid (wr.ownsRow w7.heap.size 5 1 (.slice ab nb cb) nb xs) ∧ Hid (Below wE2.heap.size wE2 wr)) (fun v _ => nb - (intOf v).toNat)
              case atStart => exact ⟨0, _, Nat.zero_le _, rfl, HY.out, HBr.out⟩
              case round =>
                obtain ⟨k2, zs2, hk2, rfl, HY2, HBr2⟩ := hrel
                by_cases hlt2 : k2 < nb
                · obtain ⟨g, vg, rfl, hg1, hg2, x1, f1⟩ := row_at HY2.out hlt2
                  have hg7 : wE2.heap.size ≤ g := Nat.le_trans HZ7.out hg1
                  go_wp2_with fail
                  go_roundw
                  case rel => exact ⟨k2 + 1, zs2.set k2 (.int .u8 255), by omega, by go_num, (World.ownsRow.stored HY2.out k2 _).1, HBr2.out.setCell hg7 _⟩
                  case measure => simp [intOf]; omega
                · have q9 := HQZ.out _ HBr2.out
                  go_wp2_with (go_at_call 15; (with_reducible refine (is_yes _ _ _ _ _ _ _ _ (HSZ.out.below HBr2.out) (HIZ.out.below HBr2.out) (HWZ.out.below HBr2.out)).mono ?_); rintro e wF ⟨rfl, hbF⟩)
                  have hBF := HBr2.out.trans (hbF.mono HBr2.out.size)
                  have k2F := (hBF.block D2 (Array.getElem?_eq_some_iff.1 HK2.out).1).trans HK2.out
                  have k1F := (hBF.block D1 (Array.getElem?_eq_some_iff.1 HK1.out).1).trans HK1.out
                  have hbD2 : Below wE1.heap.size wF (wF.putObj D2 _) := belowK_b (w := wE1) (Nat.le_refl _) wF D2 _ (.deferred none) HD2.out k2F rfl rfl
                  have k1G := (hbD2.block D1 HD1.out).trans k1F
                  refine ⟨by simp, .inl ⟨_, _, rfl, run_takeDeferred k2F, ?_⟩⟩
                  refine ⟨by simp, .inl ⟨_, _, rfl, run_takeDeferred k1G, ?_⟩⟩
                  exact ⟨_, results_tmp rfl _ _ _, rfl, ((HBZ.out.trans (hBF.mono HBZ.out.size)).trans (hbD2.mono (by have := HZW.out; have := HD0.out; have := HD1.out; omega))).trans (belowK_b (w := w) (Nat.le_refl _) _ D1 _ _ (by have := HZW.out; have := HD0.out; omega) k1G rfl rfl)⟩
  · subst ha2v
    by_cases hcase : L.length ≤ nn
    · have HEQ0 : Hid (decide (cs L = (cs L).take m) = true) := decide_eq_true (by rw [List.take_of_length_le (by have h := HLN.out; rw [cs_length] at h; rw [cs_length]; omega)])
      refine wp_loop_rounds 3 ?_
      refine abs_rounds (fun V => Below (w2.heap.size + 2) ((w2.alloc (.cells #[.slice a1 n1 c1] 27)).alloc (.cells #[.int .i64 nn] 3)) V) (Below.refl _ _) (fun V hE1 => ?_)
      rw [rounds_succ]
      obtain ⟨q1, q2, -, hzV, hDV⟩ := box2 hE1
      have hlt1 : w2.heap.size < V.heap.size := by omega
      have hlt2 : w2.heap.size + 1 < V.heap.size := by omega
      go_wp2_with (go_at_call 20; refine ((callsIn_wide.1 (all_in 2 _ _ _ _))).mono ?_; rintro e wA1 ⟨rfl, rfl⟩)
      have bO := Boxed.new V 22 (.slice none 0 0)
      have bN := Boxed.new (V.alloc (.cells #[.slice none 0 0] 22)) 27 (.slice a1 n1 c1)
      rw [World.size_alloc] at bN
      have hVb : Below V.heap.size V ((V.alloc (.cells #[.slice none 0 0] 22)).alloc (.cells #[.slice a1 n1 c1] 27)) := al2' _ _ _
      have hSV : Bs V a1 n1 c1 L := HS1.out.below hDV
      have hblk : ∀ p, a1 = some p → p.block < V.heap.size := bs_blk hSV
      have hTV : Tz V := (HW.out.below (step_call HB2.out hDV)).tz
      refine (wpIn_wide (n := 3)).1 ?_
      refine' wpIn_rangeFunc_ownG (F := Fence.wide) (n := 3) rfl (show 1 ≤ 3 by omega) (gf := 52) (lb := #[.pointer (some ⟨V.heap.size + 1, 0, none⟩)]) rfl trivial (enters_of Tryd.func52 (by kernel_rfl) rfl)
        (all_stops (3 - 1) (by omega) (V.heap.size + 1) V.heap.size a1 n1 c1 L _ (by simp) (by simp; omega) ((Tz.to hTV).below hVb) bN.cell (hSV.below hVb) hblk) belowK_t (belowK_b (by simp; omega)) (Below.refl _ _) (fun _ => rfl)
        (fun pre W => (∃ v, Boxed W V.heap.size 22 v ∧ W.ownsRow V.heap.size 3 1 v pre.length (pre.map i64v) ∧ pre.length ≤ nn) ∧ Below V.heap.size V W)
        (fun _ _ _ => False)
        (OwnFrom.and (Own.from (holdsRow_own V.heap.size V.heap.size 22 3 1 (fun pre : List Nat => pre.length) (fun pre => pre.map i64v) (fun pre v => pre.length ≤ nn)) _) (ownFrom_below (Nat.le_refl _) (by simp; omega)))
        (fun _ _ _ _ _ hs _ _ => hs)
        ⟨⟨_, bO.alloc _, World.ownsRow_nil _ _ _ _, Nat.zero_le _⟩, hVb⟩
        _ ?assign ?body ?done ?stop
      case assign =>
        intro lk x W K hK
        gi_wp2
        exact hK
      case body =>
        rintro lk pre x W ⟨⟨v, hv, hrow, hle⟩, hB⟩ hlt
        have hL60 := HL60.out
        obtain ⟨av, cv, rfl, -⟩ := iw_of_i64 hrow rfl
        have hc := hv.cell
        have qn := (hB.cell (p := ⟨w2.heap.size + 1, 0, none⟩) (show w2.heap.size + 1 < V.heap.size by omega)).trans q2
        have hne : (((pre.length : Nat) : Int) == (nn : Int)) = false := beq_eq_false_iff_ne.2 (by omega)
        gi_wp2_with (gi_at_builtin; refine wpListIn_append_own _ rfl _ _ 22 rfl V.heap.size 3 i0 (.int .i64 0) 1 8 Tryd.underlying22 hif hz0 hz1 hz2 rfl (by decide) _ _ _ rfl (hrow.alloc _) ⟨W.heap.size, 0, none⟩ 1 1 [.int .i64 ((x : Nat) : Int)] rfl rfl (cell_one_new _ _ _) (by simp [Value.oneCell']) (by unfold maxLen; omega) (by omega) (by have := hB.size; simp; omega) ?_; intro v' w1 hown' hgrow _; obtain ⟨g', cap', rfl⟩ := ownsRow_succ hown'; obtain ⟨hv1, hv2, hr2, hk2, hb2⟩ := hv.appended (by decide) hrow hB.size (Nat.le_refl _) hown' hgrow; have hc1 := hv1.cell; have hf1 := hv1.frozen)
        exact ⟨hk2.from _, hb2, ⟨_, hv2, by simpa [i64v] using hr2, by simp; omega⟩, hB.trans hb2⟩
      case stop =>
        rintro D c pre W _ _ h _
        exact h.elim
      case done =>
        rintro D1 G W1 hD1 hys ⟨⟨v, hv, hrow, -⟩, hB1⟩ hK1
        have hys : G = L := hys
        rw [hys] at hrow
        clear hys
        obtain ⟨av1, cv1, rfl, hgot⟩ := iw_of_i64 hrow rfl
        have HEQ1 : Hid (decide (cs L = (cs L).take m) = true) := HEQ0
        have hvc := hv.cell
        have hgV : V.heap.size < W1.heap.size := hv.lt
        have qn1 := (hB1.cell (p := ⟨w2.heap.size + 1, 0, none⟩) (show w2.heap.size + 1 < V.heap.size by omega)).trans q2
        have hEW1 := step_callB hE1 (by simp) hB1
        obtain ⟨-, -, -, hzW1, hDW1⟩ := box2 hEW1
        have HGOT := Lib.hid hgot
        have HA : Hid (Iw W1 (some ⟨b2, o2, none⟩) m c2 ((cs L).take m)) := HIT.out.below hDW1
        have HQ : Hid (∀ W', Below W1.heap.size W1 W' → W'.cell? ⟨V.heap.size, 0, none⟩ = some (.slice av1 L.length cv1) ∧ W'.cell? ⟨w2.heap.size + 1, 0, none⟩ = some (.int .i64 nn)) := fun W' hb => ⟨(hb.cell (p := ⟨V.heap.size, 0, none⟩) hgV).trans hvc, (hb.cell (p := ⟨w2.heap.size + 1, 0, none⟩) (show w2.heap.size + 1 < W1.heap.size by omega)).trans qn1⟩
        have hcvl : L.length ≤ cv1 := hgot.2.1
        have hcvm : cv1 ≤ 9223372036854775807 := hgot.2.2.1
        clear hv hrow hgot
        generalize hGL : L.length = gl at HGOT HQ hcvl ⊢
        clear hGL
        go_wp2_with fail
        go_region_held3 (fun w' => w'.cell? ⟨V.heap.size, 0, none⟩ = some (.slice av1 gl cv1) ∧ w'.cell? ⟨w2.heap.size + 1, 0, none⟩ = some (.int .i64 nn))
          (first | exact HQ.out _ (Below.refl _ _).drew | exact HQ.out _ hbE1)
          (first | (go_at_call 21; (with_reducible refine (equalI_any _ _ _ _ _ _ _ _ _ (HGOT.out.below (Below.refl W1.heap.size W1).drew) (HA.out.below (Below.refl W1.heap.size W1).drew)).mono ?_); rintro e wE1 ⟨rfl, hbE1⟩; rw [HEQ1.out]; replace hbE1 := bd0' hbE1))
        go_wp2_with fail
        have hE2 := step_callB hEW1 (by simp) hbE1
        have hKE1 : wE1.heap[D1]? = some (.deferred (some [])) := (hbE1.block D1 (Array.getElem?_eq_some_iff.1 hK1).1).trans hK1
        rw [rounds_succ]
        obtain ⟨q1, q2, -, hzV, hDV⟩ := box2 hE2
        have hlt1 : w2.heap.size < wE1.heap.size := by omega
        have hlt2 : w2.heap.size + 1 < wE1.heap.size := by omega
        go_wp2_with (go_at_call 20; refine ((callsIn_wide.1 (all_in 2 _ _ _ _))).mono ?_; rintro e wA2 ⟨rfl, rfl⟩)
        have bO := Boxed.new wE1 22 (.slice none 0 0)
        have bN := Boxed.new (wE1.alloc (.cells #[.slice none 0 0] 22)) 27 (.slice a1 n1 c1)
        rw [World.size_alloc] at bN
        have hVb : Below wE1.heap.size wE1 ((wE1.alloc (.cells #[.slice none 0 0] 22)).alloc (.cells #[.slice a1 n1 c1] 27)) := al2' _ _ _
        have hSV : Bs wE1 a1 n1 c1 L := HS1.out.below hDV
        have hblk : ∀ p, a1 = some p → p.block < wE1.heap.size := bs_blk hSV
        have hTV : Tz wE1 := (HW.out.below (step_call HB2.out hDV)).tz
        refine (wpIn_wide (n := 3)).1 ?_
        refine' wpIn_rangeFunc_ownG (F := Fence.wide) (n := 3) rfl (show 1 ≤ 3 by omega) (gf := 52) (lb := #[.pointer (some ⟨wE1.heap.size + 1, 0, none⟩)]) rfl trivial (enters_of Tryd.func52 (by kernel_rfl) rfl)
          (all_stops (3 - 1) (by omega) (wE1.heap.size + 1) wE1.heap.size a1 n1 c1 L _ (by simp) (by simp; omega) ((Tz.to hTV).below hVb) bN.cell (hSV.below hVb) hblk) belowK_t (belowK_b (by simp; omega)) (Below.refl _ _) (fun _ => rfl)
          (fun pre W => (∃ v, Boxed W wE1.heap.size 22 v ∧ W.ownsRow wE1.heap.size 3 1 v pre.length (pre.map i64v) ∧ pre.length ≤ nn) ∧ Below wE1.heap.size wE1 W)
          (fun _ _ _ => False)
          (OwnFrom.and (Own.from (holdsRow_own wE1.heap.size wE1.heap.size 22 3 1 (fun pre : List Nat => pre.length) (fun pre => pre.map i64v) (fun pre v => pre.length ≤ nn)) _) (ownFrom_below (Nat.le_refl _) (by simp; omega)))
          (fun _ _ _ _ _ hs _ _ => hs)
          ⟨⟨_, bO.alloc _, World.ownsRow_nil _ _ _ _, Nat.zero_le _⟩, hVb⟩
          _ ?assign ?body ?done ?stop
        case assign =>
          intro lk x W K hK
          gi_wp2
          exact hK
        case body =>
          rintro lk pre x W ⟨⟨v, hv, hrow, hle⟩, hB⟩ hlt
          have hL60 := HL60.out
          obtain ⟨av, cv, rfl, -⟩ := iw_of_i64 hrow rfl
          have hc := hv.cell
          have qn := (hB.cell (p := ⟨w2.heap.size + 1, 0, none⟩) (show w2.heap.size + 1 < wE1.heap.size by omega)).trans q2
          have hne : (((pre.length : Nat) : Int) == (nn : Int)) = false := beq_eq_false_iff_ne.2 (by omega)
          gi_wp2_with (gi_at_builtin; refine wpListIn_append_own _ rfl _ _ 22 rfl wE1.heap.size 3 i0 (.int .i64 0) 1 8 Tryd.underlying22 hif hz0 hz1 hz2 rfl (by decide) _ _ _ rfl (hrow.alloc _) ⟨W.heap.size, 0, none⟩ 1 1 [.int .i64 ((x : Nat) : Int)] rfl rfl (cell_one_new _ _ _) (by simp [Value.oneCell']) (by unfold maxLen; omega) (by omega) (by have := hB.size; simp; omega) ?_; intro v' w1 hown' hgrow _; obtain ⟨g', cap', rfl⟩ := ownsRow_succ hown'; obtain ⟨hv1, hv2, hr2, hk2, hb2⟩ := hv.appended (by decide) hrow hB.size (Nat.le_refl _) hown' hgrow; have hc1 := hv1.cell; have hf1 := hv1.frozen)
          exact ⟨hk2.from _, hb2, ⟨_, hv2, by simpa [i64v] using hr2, by simp; omega⟩, hB.trans hb2⟩
        case stop =>
          rintro D c pre W _ _ h _
          exact h.elim
        case done =>
          rintro D2 G W2 hD2 hys ⟨⟨v, hv, hrow, -⟩, hB2⟩ hK2
          have hys : G = L := hys
          rw [hys] at hrow
          clear hys
          obtain ⟨av2, cv2, rfl, hgot⟩ := iw_of_i64 hrow rfl
          have HEQ2 : Hid (decide (cs L = (cs L).take m) = true) := HEQ0
          have hvc := hv.cell
          have hgV : wE1.heap.size < W2.heap.size := hv.lt
          have qn2 := (hB2.cell (p := ⟨w2.heap.size + 1, 0, none⟩) (show w2.heap.size + 1 < wE1.heap.size by omega)).trans q2
          have hEW2 := step_callB hE2 (by simp) hB2
          obtain ⟨-, -, -, hzW2, hDW2⟩ := box2 hEW2
          have HGOT := Lib.hid hgot
          have HA : Hid (Iw W2 (some ⟨b2, o2, none⟩) m c2 ((cs L).take m)) := HIT.out.below hDW2
          have HQ : Hid (∀ W', Below W2.heap.size W2 W' → W'.cell? ⟨wE1.heap.size, 0, none⟩ = some (.slice av2 L.length cv2) ∧ W'.cell? ⟨w2.heap.size + 1, 0, none⟩ = some (.int .i64 nn)) := fun W' hb => ⟨(hb.cell (p := ⟨wE1.heap.size, 0, none⟩) hgV).trans hvc, (hb.cell (p := ⟨w2.heap.size + 1, 0, none⟩) (show w2.heap.size + 1 < W2.heap.size by omega)).trans qn2⟩
          have hcvl : L.length ≤ cv2 := hgot.2.1
          have hcvm : cv2 ≤ 9223372036854775807 := hgot.2.2.1
          clear hv hrow hgot
          generalize hGL : L.length = gl at HGOT HQ hcvl ⊢
          clear hGL
          go_wp2_with fail
          go_region_held3 (fun w' => w'.cell? ⟨wE1.heap.size, 0, none⟩ = some (.slice av2 gl cv2) ∧ w'.cell? ⟨w2.heap.size + 1, 0, none⟩ = some (.int .i64 nn))
            (first | exact HQ.out _ (Below.refl _ _).drew | exact HQ.out _ hbE2)
            (first | (go_at_call 21; (with_reducible refine (equalI_any _ _ _ _ _ _ _ _ _ (HGOT.out.below (Below.refl W2.heap.size W2).drew) (HA.out.below (Below.refl W2.heap.size W2).drew)).mono ?_); rintro e wE2 ⟨rfl, hbE2⟩; rw [HEQ2.out]; replace hbE2 := bd0' hbE2))
          go_wp2_with fail
          have hE3 := step_callB hEW2 (by simp) hbE2
          have hKE2 : wE2.heap[D2]? = some (.deferred (some [])) := (hbE2.block D2 (Array.getElem?_eq_some_iff.1 hK2).1).trans hK2
          rw [rounds_succ]
          obtain ⟨q1, q2, -, hzZ, hDZ⟩ := box2 hE3
          have hltZ : w2.heap.size < wE2.heap.size := by omega
          have HK2 := Lib.hid hKE2
          have HK1 : Hid (wE2.heap[D1]? = some (.deferred (some []))) := by
            have h1 : D1 < wE1.heap.size := (Array.getElem?_eq_some_iff.1 hKE1).1
            have h2 := hB2.size
            exact ((hbE2.block D1 (by omega)).trans (hB2.block D1 h1)).trans hKE1
          have HD1 : Hid (D1 < wE1.heap.size) := (Array.getElem?_eq_some_iff.1 hKE1).1
          have HD2 : Hid (wE1.heap.size ≤ D2) := by show _ ≤ _; simp at hD2; omega
          have HD0 : Hid (w2.heap.size ≤ D1) := by show _ ≤ _; simp at hD1; omega
          have HZ12 : Hid (wE1.heap.size ≤ wE2.heap.size) := Nat.le_trans hB2.size hbE2.size
          have HSZ : Hid (Bs wE2 a1 n1 c1 L) := HS1.out.below hDZ
          have HWZ : Hid (Wld wE2) := HW.out.below (step_call HB2.out hDZ)
          have HBZ : Hid (Below w.heap.size w wE2) := step_call HB2.out hDZ
          have HIZ := Lib.hid (HI2.out.below hDZ)
          have HQZ : Hid (∀ W', Below wE2.heap.size wE2 W' → W'.cell? ⟨w2.heap.size, 0, none⟩ = some (.slice a1 n1 c1)) := fun W' hb => (hb.cell (p := ⟨w2.heap.size, 0, none⟩) hltZ).trans q1
          have HZW : Hid (w.heap.size ≤ w2.heap.size) := hzw2
          go_wp2_with fail
          go_region_held3 (fun w' => w'.cell? ⟨w2.heap.size, 0, none⟩ = some (.slice a1 n1 c1))
            (first | exact HQZ.out _ (Below.refl _ _).drew | exact HQZ.out _ hb8 | exact HQZ.out _ hb7)
            (first
              | (go_at_call 22; (with_reducible refine (list_any a1 n1 c1 L _ (HSZ.out.below (Below.refl wE2.heap.size wE2).drew) (HWZ.out.below (Below.refl wE2.heap.size wE2).drew).tz).mono ?_); rintro e w7 ⟨v7, rfl, hr7, hb7⟩; replace hb7 := bd0' hb7)
              | (go_at_call 23; (with_reducible refine (bytes_any a1 n1 c1 L _ (HSZ.out.below hb7)).mono ?_); rintro e w8 ⟨bs, v8, rfl, -, hr8, hb8⟩; have HB78 := Lib.hid hb8; replace hb8 := hb7.trans (hb8.mono hb7.size)))
          obtain ⟨al, cl, rfl, hil⟩ := iw_of_i64 hr7 rfl
          obtain ⟨ab, cb, rfl, hlb, hcb⟩ := RowY.slice (show RowY w8 w7.heap.size v8 bs from hr8)
          have hcl1 := hil.2.1
          have hcl2 := hil.2.2.1
          have HG7 : Hid (∀ g, al = some ⟨g, 0, none⟩ → g < w7.heap.size) := fun g hg => (World.ownsRow.lt hr7 g (by rw [hg]; rfl)).2
          have HR7 : Hid (w8.ownsRow wE2.heap.size 3 1 (.slice al L.length cl) L.length (L.map i64v)) := owns_below (show w7.ownsRow wE2.heap.size 3 1 (.slice al L.length cl) L.length (L.map i64v) from hr7) (Nat.le_refl _) HB78.out
          have HR8 := Lib.hid hr8
          have HZ7 : Hid (wE2.heap.size ≤ w7.heap.size) := hb7.size
          have HB8 := Lib.hid hb8
          clear hr7 hr8 hil hb7 hb8
          generalize L.map i64v = xs0 at HR7
          generalize hLN2 : L.length = nl at HR7 hcl1 ⊢
          generalize bs.map u8v = ys0 at HR8
          generalize bs.length = nb at HR8 hlb ⊢
          have hnl : nl ≤ 4096 := by have := HL60.out; omega
          clear hLN2
          go_wp2_with fail
          go_loopw [54] (fun v54 wr => ∃ (k : Nat) (xs : List Value), k ≤ nl ∧ v54 = .int .i64 k ∧ Hid (wr.ownsRow wE2.heap.size 3 1 (.slice al nl cl) nl xs) ∧ Hid (wr.ownsRow w7.heap.size 5 1 (.slice ab nb cb) nb ys0) ∧ Hid (Below wE2.heap.size wE2 wr)) (fun v _ => nl - (intOf v).toNat)
          case atStart => exact ⟨0, _, Nat.zero_le _, rfl, HR7.out, HR8.out, HB8.out⟩
          case round =>
            obtain ⟨k, xs, hk, rfl, HX, HY, HBr⟩ := hrel
            by_cases hlt : k < nl
            · obtain ⟨g, vg, rfl, hg1, hg2, x1, f1⟩ := row_at HX.out hlt
              have hg7 := HG7.out g rfl
              go_wp2_with fail
              go_roundw
              case rel => exact ⟨k + 1, xs.set k (.int .i64 7), by omega, by go_num, (World.ownsRow.stored HX.out k _).1, owns_set HY.out (fun b hb => by have := (World.ownsRow.lt HY.out b hb).1; show b ≠ g; omega) _, HBr.out.setCell hg1 _⟩
              case measure => simp [intOf]; omega
            · go_wp2_with fail
              go_loopw [63] (fun v63 wr => ∃ (k : Nat) (xs : List Value), k ≤ nb ∧ v63 = .int .i64 k ∧ Hid (wr.ownsRow w7.heap.size 5 1 (.slice ab nb cb) nb xs) ∧ Hid (Below wE2.heap.size wE2 wr)) (fun v _ => nb - (intOf v).toNat)
              case atStart => exact ⟨0, _, Nat.zero_le _, rfl, HY.out, HBr.out⟩
              case round =>
                obtain ⟨k2, zs2, hk2, rfl, HY2, HBr2⟩ := hrel
                by_cases hlt2 : k2 < nb
                · obtain ⟨g, vg, rfl, hg1, hg2, x1, f1⟩ := row_at HY2.out hlt2
                  have hg7 : wE2.heap.size ≤ g := Nat.le_trans HZ7.out hg1
                  go_wp2_with fail
                  go_roundw
                  case rel => exact ⟨k2 + 1, zs2.set k2 (.int .u8 255), by omega, by go_num, (World.ownsRow.stored HY2.out k2 _).1, HBr2.out.setCell hg7 _⟩
                  case measure => simp [intOf]; omega
                · have q9 := HQZ.out _ HBr2.out
                  go_wp2_with (go_at_call 15; (with_reducible refine (is_yes _ _ _ _ _ _ _ _ (HSZ.out.below HBr2.out) (HIZ.out.below HBr2.out) (HWZ.out.below HBr2.out)).mono ?_); rintro e wF ⟨rfl, hbF⟩)
                  have hBF := HBr2.out.trans (hbF.mono HBr2.out.size)
                  have k2F := (hBF.block D2 (Array.getElem?_eq_some_iff.1 HK2.out).1).trans HK2.out
                  have k1F := (hBF.block D1 (Array.getElem?_eq_some_iff.1 HK1.out).1).trans HK1.out
                  have hbD2 : Below wE1.heap.size wF (wF.putObj D2 _) := belowK_b (w := wE1) (Nat.le_refl _) wF D2 _ (.deferred none) HD2.out k2F rfl rfl
                  have k1G := (hbD2.block D1 HD1.out).trans k1F
                  refine ⟨by simp, .inl ⟨_, _, rfl, run_takeDeferred k2F, ?_⟩⟩
                  refine ⟨by simp, .inl ⟨_, _, rfl, run_takeDeferred k1G, ?_⟩⟩
                  exact ⟨_, results_tmp rfl _ _ _, rfl, ((HBZ.out.trans (hBF.mono HBZ.out.size)).trans (hbD2.mono (by have := HZW.out; have := HD0.out; have := HD1.out; omega))).trans (belowK_b (w := w) (Nat.le_refl _) _ D1 _ _ (by have := HZW.out; have := HD0.out; omega) k1G rfl rfl)⟩
    · have HEQ0 : ∀ G : List Nat, G <+: L → G.length = nn → Hid (decide (cs G = (cs L).take m) = true) := fun G hp hl => decide_eq_true (by
        have h1 : m = nn := by have := HLN.out; rw [cs_length] at this; omega
        rw [h1, ← hl]
        unfold cs
        rw [← List.map_take, ← List.prefix_iff_eq_take.1 hp])
      refine wp_loop_rounds 3 ?_
      refine abs_rounds (fun V => Below (w2.heap.size + 2) ((w2.alloc (.cells #[.slice a1 n1 c1] 27)).alloc (.cells #[.int .i64 nn] 3)) V) (Below.refl _ _) (fun V hE1 => ?_)
      rw [rounds_succ]
      obtain ⟨q1, q2, -, hzV, hDV⟩ := box2 hE1
      have hlt1 : w2.heap.size < V.heap.size := by omega
      have hlt2 : w2.heap.size + 1 < V.heap.size := by omega
      go_wp2_with (go_at_call 20; refine ((callsIn_wide.1 (all_in 2 _ _ _ _))).mono ?_; rintro e wA1 ⟨rfl, rfl⟩)
      have bO := Boxed.new V 22 (.slice none 0 0)
      have bN := Boxed.new (V.alloc (.cells #[.slice none 0 0] 22)) 27 (.slice a1 n1 c1)
      rw [World.size_alloc] at bN
      have hVb : Below V.heap.size V ((V.alloc (.cells #[.slice none 0 0] 22)).alloc (.cells #[.slice a1 n1 c1] 27)) := al2' _ _ _
      have hSV : Bs V a1 n1 c1 L := HS1.out.below hDV
      have hblk : ∀ p, a1 = some p → p.block < V.heap.size := bs_blk hSV
      have hTV : Tz V := (HW.out.below (step_call HB2.out hDV)).tz
      refine (wpIn_wide (n := 3)).1 ?_
      refine' wpIn_rangeFunc_ownG (F := Fence.wide) (n := 3) rfl (show 1 ≤ 3 by omega) (gf := 52) (lb := #[.pointer (some ⟨V.heap.size + 1, 0, none⟩)]) rfl trivial (enters_of Tryd.func52 (by kernel_rfl) rfl)
        (all_stops (3 - 1) (by omega) (V.heap.size + 1) V.heap.size a1 n1 c1 L _ (by simp) (by simp; omega) ((Tz.to hTV).below hVb) bN.cell (hSV.below hVb) hblk) belowK_t (belowK_b (by simp; omega)) (Below.refl _ _) (fun _ => rfl)
        (fun pre W => (∃ v, Boxed W V.heap.size 22 v ∧ W.ownsRow V.heap.size 3 1 v pre.length (pre.map i64v) ∧ pre.length ≤ nn) ∧ Below V.heap.size V W)
        (fun c xs W => (∃ v, Boxed W V.heap.size 22 v ∧ W.ownsRow V.heap.size 3 1 v xs.dropLast.length (xs.dropLast.map i64v) ∧ (xs.dropLast.length = nn ∧ c = Code.exit 2)) ∧ Below V.heap.size V W)
        (OwnFrom.and (Own.from (holdsRow_own V.heap.size V.heap.size 22 3 1 (fun pre : List Nat => pre.length) (fun pre => pre.map i64v) (fun pre v => pre.length ≤ nn)) _) (ownFrom_below (Nat.le_refl _) (by simp; omega)))
        (fun c => OwnFrom.and (Own.from (holdsRow_own V.heap.size V.heap.size 22 3 1 (fun xs : List Nat => xs.dropLast.length) (fun xs => xs.dropLast.map i64v) (fun xs v => xs.dropLast.length = nn ∧ c = Code.exit 2)) _) (ownFrom_below (Nat.le_refl _) (by simp; omega)))
        ⟨⟨_, bO.alloc _, World.ownsRow_nil _ _ _ _, Nat.zero_le _⟩, hVb⟩
        _ ?assign ?body ?done ?stop
      case assign =>
        intro lk x W K hK
        gi_wp2
        exact hK
      case body =>
        rintro lk pre x W ⟨⟨v, hv, hrow, hle⟩, hB⟩ hlt
        have hL60 := HL60.out
        obtain ⟨av, cv, rfl, -⟩ := iw_of_i64 hrow rfl
        have hc := hv.cell
        have qn := (hB.cell (p := ⟨w2.heap.size + 1, 0, none⟩) (show w2.heap.size + 1 < V.heap.size by omega)).trans q2
        by_cases hbr : pre.length = nn
        · have hne : (((pre.length : Nat) : Int) == (nn : Int)) = true := beq_iff_eq.2 (by omega)
          gi_wp2_with fail
          exact ⟨KeepsFrom.refl _ _, ⟨_, hv, by rw [List.dropLast_concat]; exact hrow, by rw [List.dropLast_concat]; exact hbr, rfl⟩, hB⟩
        · have hne : (((pre.length : Nat) : Int) == (nn : Int)) = false := beq_eq_false_iff_ne.2 (by omega)
          gi_wp2_with (gi_at_builtin; refine wpListIn_append_own _ rfl _ _ 22 rfl V.heap.size 3 i0 (.int .i64 0) 1 8 Tryd.underlying22 hif hz0 hz1 hz2 rfl (by decide) _ _ _ rfl (hrow.alloc _) ⟨W.heap.size, 0, none⟩ 1 1 [.int .i64 ((x : Nat) : Int)] rfl rfl (cell_one_new _ _ _) (by simp [Value.oneCell']) (by unfold maxLen; omega) (by omega) (by have := hB.size; simp; omega) ?_; intro v' w1 hown' hgrow _; obtain ⟨g', cap', rfl⟩ := ownsRow_succ hown'; obtain ⟨hv1, hv2, hr2, hk2, hb2⟩ := hv.appended (by decide) hrow hB.size (Nat.le_refl _) hown' hgrow; have hc1 := hv1.cell; have hf1 := hv1.frozen)
          exact ⟨hk2.from _, hb2, ⟨_, hv2, by simpa [i64v] using hr2, by simp; omega⟩, hB.trans hb2⟩
      case done =>
        rintro D ys W hD rfl ⟨⟨v, hv, hrow, hle⟩, hB⟩ hK
        exact absurd hle (by omega)
      case stop =>
        rintro D1 c pre W1 hD1 hpre ⟨⟨v, hv, hrow, hlen, rfl⟩, hB1⟩ hK1
        obtain ⟨G, hG⟩ : ∃ G, G = pre.dropLast := ⟨_, rfl⟩
        rw [← hG] at hrow hlen
        have HEQ1 : Hid (decide (cs G = (cs L).take m) = true) := HEQ0 G (by rw [hG]; exact (List.dropLast_prefix pre).trans hpre) hlen
        clear hG
        obtain ⟨av1, cv1, rfl, hgot⟩ := iw_of_i64 hrow rfl
        gi_wp2
        have hvc := hv.cell
        have hgV : V.heap.size < W1.heap.size := hv.lt
        have qn1 := (hB1.cell (p := ⟨w2.heap.size + 1, 0, none⟩) (show w2.heap.size + 1 < V.heap.size by omega)).trans q2
        have hEW1 := step_callB hE1 (by simp) hB1
        obtain ⟨-, -, -, hzW1, hDW1⟩ := box2 hEW1
        have HGOT := Lib.hid hgot
        have HA : Hid (Iw W1 (some ⟨b2, o2, none⟩) m c2 ((cs L).take m)) := HIT.out.below hDW1
        have HQ : Hid (∀ W', Below W1.heap.size W1 W' → W'.cell? ⟨V.heap.size, 0, none⟩ = some (.slice av1 G.length cv1) ∧ W'.cell? ⟨w2.heap.size + 1, 0, none⟩ = some (.int .i64 nn)) := fun W' hb => ⟨(hb.cell (p := ⟨V.heap.size, 0, none⟩) hgV).trans hvc, (hb.cell (p := ⟨w2.heap.size + 1, 0, none⟩) (show w2.heap.size + 1 < W1.heap.size by omega)).trans qn1⟩
        have hcvl : G.length ≤ cv1 := hgot.2.1
        have hcvm : cv1 ≤ 9223372036854775807 := hgot.2.2.1
        clear hv hrow hgot
        generalize hGL : G.length = gl at HGOT HQ hcvl ⊢
        clear hGL
        go_wp2_with fail
        go_region_held3 (fun w' => w'.cell? ⟨V.heap.size, 0, none⟩ = some (.slice av1 gl cv1) ∧ w'.cell? ⟨w2.heap.size + 1, 0, none⟩ = some (.int .i64 nn))
          (first | exact HQ.out _ (Below.refl _ _).drew | exact HQ.out _ hbE1)
          (first | (go_at_call 21; (with_reducible refine (equalI_any _ _ _ _ _ _ _ _ _ (HGOT.out.below (Below.refl W1.heap.size W1).drew) (HA.out.below (Below.refl W1.heap.size W1).drew)).mono ?_); rintro e wE1 ⟨rfl, hbE1⟩; rw [HEQ1.out]; replace hbE1 := bd0' hbE1))
        go_wp2_with fail
        have hE2 := step_callB hEW1 (by simp) hbE1
        have hKE1 : wE1.heap[D1]? = some (.deferred (some [])) := (hbE1.block D1 (Array.getElem?_eq_some_iff.1 hK1).1).trans hK1
        rw [rounds_succ]
        obtain ⟨q1, q2, -, hzV, hDV⟩ := box2 hE2
        have hlt1 : w2.heap.size < wE1.heap.size := by omega
        have hlt2 : w2.heap.size + 1 < wE1.heap.size := by omega
        go_wp2_with (go_at_call 20; refine ((callsIn_wide.1 (all_in 2 _ _ _ _))).mono ?_; rintro e wA2 ⟨rfl, rfl⟩)
        have bO := Boxed.new wE1 22 (.slice none 0 0)
        have bN := Boxed.new (wE1.alloc (.cells #[.slice none 0 0] 22)) 27 (.slice a1 n1 c1)
        rw [World.size_alloc] at bN
        have hVb : Below wE1.heap.size wE1 ((wE1.alloc (.cells #[.slice none 0 0] 22)).alloc (.cells #[.slice a1 n1 c1] 27)) := al2' _ _ _
        have hSV : Bs wE1 a1 n1 c1 L := HS1.out.below hDV
        have hblk : ∀ p, a1 = some p → p.block < wE1.heap.size := bs_blk hSV
        have hTV : Tz wE1 := (HW.out.below (step_call HB2.out hDV)).tz
        refine (wpIn_wide (n := 3)).1 ?_
        refine' wpIn_rangeFunc_ownG (F := Fence.wide) (n := 3) rfl (show 1 ≤ 3 by omega) (gf := 52) (lb := #[.pointer (some ⟨wE1.heap.size + 1, 0, none⟩)]) rfl trivial (enters_of Tryd.func52 (by kernel_rfl) rfl)
          (all_stops (3 - 1) (by omega) (wE1.heap.size + 1) wE1.heap.size a1 n1 c1 L _ (by simp) (by simp; omega) ((Tz.to hTV).below hVb) bN.cell (hSV.below hVb) hblk) belowK_t (belowK_b (by simp; omega)) (Below.refl _ _) (fun _ => rfl)
          (fun pre W => (∃ v, Boxed W wE1.heap.size 22 v ∧ W.ownsRow wE1.heap.size 3 1 v pre.length (pre.map i64v) ∧ pre.length ≤ nn) ∧ Below wE1.heap.size wE1 W)
          (fun c xs W => (∃ v, Boxed W wE1.heap.size 22 v ∧ W.ownsRow wE1.heap.size 3 1 v xs.dropLast.length (xs.dropLast.map i64v) ∧ (xs.dropLast.length = nn ∧ c = Code.exit 2)) ∧ Below wE1.heap.size wE1 W)
          (OwnFrom.and (Own.from (holdsRow_own wE1.heap.size wE1.heap.size 22 3 1 (fun pre : List Nat => pre.length) (fun pre => pre.map i64v) (fun pre v => pre.length ≤ nn)) _) (ownFrom_below (Nat.le_refl _) (by simp; omega)))
          (fun c => OwnFrom.and (Own.from (holdsRow_own wE1.heap.size wE1.heap.size 22 3 1 (fun xs : List Nat => xs.dropLast.length) (fun xs => xs.dropLast.map i64v) (fun xs v => xs.dropLast.length = nn ∧ c = Code.exit 2)) _) (ownFrom_below (Nat.le_refl _) (by simp; omega)))
          ⟨⟨_, bO.alloc _, World.ownsRow_nil _ _ _ _, Nat.zero_le _⟩, hVb⟩
          _ ?assign ?body ?done ?stop
        case assign =>
          intro lk x W K hK
          gi_wp2
          exact hK
        case body =>
          rintro lk pre x W ⟨⟨v, hv, hrow, hle⟩, hB⟩ hlt
          have hL60 := HL60.out
          obtain ⟨av, cv, rfl, -⟩ := iw_of_i64 hrow rfl
          have hc := hv.cell
          have qn := (hB.cell (p := ⟨w2.heap.size + 1, 0, none⟩) (show w2.heap.size + 1 < wE1.heap.size by omega)).trans q2
          by_cases hbr : pre.length = nn
          · have hne : (((pre.length : Nat) : Int) == (nn : Int)) = true := beq_iff_eq.2 (by omega)
            gi_wp2_with fail
            exact ⟨KeepsFrom.refl _ _, ⟨_, hv, by rw [List.dropLast_concat]; exact hrow, by rw [List.dropLast_concat]; exact hbr, rfl⟩, hB⟩
          · have hne : (((pre.length : Nat) : Int) == (nn : Int)) = false := beq_eq_false_iff_ne.2 (by omega)
            gi_wp2_with (gi_at_builtin; refine wpListIn_append_own _ rfl _ _ 22 rfl wE1.heap.size 3 i0 (.int .i64 0) 1 8 Tryd.underlying22 hif hz0 hz1 hz2 rfl (by decide) _ _ _ rfl (hrow.alloc _) ⟨W.heap.size, 0, none⟩ 1 1 [.int .i64 ((x : Nat) : Int)] rfl rfl (cell_one_new _ _ _) (by simp [Value.oneCell']) (by unfold maxLen; omega) (by omega) (by have := hB.size; simp; omega) ?_; intro v' w1 hown' hgrow _; obtain ⟨g', cap', rfl⟩ := ownsRow_succ hown'; obtain ⟨hv1, hv2, hr2, hk2, hb2⟩ := hv.appended (by decide) hrow hB.size (Nat.le_refl _) hown' hgrow; have hc1 := hv1.cell; have hf1 := hv1.frozen)
            exact ⟨hk2.from _, hb2, ⟨_, hv2, by simpa [i64v] using hr2, by simp; omega⟩, hB.trans hb2⟩
        case done =>
          rintro D ys W hD rfl ⟨⟨v, hv, hrow, hle⟩, hB⟩ hK
          exact absurd hle (by omega)
        case stop =>
          rintro D2 c pre W2 hD2 hpre ⟨⟨v, hv, hrow, hlen, rfl⟩, hB2⟩ hK2
          obtain ⟨G, hG⟩ : ∃ G, G = pre.dropLast := ⟨_, rfl⟩
          rw [← hG] at hrow hlen
          have HEQ2 : Hid (decide (cs G = (cs L).take m) = true) := HEQ0 G (by rw [hG]; exact (List.dropLast_prefix pre).trans hpre) hlen
          clear hG
          obtain ⟨av2, cv2, rfl, hgot⟩ := iw_of_i64 hrow rfl
          gi_wp2
          have hvc := hv.cell
          have hgV : wE1.heap.size < W2.heap.size := hv.lt
          have qn2 := (hB2.cell (p := ⟨w2.heap.size + 1, 0, none⟩) (show w2.heap.size + 1 < wE1.heap.size by omega)).trans q2
          have hEW2 := step_callB hE2 (by simp) hB2
          obtain ⟨-, -, -, hzW2, hDW2⟩ := box2 hEW2
          have HGOT := Lib.hid hgot
          have HA : Hid (Iw W2 (some ⟨b2, o2, none⟩) m c2 ((cs L).take m)) := HIT.out.below hDW2
          have HQ : Hid (∀ W', Below W2.heap.size W2 W' → W'.cell? ⟨wE1.heap.size, 0, none⟩ = some (.slice av2 G.length cv2) ∧ W'.cell? ⟨w2.heap.size + 1, 0, none⟩ = some (.int .i64 nn)) := fun W' hb => ⟨(hb.cell (p := ⟨wE1.heap.size, 0, none⟩) hgV).trans hvc, (hb.cell (p := ⟨w2.heap.size + 1, 0, none⟩) (show w2.heap.size + 1 < W2.heap.size by omega)).trans qn2⟩
          have hcvl : G.length ≤ cv2 := hgot.2.1
          have hcvm : cv2 ≤ 9223372036854775807 := hgot.2.2.1
          clear hv hrow hgot
          generalize hGL : G.length = gl at HGOT HQ hcvl ⊢
          clear hGL
          go_wp2_with fail
          go_region_held3 (fun w' => w'.cell? ⟨wE1.heap.size, 0, none⟩ = some (.slice av2 gl cv2) ∧ w'.cell? ⟨w2.heap.size + 1, 0, none⟩ = some (.int .i64 nn))
            (first | exact HQ.out _ (Below.refl _ _).drew | exact HQ.out _ hbE2)
            (first | (go_at_call 21; (with_reducible refine (equalI_any _ _ _ _ _ _ _ _ _ (HGOT.out.below (Below.refl W2.heap.size W2).drew) (HA.out.below (Below.refl W2.heap.size W2).drew)).mono ?_); rintro e wE2 ⟨rfl, hbE2⟩; rw [HEQ2.out]; replace hbE2 := bd0' hbE2))
          go_wp2_with fail
          have hE3 := step_callB hEW2 (by simp) hbE2
          have hKE2 : wE2.heap[D2]? = some (.deferred (some [])) := (hbE2.block D2 (Array.getElem?_eq_some_iff.1 hK2).1).trans hK2
          rw [rounds_succ]
          obtain ⟨q1, q2, -, hzZ, hDZ⟩ := box2 hE3
          have hltZ : w2.heap.size < wE2.heap.size := by omega
          have HK2 := Lib.hid hKE2
          have HK1 : Hid (wE2.heap[D1]? = some (.deferred (some []))) := by
            have h1 : D1 < wE1.heap.size := (Array.getElem?_eq_some_iff.1 hKE1).1
            have h2 := hB2.size
            exact ((hbE2.block D1 (by omega)).trans (hB2.block D1 h1)).trans hKE1
          have HD1 : Hid (D1 < wE1.heap.size) := (Array.getElem?_eq_some_iff.1 hKE1).1
          have HD2 : Hid (wE1.heap.size ≤ D2) := by show _ ≤ _; simp at hD2; omega
          have HD0 : Hid (w2.heap.size ≤ D1) := by show _ ≤ _; simp at hD1; omega
          have HZ12 : Hid (wE1.heap.size ≤ wE2.heap.size) := Nat.le_trans hB2.size hbE2.size
          have HSZ : Hid (Bs wE2 a1 n1 c1 L) := HS1.out.below hDZ
          have HWZ : Hid (Wld wE2) := HW.out.below (step_call HB2.out hDZ)
          have HBZ : Hid (Below w.heap.size w wE2) := step_call HB2.out hDZ
          have HIZ := Lib.hid (HI2.out.below hDZ)
          have HQZ : Hid (∀ W', Below wE2.heap.size wE2 W' → W'.cell? ⟨w2.heap.size, 0, none⟩ = some (.slice a1 n1 c1)) := fun W' hb => (hb.cell (p := ⟨w2.heap.size, 0, none⟩) hltZ).trans q1
          have HZW : Hid (w.heap.size ≤ w2.heap.size) := hzw2
          go_wp2_with fail
          go_region_held3 (fun w' => w'.cell? ⟨w2.heap.size, 0, none⟩ = some (.slice a1 n1 c1))
            (first | exact HQZ.out _ (Below.refl _ _).drew | exact HQZ.out _ hb8 | exact HQZ.out _ hb7)
            (first
              | (go_at_call 22; (with_reducible refine (list_any a1 n1 c1 L _ (HSZ.out.below (Below.refl wE2.heap.size wE2).drew) (HWZ.out.below (Below.refl wE2.heap.size wE2).drew).tz).mono ?_); rintro e w7 ⟨v7, rfl, hr7, hb7⟩; replace hb7 := bd0' hb7)
              | (go_at_call 23; (with_reducible refine (bytes_any a1 n1 c1 L _ (HSZ.out.below hb7)).mono ?_); rintro e w8 ⟨bs, v8, rfl, -, hr8, hb8⟩; have HB78 := Lib.hid hb8; replace hb8 := hb7.trans (hb8.mono hb7.size)))
          obtain ⟨al, cl, rfl, hil⟩ := iw_of_i64 hr7 rfl
          obtain ⟨ab, cb, rfl, hlb, hcb⟩ := RowY.slice (show RowY w8 w7.heap.size v8 bs from hr8)
          have hcl1 := hil.2.1
          have hcl2 := hil.2.2.1
          have HG7 : Hid (∀ g, al = some ⟨g, 0, none⟩ → g < w7.heap.size) := fun g hg => (World.ownsRow.lt hr7 g (by rw [hg]; rfl)).2
          have HR7 : Hid (w8.ownsRow wE2.heap.size 3 1 (.slice al L.length cl) L.length (L.map i64v)) := owns_below (show w7.ownsRow wE2.heap.size 3 1 (.slice al L.length cl) L.length (L.map i64v) from hr7) (Nat.le_refl _) HB78.out
          have HR8 := Lib.hid hr8
          have HZ7 : Hid (wE2.heap.size ≤ w7.heap.size) := hb7.size
          have HB8 := Lib.hid hb8
          clear hr7 hr8 hil hb7 hb8
          generalize L.map i64v = xs0 at HR7
          generalize hLN2 : L.length = nl at HR7 hcl1 ⊢
          generalize bs.map u8v = ys0 at HR8
          generalize bs.length = nb at HR8 hlb ⊢
          have hnl : nl ≤ 4096 := by have := HL60.out; omega
          clear hLN2
          go_wp2_with fail
          go_loopw [54] (fun v54 wr => ∃ (k : Nat) (xs : List Value), k ≤ nl ∧ v54 = .int .i64 k ∧ Hid (wr.ownsRow wE2.heap.size 3 1 (.slice al nl cl) nl xs) ∧ Hid (wr.ownsRow w7.heap.size 5 1 (.slice ab nb cb) nb ys0) ∧ Hid (Below wE2.heap.size wE2 wr)) (fun v _ => nl - (intOf v).toNat)
          case atStart => exact ⟨0, _, Nat.zero_le _, rfl, HR7.out, HR8.out, HB8.out⟩
          case round =>
            obtain ⟨k, xs, hk, rfl, HX, HY, HBr⟩ := hrel
            by_cases hlt : k < nl
            · obtain ⟨g, vg, rfl, hg1, hg2, x1, f1⟩ := row_at HX.out hlt
              have hg7 := HG7.out g rfl
              go_wp2_with fail
              go_roundw
              case rel => exact ⟨k + 1, xs.set k (.int .i64 7), by omega, by go_num, (World.ownsRow.stored HX.out k _).1, owns_set HY.out (fun b hb => by have := (World.ownsRow.lt HY.out b hb).1; show b ≠ g; omega) _, HBr.out.setCell hg1 _⟩
              case measure => simp [intOf]; omega
            · go_wp2_with fail
              go_loopw [63] (fun v63 wr => ∃ (k : Nat) (xs : List Value), k ≤ nb ∧ v63 = .int .i64 k ∧ Hid (wr.ownsRow w7.heap.size 5 1 (.slice ab nb cb) nb xs) ∧ Hid (Below wE2.heap.size wE2 wr)) (fun v _ => nb - (intOf v).toNat)
              case atStart => exact ⟨0, _, Nat.zero_le _, rfl, HY.out, HBr.out⟩
              case round =>
                obtain ⟨k2, zs2, hk2, rfl, HY2, HBr2⟩ := hrel
                by_cases hlt2 : k2 < nb
                · obtain ⟨g, vg, rfl, hg1, hg2, x1, f1⟩ := row_at HY2.out hlt2
                  have hg7 : wE2.heap.size ≤ g := Nat.le_trans HZ7.out hg1
                  go_wp2_with fail
                  go_roundw
                  case rel => exact ⟨k2 + 1, zs2.set k2 (.int .u8 255), by omega, by go_num, (World.ownsRow.stored HY2.out k2 _).1, HBr2.out.setCell hg7 _⟩
                  case measure => simp [intOf]; omega
                · have q9 := HQZ.out _ HBr2.out
                  go_wp2_with (go_at_call 15; (with_reducible refine (is_yes _ _ _ _ _ _ _ _ (HSZ.out.below HBr2.out) (HIZ.out.below HBr2.out) (HWZ.out.below HBr2.out)).mono ?_); rintro e wF ⟨rfl, hbF⟩)
                  have hBF := HBr2.out.trans (hbF.mono HBr2.out.size)
                  have k2F := (hBF.block D2 (Array.getElem?_eq_some_iff.1 HK2.out).1).trans HK2.out
                  have k1F := (hBF.block D1 (Array.getElem?_eq_some_iff.1 HK1.out).1).trans HK1.out
                  have hbD2 : Below wE1.heap.size wF (wF.putObj D2 _) := belowK_b (w := wE1) (Nat.le_refl _) wF D2 _ (.deferred none) HD2.out k2F rfl rfl
                  have k1G := (hbD2.block D1 HD1.out).trans k1F
                  refine ⟨by simp, .inl ⟨_, _, rfl, run_takeDeferred k2F, ?_⟩⟩
                  refine ⟨by simp, .inl ⟨_, _, rfl, run_takeDeferred k1G, ?_⟩⟩
                  exact ⟨_, results_tmp rfl _ _ _, rfl, ((HBZ.out.trans (hBF.mono HBZ.out.size)).trans (hbD2.mono (by have := HZW.out; have := HD0.out; have := HD1.out; omega))).trans (belowK_b (w := w) (Nat.le_refl _) _ D1 _ _ (by have := HZW.out; have := HD0.out; omega) k1G rfl rfl)⟩
end Go.Proofs.YtaekkpoknpnnbaaDoor
