/- Contracts: With, Without. -/
import Derived.Test.YtkmchnggcjmchaaDoorBtE
import Derived.Laws.CopyOwn
import Derived.Laws.AppendOwnNone
import Derived.StillTailTactics
namespace Go.Proofs.YtkmchnggcjmchaaDoor.Bz
open Go.RowKit Go.PlainAid
set_option linter.unusedVariables false
set_option linter.unusedSimpArgs false
set_option maxHeartbeats 2000000

/-- A set with a further number. -/
def withL (l : List Nat) (i : Int) : List Nat := if 0 ≤ i ∧ i ≤ 4095 then (List.range 4096).filter (fun x => decide (x ∈ l) || decide (x = i.toNat)) else l
def withoutL (l : List Nat) (i : Int) : List Nat := l.filter (fun x => !decide ((x : Int) = i))
theorem with_has {ws l : List Nat} (h : Rp ws l) {i : Int} (hb : hasB l i = true) : withL l i = l := by
  unfold hasB at hb
  simp only [Bool.and_eq_true, decide_eq_true_eq] at hb
  unfold withL
  have := h.asc.2 _ hb.2
  rw [if_pos ⟨hb.1, by omega⟩]
  apply asc_ext ⟨(pw_range 4096).filter _, fun x hx => by simp at hx; exact hx.1⟩ h.asc
  intro x
  simp only [List.mem_filter, List.mem_range, Bool.or_eq_true, decide_eq_true_eq]
  constructor
  · rintro ⟨_, hx | rfl⟩
    · exact hx
    · exact hb.2
  · intro hx; exact ⟨h.asc.2 x hx, .inl hx⟩
theorem with_rp {ws us l : List Nat} {k q : Nat} (h : Rp ws l) (hk : k ≤ 4095) (hq : us.length = max ws.length (k / 64 + 1)) (hu : ∀ j, wd us j = if j = k / 64 then wd ws (k / 64) ||| 2 ^ (k % 64) else wd ws j) : Rp us (withL l k) := by
  have hl := h.2.2.1
  have hne : wd ws (k / 64) ||| 2 ^ (k % 64) ≠ 0 := fun e => by
    have := (Nat.or_eq_zero_iff.1 e).2
    have := Nat.two_pow_pos (k % 64)
    omega
  unfold withL
  rw [if_pos ⟨by omega, by omega⟩]
  refine Rp.of ?_ ?_ (by omega) ⟨(pw_range 4096).filter _, fun x hx => by simp at hx; exact hx.1⟩ ?_
  · intro x hx
    obtain ⟨j, hj, rfl⟩ := List.getElem_of_mem hx
    rw [← wd_get hj, hu j]
    split
    · exact lor_lt (wd_lt h.1 _) (bit_lt (by omega))
    · exact wd_lt h.1 _
  · intro j hj
    rw [hu j]
    split
    · exact hne
    · rename_i hjk
      exact h.2.1 j (by omega)
  · intro i hi
    simp only [List.mem_filter, List.mem_range, Bool.or_eq_true, decide_eq_true_eq, Int.toNat_natCast]
    unfold mem
    rw [hu]
    have e1 := h.mem_iff i
    unfold mem at e1
    by_cases hik : i / 64 = k / 64
    · rw [if_pos hik, Nat.testBit_or, Nat.testBit_two_pow, Bool.or_eq_true, decide_eq_true_eq, ← hik, ← e1]
      constructor
      · rintro ⟨_, h1 | h1⟩
        · exact .inl h1
        · exact .inr (by rw [h1])
      · rintro (h1 | h1)
        · exact ⟨hi, .inl h1⟩
        · exact ⟨hi, .inr (by omega)⟩
    · rw [if_neg hik, ← e1]
      constructor
      · rintro ⟨_, h1 | h1⟩
        · exact h1
        · exact absurd (by rw [h1]) hik
      · intro h1; exact ⟨hi, .inl h1⟩

theorem Row.heap {w : World} {B g q : Nat} {us : List Nat} (h : Row w B g q us) : w.heap[g]? = some (.cells (us.map u64v).toArray 69 (0, 0)) := by
  rcases h.2 with ⟨h', _⟩ | ⟨g', cap', cur, h', hb, hg, hnc, hcm, hcs, htake⟩
  · simp at h'
  · simp only [Value.slice.injEq, Option.some.injEq, Addr.mk.injEq, and_true, true_and] at h'
    obtain ⟨rfl, rfl⟩ := h'
    rw [hg]
    congr 1
    have : cur.toList = us.map u64v := by
      rw [← htake, List.take_of_length_le]
      rw [Array.length_toList]; omega
    rw [← this]
theorem Row.of_heap {w : World} {B g q : Nat} {us : List Nat} (h : w.heap[g]? = some (.cells (us.map u64v).toArray 69 (0, 0))) (hB : B ≤ g) (hq : us.length = q) (hm : q ≤ maxLen) : Row w B g q us := by
  refine ⟨by rw [List.length_map]; omega, .inr ⟨g, q, (us.map u64v).toArray, rfl, hB, h, Nat.le_refl _, hm, by simp; omega, by rw [List.take_of_length_le (by simp; omega)]⟩⟩
theorem or_bit {x k : Nat} {j : Int} (hx : x < 18446744073709551616) (hj : j = (k % 64 : Nat)) (hk : k % 64 < 64) : bits .or .u64 (x : Int) (IntKind.u64.wrap (2 ^ j.toNat)) = ((x ||| 2 ^ (k % 64) : Nat) : Int) := by
  subst hj
  have hb := bit_lt hk
  have h1 : IntKind.u64.wrap (2 ^ ((k % 64 : Nat) : Int).toNat) = ((2 ^ (k % 64) : Nat) : Int) := by
    rw [Int.toNat_natCast, IntKind.wrap_u64]
    have : ((2 : Int) ^ (k % 64)) = ((2 ^ (k % 64) : Nat) : Int) := by simp
    rw [this]
    generalize 2 ^ (k % 64) = y at *
    omega
  rw [h1]
  exact u64_or_nat _ _ hx hb
theorem andnot_bit {x k : Nat} {j : Int} (hx : x < 18446744073709551616) (hj : j = (k % 64 : Nat)) (hk : k % 64 < 64) : bits .andNot .u64 (x : Int) (IntKind.u64.wrap (2 ^ j.toNat)) = ((ldf x (2 ^ (k % 64)) : Nat) : Int) := by
  subst hj
  have hb := bit_lt hk
  have h1 : IntKind.u64.wrap (2 ^ ((k % 64 : Nat) : Int).toNat) = ((2 ^ (k % 64) : Nat) : Int) := by
    rw [Int.toNat_natCast, IntKind.wrap_u64]
    have : ((2 : Int) ^ (k % 64)) = ((2 ^ (k % 64) : Nat) : Int) := by simp
    rw [this]
    generalize 2 ^ (k % 64) = y at *
    omega
  rw [h1]
  exact u64_andNot_nat _ _ hx hb
theorem ownsRow.wd {w : World} {B g n cap : Nat} {us : List Nat} (h : w.ownsRow B 69 1 (.slice (some ⟨g, 0, none⟩) n cap) n (us.map u64v)) (hc : n ≤ cap) (hm : cap ≤ 9223372036854775807) : Wd w (some ⟨g, 0, none⟩) n cap us := by
  have hl : us.length = n := by have := h.1; rw [List.length_map] at this; omega
  refine ⟨hl, hc, hm, .inr ⟨g, 0, rfl, ⟨(World.ownsRow.lt h g rfl).2, own_typ h⟩, fun j hj => ?_⟩⟩
  rw [Nat.zero_add, World.ownsRow.cellAt h j (by omega), List.getElem?_map, wd_get (by omega), List.getElem?_eq_getElem (by omega)]; rfl
theorem empty_row (w : World) : (w.alloc (.cells #[] 69)).ownsRow w.heap.size 69 1 (.slice (some ⟨w.heap.size, 0, none⟩) 0 0) 0 [] := by
  refine ⟨rfl, .inr ⟨w.heap.size, 0, #[], rfl, Nat.le_refl _, ?_, Nat.le_refl _, Nat.zero_le _, rfl, rfl⟩⟩
  show (w.heap.push _)[_]? = _
  simp
theorem copy_words {us ws : List Nat} {q : Nat} (hq : us.length = q) (hn : ws.length ≤ q) : splice (us.map u64v) 0 (ws.map u64v) = (ws ++ us.drop ws.length).map u64v := by
  unfold splice
  simp
theorem wd_copy {ws : List Nat} {q : Nat} (hn : ws.length ≤ q) (j : Nat) : wd (ws ++ (List.replicate q 0).drop ws.length) j = wd ws j := by
  unfold wd
  rw [List.getD_eq_getElem?_getD, List.getD_eq_getElem?_getD]
  by_cases hj : j < ws.length
  · rw [List.getElem?_append_left hj]
  · rw [List.getElem?_append_right (by omega), List.getElem?_eq_none (l := ws) (by omega)]
    simp only [List.drop_replicate, List.getElem?_replicate]
    split <;> rfl

/-- A set, in the place it was or in a new one. -/
def SetPostN (w : World) (a : Option Addr) (l : List Nat) (e : Ending) (w' : World) : Prop := ∃ a' n cap, e = .returned (.agg #[.slice a' n cap]) ∧ Bs w' a' n cap l ∧ Below w.heap.size w w' ∧ (a' = a ∨ ∃ b, a' = some ⟨b, 0, none⟩ ∧ w.heap.size ≤ b)
set_option maxRecDepth 20000 in
theorem withN_any (a : Option Addr) (n cap : Nat) (l : List Nat) (i : Int) (w : World) (h : Bs w a n cap l) :
    Calls Tryd.prog 12 #[.agg #[.slice a n cap], .int .i64 i] w (SetPostN w a (withL l i)) := by
  obtain ⟨i0, hi, hz0, hz1, hz2⟩ := info_parts info64
  have hH := Lib.hid (fun w' (hb : Below w.heap.size w w') => has_any a n cap l i w' (h.below hb))
  have hle := h.le
  have HB0 := Lib.hid h
  obtain ⟨ws, hw, hr⟩ := h
  have hncap : n ≤ cap := hw.2.1
  have old : Hid (∀ w', withL l i = l → Below w.heap.size w w' → SetPostN w a (withL l i) (.returned (.agg #[.slice a n cap])) w') := by
    intro w' hl hb
    rw [hl]
    exact ⟨a, n, cap, rfl, HB0.out.below hb, hb, .inl rfl⟩
  by_cases hneg : i < 0
  · have hl : withL l i = l := by unfold withL; rw [if_neg (by omega)]
    have HL := Lib.hid hl
    clear hw hr hl
    go_enter Tryd.func12, Tryd.ntmps12
    go_wp2_with fail
    go_returns
    exact old.out _ HL.out (by go_grown)
  by_cases hbig : 4095 < i
  · have hl : withL l i = l := by unfold withL; rw [if_neg (by omega)]
    have HL := Lib.hid hl
    have h0 : decide (i < 0) = false := decide_eq_false hneg
    clear hw hr hl
    go_enter Tryd.func12, Tryd.ntmps12
    go_wp2_with fail
    go_returns
    exact old.out _ HL.out (by go_grown)
  have h0 : decide (i < 0) = false := decide_eq_false hneg
  have h1 : decide (4095 < i) = false := decide_eq_false hbig
  cases hb : hasB l i
  · obtain ⟨k, hik⟩ : ∃ k : Nat, i = k := ⟨i.toNat, by omega⟩
    have hk : k ≤ 4095 := by omega
    rw [hb] at hH
    obtain ⟨q, hq⟩ : ∃ q : Nat, max (n : Int) (i / 64 + 1) = q := ⟨max n (k / 64 + 1), by omega⟩
    have hqe := Lib.hid (show q = max n (k / 64 + 1) by omega)
    have hq64 : q ≤ 64 := by omega
    have hqn : n ≤ q := by omega
    have hqk : k / 64 < q := by omega
    have i0' : 0 ≤ i := by omega
    have i1' : i ≤ 4095 := by omega
    have hbytes : i0.bytes * q ≤ 281474976710656 := by rw [hz2]; omega
    have hqm : q ≤ maxLen := by unfold maxLen; omega
    have hQM := Lib.hid hqm
    have HW := Lib.hid hw
    have HR0 := Lib.hid hr
    have HIK := Lib.hid hik
    have hwl := Lib.hid (fun k => wd_lt hr.1 k)
    clear hw hr hneg hbig hb old hik
    go_enter Tryd.func12, Tryd.ntmps12
    go_wp2_with (first | (go_at_call 39; refine (hH.out _ (by go_grown)).mono ?_; rintro e w2 ⟨rfl, hb2⟩; obtain ⟨c0, c1, f1, hz2', hbw2⟩ := box2 (hb2.mono (by simp))) | (refine wpList_make_full _ rfl (.tmp 24) (.tmp 24) 38 rfl w2.heap.size 69 i0 (.int .u64 0) 1 Tryd.underlying38 hi hz0 hz1 .i64 .i64 q q q rfl rfl rfl rfl hbytes hqm (Nat.le_refl _) ?_))
    intro w3 hown hgr
    have hrow := Lib.hid (Row.new hown)
    have hb3 := (Below.refl w2.heap.size w2).grown hgr (Nat.le_refl _) (fun b hb => by cases hb)
    have hz3 := hb3.size
    have d0 := (hb3.cell (p := ⟨w.heap.size, 0, none⟩) (show w.heap.size < w2.heap.size by omega)).trans c0
    have d1 := (hb3.cell (p := ⟨w.heap.size + 1, 0, none⟩) (show w.heap.size + 1 < w2.heap.size by omega)).trans c1
    have g1 := (hb3.frozen (p := ⟨w.heap.size + 1, 0, none⟩) (show w.heap.size + 1 < w2.heap.size by omega)).trans f1
    generalize hgE : w2.heap.size = g at hrow ⊢
    have HGE := Lib.hid hgE
    have HW3 := Lib.hid (HW.out.below (hbw2.trans (hb3.mono hbw2.size)))
    have hb03 := Lib.hid (hbw2.trans (hb3.mono hbw2.size))
    clear hown hgr hi hz0 hz1 hz2 hbytes hqm c0 c1 f1 hb2 hb3 hgE HW
    have hHeap := Lib.hid (hrow.out.heap)
    have hlen0 : ws.length = n := HW3.out.1
    have hcs := Lib.hid hlen0
    clear hlen0
    obtain ⟨cs, hcse⟩ : ∃ cs, cs = ws.map u64v := ⟨_, rfl⟩
    obtain ⟨cur, hcure⟩ : ∃ cur, cur = (List.replicate q 0).map u64v := ⟨_, rfl⟩
    have hcl : cs.length = n := by rw [hcse, List.length_map]; exact hcs.out
    have hcul : cur.length = q := by rw [hcure]; simp
    rw [← hcure] at hHeap
    have hCS := Lib.hid hcse
    have hCU := Lib.hid hcure
    have hsrc : 0 < cs.length → (some (⟨g, 0, none⟩ : Addr) = some ⟨g, 0, none⟩) ∧ ∃ ad, a = some ad ∧ ∀ j v, cs[j]? = some v → w3.cell? (ad.add j) = some v := by
      intro h0
      refine ⟨rfl, ?_⟩
      obtain ⟨x1, x2, x3, ⟨_, h5, _⟩ | ⟨b, o, rfl, ⟨hbl, -⟩, hc⟩⟩ := HW3.out
      · omega
      · refine ⟨_, rfl, fun j v hj => ?_⟩
        have hjn : j < n := by
          have := (List.getElem?_eq_some_iff.1 hj).1; omega
        have : (⟨b, o, none⟩ : Addr).add j = ⟨b, o + j, none⟩ := by unfold Addr.add; split <;> simp_all
        rw [this, hc j hjn, ← hj, hcse, List.getElem?_map, wd_get (by omega), List.getElem?_eq_getElem (by omega)]; rfl
    have hone : ∀ v ∈ cs, v.oneCell' = true := by
      intro v hv
      rw [hcse] at hv
      obtain ⟨x, _, rfl⟩ := List.mem_map.1 hv
      rfl
    have hmin : cs.length = Nat.min n q := by rw [hcl]; exact (Nat.min_eq_left hqn).symm
    have hfit : 0 + cs.length ≤ cur.length := by omega
    have hSRC := Lib.hid hsrc
    have hONE := Lib.hid hone
    have hMIN := Lib.hid hmin
    clear hsrc hone hmin hcse hcure hcl hcul
    have hgg : g ≤ w3.heap.size := by have := HGE.out; omega
    go_wp2_with (with_reducible refine wpList_copy_splice rfl (.tmp 26) (.tmp 28) 38 38 rfl 69 Tryd.underlying38 (by kernel_rfl) (some ⟨g, 0, none⟩) a q q n cap rfl rfl g 0 cur 69 hHeap.out cs hMIN.out hSRC.out hfit hONE.out g w3 (Below.refl _ _) (Nat.le_refl _) ?_)
    intro w4 hheap hb4
    have hz4 := hb4.size
    have HR4 : Hid (Row w4 g g q (ws ++ (List.replicate q 0).drop ws.length)) := by
      show Row _ _ _ _ _
      refine Row.of_heap ?_ (Nat.le_refl _) ?_ hQM.out
      · rw [hheap.out, hCU.out, hCS.out, copy_words (q := q) (by simp) (by rw [hcs.out]; exact hqn)]
      · have := hcs.out
        simp; omega
    have k0 := (hb4.cell (p := ⟨w.heap.size, 0, none⟩) (show w.heap.size < g by have := HGE.out; omega)).trans d0
    have k1 := (hb4.cell (p := ⟨w.heap.size + 1, 0, none⟩) (show w.heap.size + 1 < g by have := HGE.out; omega)).trans d1
    have q1 := (hb4.frozen (p := ⟨w.heap.size + 1, 0, none⟩) (show w.heap.size + 1 < g by have := HGE.out; omega)).trans g1
    have x1 := HR4.out.cell hqk
    rw [wd_copy (by rw [hcs.out]; exact hqn)] at x1
    have x2 := HR4.out.free (k / 64)
    have e3 : (i / 64).toNat = k / 64 := by have := HIK.out; omega
    have j0 : 0 ≤ i / 64 := by omega
    have j1 : i / 64 < (q : Int) := by have := HIK.out; omega
    have j2 : 0 ≤ i % 64 := by omega
    have j3 : i % 64 < 64 := by omega
    have hb04 := Lib.hid (hb03.out.trans (hb4.mono (by have := HGE.out; omega)))
    clear hHeap hSRC hONE hMIN hfit d0 d1 g1 hheap
    have hor : bits .or .u64 ((wd ws (k / 64) : Nat) : Int) (IntKind.u64.wrap (2 ^ (i % 64).toNat)) = ((wd ws (k / 64) ||| 2 ^ (k % 64) : Nat) : Int) := or_bit (hwl.out _) (by have := HIK.out; omega) (by omega)
    have l1 : (g = w.heap.size + 1) = False := eq_false (by have := HGE.out; omega)
    have l2 : (w.heap.size + 1 = g) = False := eq_false (by have := HGE.out; omega)
    go_wp2_with fail
    go_region
    go_wp2_with fail
    have cs1 := World.cell?_setCell_same (w4.setCell ⟨g, k / 64, none⟩ (.int .u64 (wd ws (k / 64) ||| 2 ^ (k % 64) : Nat))) ⟨w.heap.size + 1, 0, none⟩ (.slice (some ⟨g, 0, none⟩) q q) (u := .slice none 0 0) (by rw [World.cell?_setCell_other _ _ _ _ (by intro e; injection e with e; rw [l1] at e; exact e)]; exact k1)
    have hR5 := Row.wd (Row.other (HR4.out.set (k / 64) (wd ws (k / 64) ||| 2 ^ (k % 64))) (a := ⟨w.heap.size + 1, 0, none⟩) (show g ≠ w.heap.size + 1 by rw [ne_eq, l1]; exact id) (.slice (some ⟨g, 0, none⟩) q q)) (by omega)
    refine bodyPost_ret (v := .agg #[.slice (some ⟨g, 0, none⟩) q q]) (by simp [results, Tryd.results12, go_sem, cs1]) rfl ?_
    refine ⟨some ⟨g, 0, none⟩, q, q, rfl, ⟨(ws ++ (List.replicate q 0).drop ws.length).set (k / 64) (wd ws (k / 64) ||| 2 ^ (k % 64)), hR5.below (Below.refl _ _).drew, ?_⟩, ?_, .inr ⟨g, rfl, by have := HGE.out; omega⟩⟩
    · rw [HIK.out]
      refine with_rp (q := q) HR0.out hk ?_ fun j => ?_
      · have := hcs.out
        rw [List.length_set, HR4.out.len, hqe.out, this]
      · rw [wd_set (by rw [HR4.out.len]; exact hqk), wd_copy (by rw [hcs.out]; exact hqn)]
    · exact Below.drew ((hb04.out.setCell (show w.heap.size ≤ g by have := HGE.out; omega) _).setCell (show w.heap.size ≤ w.heap.size + 1 by omega) _)
  · have HL := Lib.hid (with_has hr hb)
    rw [hb] at hH
    clear hw hr hneg hbig hb
    go_enter Tryd.func12, Tryd.ntmps12
    go_wp2_with (go_at_call 39; refine (hH.out _ (by go_grown)).mono ?_; rintro e w2 ⟨rfl, hb2⟩; obtain ⟨c0, c1, f1, hz2', hbw2⟩ := box2 (hb2.mono (by simp)))
    have cs := World.cell?_setCell_same w2 ⟨w.heap.size + 1, 0, none⟩ (.slice a n cap) c1
    refine bodyPost_ret (v := .agg #[.slice a n cap]) (by simp [results, Tryd.results12, go_sem, cs]) rfl ?_
    exact old.out _ HL.out (hbw2.setCell (show w.heap.size ≤ w.heap.size + 1 by omega) _)

theorem without_mem {ws us l : List Nat} {k : Nat} (h : Rp ws l) (hk : k ∈ l) (hu : us = ws.set (k / 64) (ldf (wd ws (k / 64)) (2 ^ (k % 64)))) :
    U64 us ∧ us.length ≤ 64 ∧ Asc (withoutL l k) ∧ ∀ i, i < 4096 → (i ∈ withoutL l k ↔ mem us i = true) := by
  have hkl : k / 64 < ws.length := by
    by_cases hc : k / 64 < ws.length
    · exact hc
    · have := (h.mem_iff k).1 hk
      rw [mem_out (by omega)] at this; cases this
  subst hu
  refine ⟨h.1.set (ldf_lt (wd_lt h.1 _)), by rw [List.length_set]; exact h.2.2.1, asc_filter h.asc _, fun i hi => ?_⟩
  rw [mem_clrbit hkl, h.mem_dec]
  unfold withoutL
  simp only [List.mem_filter, Bool.not_eq_true', decide_eq_false_iff_not, Bool.and_eq_true, decide_eq_true_eq]
  constructor
  · rintro ⟨a, b⟩; exact ⟨a, by omega⟩
  · rintro ⟨a, b⟩; exact ⟨a, by omega⟩
theorem without_has {l : List Nat} {i : Int} (hb : hasB l i = false) : withoutL l i = l := by
  unfold withoutL
  rw [List.filter_eq_self]
  intro x hx
  simp only [Bool.not_eq_true', decide_eq_false_iff_not]
  intro e
  unfold hasB at hb
  rw [Bool.and_eq_false_iff] at hb
  rcases hb with hb | hb
  · rw [decide_eq_false_iff_not] at hb; omega
  · rw [decide_eq_false_iff_not] at hb
    apply hb
    have : i.toNat = x := by omega
    rw [this]; exact hx

end Go.Proofs.YtkmchnggcjmchaaDoor.Bz
