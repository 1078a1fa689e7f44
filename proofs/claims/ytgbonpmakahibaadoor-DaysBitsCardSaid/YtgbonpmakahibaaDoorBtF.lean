/- Contracts: With, Without. -/
import Derived.Test.YtgbonpmakahibaaDoorBtE
import Derived.Laws.CopyOwn
import Derived.Laws.AppendOwnNone
import Derived.StillTailTactics
namespace Go.Proofs.YtgbonpmakahibaaDoor
open Go.RowKit Go.PlainAid
set_option linter.unusedVariables false
set_option linter.unusedSimpArgs false
set_option maxHeartbeats 2000000

/-- A set with a further number. -/
def withL (l : List Nat) (i : Int) : List Nat := if 0 ≤ i ∧ i ≤ 4095 then (List.range 4096).filter (fun x => decide (x ∈ l) || decide (x = i.toNat)) else l
def withoutL (l : List Nat) (i : Int) : List Nat := l.filter (fun x => !decide ((x : Int) = i))
theorem with_has {ws l : List Nat} (h : Rp ws l) {i : Int} (hb : hasB l i = true) : withL l i = l := by
  unfold hasB at hb
  simp only [Bool.and_eq_true, decide_eq_true_eq] at hb
  unfold withL
  have := h.asc.2 _ hb.2
  rw [if_pos ⟨hb.1, by omega⟩]
  apply asc_ext ⟨(pw_range 4096).filter _, fun x hx => by simp at hx; exact hx.1⟩ h.asc
  intro x
  simp only [List.mem_filter, List.mem_range, Bool.or_eq_true, decide_eq_true_eq]
  constructor
  · rintro ⟨_, hx | rfl⟩
    · exact hx
    · exact hb.2
  · intro hx; exact ⟨h.asc.2 x hx, .inl hx⟩
theorem with_rp {ws us l : List Nat} {k q : Nat} (h : Rp ws l) (hk : k ≤ 4095) (hq : us.length = max ws.length (k / 64 + 1)) (hu : ∀ j, wd us j = if j = k / 64 then wd ws (k / 64) ||| 2 ^ (k % 64) else wd ws j) : Rp us (withL l k) := by
  have hl := h.2.2.1
  have hne : wd ws (k / 64) ||| 2 ^ (k % 64) ≠ 0 := fun e => by
    have := (Nat.or_eq_zero_iff.1 e).2
    have := Nat.two_pow_pos (k % 64)
    omega
  unfold withL
  rw [if_pos ⟨by omega, by omega⟩]
  refine Rp.of ?_ ?_ (by omega) ⟨(pw_range 4096).filter _, fun x hx => by simp at hx; exact hx.1⟩ ?_
  · intro x hx
    obtain ⟨j, hj, rfl⟩ := List.getElem_of_mem hx
    rw [← wd_get hj, hu j]
    split
    · exact lor_lt (wd_lt h.1 _) (bit_lt (by omega))
    · exact wd_lt h.1 _
  · intro j hj
    rw [hu j]
    split
    · exact hne
    · rename_i hjk
      exact h.2.1 j (by omega)
  · intro i hi
    simp only [List.mem_filter, List.mem_range, Bool.or_eq_true, decide_eq_true_eq, Int.toNat_natCast]
    unfold mem
    rw [hu]
    have e1 := h.mem_iff i
    unfold mem at e1
    by_cases hik : i / 64 = k / 64
    · rw [if_pos hik, Nat.testBit_or, Nat.testBit_two_pow, Bool.or_eq_true, decide_eq_true_eq, ← hik, ← e1]
      constructor
      · rintro ⟨_, h1 | h1⟩
        · exact .inl h1
        · exact .inr (by rw [h1])
      · rintro (h1 | h1)
        · exact ⟨hi, .inl h1⟩
        · exact ⟨hi, .inr (by omega)⟩
    · rw [if_neg hik, ← e1]
      constructor
      · rintro ⟨_, h1 | h1⟩
        · exact h1
        · exact absurd (by rw [h1]) hik
      · intro h1; exact ⟨hi, .inl h1⟩

theorem Row.heap {w : World} {B g q : Nat} {us : List Nat} (h : Row w B g q us) : w.heap[g]? = some (.cells (us.map u64v).toArray 77 (0, 0)) := by
  rcases h.2 with ⟨h', _⟩ | ⟨g', cap', cur, h', hb, hg, hnc, hcm, hcs, htake⟩
  · simp at h'
  · simp only [Value.slice.injEq, Option.some.injEq, Addr.mk.injEq, and_true, true_and] at h'
    obtain ⟨rfl, rfl⟩ := h'
    rw [hg]
    congr 1
    have : cur.toList = us.map u64v := by
      rw [← htake, List.take_of_length_le]
      rw [Array.length_toList]; omega
    rw [← this]
theorem Row.of_heap {w : World} {B g q : Nat} {us : List Nat} (h : w.heap[g]? = some (.cells (us.map u64v).toArray 77 (0, 0))) (hB : B ≤ g) (hq : us.length = q) (hm : q ≤ maxLen) : Row w B g q us := by
  refine ⟨by rw [List.length_map]; omega, .inr ⟨g, q, (us.map u64v).toArray, rfl, hB, h, Nat.le_refl _, hm, by simp; omega, by rw [List.take_of_length_le (by simp; omega)]⟩⟩
theorem or_bit {x k : Nat} {j : Int} (hx : x < 18446744073709551616) (hj : j = (k % 64 : Nat)) (hk : k % 64 < 64) : bits .or .u64 (x : Int) (IntKind.u64.wrap (2 ^ j.toNat)) = ((x ||| 2 ^ (k % 64) : Nat) : Int) := by
  subst hj
  have hb := bit_lt hk
  have h1 : IntKind.u64.wrap (2 ^ ((k % 64 : Nat) : Int).toNat) = ((2 ^ (k % 64) : Nat) : Int) := by
    rw [Int.toNat_natCast, IntKind.wrap_u64]
    have : ((2 : Int) ^ (k % 64)) = ((2 ^ (k % 64) : Nat) : Int) := by simp
    rw [this]
    generalize 2 ^ (k % 64) = y at *
    omega
  rw [h1]
  exact u64_or_nat _ _ hx hb
theorem andnot_bit {x k : Nat} {j : Int} (hx : x < 18446744073709551616) (hj : j = (k % 64 : Nat)) (hk : k % 64 < 64) : bits .andNot .u64 (x : Int) (IntKind.u64.wrap (2 ^ j.toNat)) = ((ldf x (2 ^ (k % 64)) : Nat) : Int) := by
  subst hj
  have hb := bit_lt hk
  have h1 : IntKind.u64.wrap (2 ^ ((k % 64 : Nat) : Int).toNat) = ((2 ^ (k % 64) : Nat) : Int) := by
    rw [Int.toNat_natCast, IntKind.wrap_u64]
    have : ((2 : Int) ^ (k % 64)) = ((2 ^ (k % 64) : Nat) : Int) := by simp
    rw [this]
    generalize 2 ^ (k % 64) = y at *
    omega
  rw [h1]
  exact u64_andNot_nat _ _ hx hb
theorem ownsRow.wd {w : World} {B g n cap : Nat} {us : List Nat} (h : w.ownsRow B 77 1 (.slice (some ⟨g, 0, none⟩) n cap) n (us.map u64v)) (hc : n ≤ cap) (hm : cap ≤ 9223372036854775807) : Wd w (some ⟨g, 0, none⟩) n cap us := by
  have hl : us.length = n := by have := h.1; rw [List.length_map] at this; omega
  refine ⟨hl, hc, hm, .inr ⟨g, 0, rfl, (World.ownsRow.lt h g rfl).2, fun j hj => ?_⟩⟩
  rw [Nat.zero_add, World.ownsRow.cellAt h j (by omega), List.getElem?_map, wd_get (by omega), List.getElem?_eq_getElem (by omega)]; rfl
theorem empty_row (w : World) : (w.alloc (.cells #[] 77)).ownsRow w.heap.size 77 1 (.slice (some ⟨w.heap.size, 0, none⟩) 0 0) 0 [] := by
  refine ⟨rfl, .inr ⟨w.heap.size, 0, #[], rfl, Nat.le_refl _, ?_, Nat.le_refl _, Nat.zero_le _, rfl, rfl⟩⟩
  show (w.heap.push _)[_]? = _
  simp
theorem copy_words {us ws : List Nat} {q : Nat} (hq : us.length = q) (hn : ws.length ≤ q) : splice (us.map u64v) 0 (ws.map u64v) = (ws ++ us.drop ws.length).map u64v := by
  unfold splice
  simp
theorem wd_copy {ws : List Nat} {q : Nat} (hn : ws.length ≤ q) (j : Nat) : wd (ws ++ (List.replicate q 0).drop ws.length) j = wd ws j := by
  unfold wd
  rw [List.getD_eq_getElem?_getD, List.getD_eq_getElem?_getD]
  by_cases hj : j < ws.length
  · rw [List.getElem?_append_left hj]
  · rw [List.getElem?_append_right (by omega), List.getElem?_eq_none (l := ws) (by omega)]
    simp only [List.drop_replicate, List.getElem?_replicate]
    split <;> rfl

theorem without_mem {ws us l : List Nat} {k : Nat} (h : Rp ws l) (hk : k ∈ l) (hu : us = ws.set (k / 64) (ldf (wd ws (k / 64)) (2 ^ (k % 64)))) :
    U64 us ∧ us.length ≤ 64 ∧ Asc (withoutL l k) ∧ ∀ i, i < 4096 → (i ∈ withoutL l k ↔ mem us i = true) := by
  have hkl : k / 64 < ws.length := by
    by_cases hc : k / 64 < ws.length
    · exact hc
    · have := (h.mem_iff k).1 hk
      rw [mem_out (by omega)] at this; cases this
  subst hu
  refine ⟨h.1.set (ldf_lt (wd_lt h.1 _)), by rw [List.length_set]; exact h.2.2.1, asc_filter h.asc _, fun i hi => ?_⟩
  rw [mem_clrbit hkl, h.mem_dec]
  unfold withoutL
  simp only [List.mem_filter, Bool.not_eq_true', decide_eq_false_iff_not, Bool.and_eq_true, decide_eq_true_eq]
  constructor
  · rintro ⟨a, b⟩; exact ⟨a, by omega⟩
  · rintro ⟨a, b⟩; exact ⟨a, by omega⟩
theorem without_has {l : List Nat} {i : Int} (hb : hasB l i = false) : withoutL l i = l := by
  unfold withoutL
  rw [List.filter_eq_self]
  intro x hx
  simp only [Bool.not_eq_true', decide_eq_false_iff_not]
  intro e
  unfold hasB at hb
  rw [Bool.and_eq_false_iff] at hb
  rcases hb with hb | hb
  · rw [decide_eq_false_iff_not] at hb; omega
  · rw [decide_eq_false_iff_not] at hb
    apply hb
    have : i.toNat = x := by omega
    rw [this]; exact hx

end Go.Proofs.YtgbonpmakahibaaDoor
