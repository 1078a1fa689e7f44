/- Contract: Below. -/
import Derived.Test.YtgbonpmakahibaaDoorBtG
namespace Go.Proofs.YtgbonpmakahibaaDoor
open Go.RowKit Go.PlainAid
set_option linter.unusedVariables false
set_option linter.unusedSimpArgs false
set_option maxHeartbeats 2000000

def belowL (n : Int) : List Nat := List.range (min (max n 0) 4096).toNat
def ones : Nat := 18446744073709551615
theorem ones_tb (j : Nat) : ones.testBit j = decide (j < 64) := by
  have : ones = 2 ^ 64 - 1 := by decide
  rw [this, Nat.testBit_two_pow_sub_one]
theorem below_rp {us : List Nat} {m q : Nat} (hm : m ≤ 4096) (hq : q = (m + 63) / 64) (hl : us.length = q) (hw : ∀ j, wd us j = if j < q then (if j + 1 = q ∧ 0 < m % 64 then 2 ^ (m % 64) - 1 else ones) else 0) : Rp us (List.range m) := by
  have hp : 0 < m % 64 → 1 < 2 ^ (m % 64) := fun h => Nat.one_lt_two_pow (by omega)
  refine Rp.of ?_ ?_ (by omega) ⟨pw_range m, fun x hx => by have := List.mem_range.1 hx; omega⟩ fun i hi => ?_
  · intro x hx
    obtain ⟨j, hj, rfl⟩ := List.getElem_of_mem hx
    rw [← wd_get hj, hw j]
    split
    · split
      · have := bit_lt (k := m % 64) (by omega); omega
      · unfold ones; omega
    · omega
  · intro j hj
    rw [hw, if_pos (by omega)]
    split
    · rename_i h; have := hp h.2; omega
    · unfold ones; omega
  · rw [List.mem_range]
    unfold mem
    rw [hw]
    by_cases h1 : i / 64 < q
    · rw [if_pos h1]
      by_cases h2 : i / 64 + 1 = q ∧ 0 < m % 64
      · rw [if_pos h2, Nat.testBit_two_pow_sub_one, decide_eq_true_eq]
        omega
      · rw [if_neg h2, ones_tb, decide_eq_true_eq]
        constructor
        · intro _; omega
        · intro _
          by_cases h3 : 0 < m % 64
          · have : i / 64 + 1 ≠ q := fun e => h2 ⟨e, h3⟩
            omega
          · omega
    · rw [if_neg h1, Nat.zero_testBit]
      constructor
      · intro h; omega
      · intro h; cases h

theorem sub_bit {k : Nat} {j : Int} (hj : j = (k % 64 : Nat)) (hk : 0 < k % 64) (hk2 : k % 64 < 64) : IntKind.u64.wrap (IntKind.u64.wrap (2 ^ j.toNat) - 1) = ((2 ^ (k % 64) - 1 : Nat) : Int) := by
  subst hj
  have hb := bit_lt hk2
  have hp : 1 ≤ 2 ^ (k % 64) := Nat.one_le_two_pow
  rw [Int.toNat_natCast, IntKind.wrap_u64, IntKind.wrap_u64]
  have : ((2 : Int) ^ (k % 64)) = ((2 ^ (k % 64) : Nat) : Int) := by simp
  rw [this]
  generalize 2 ^ (k % 64) = y at *
  omega

set_option maxRecDepth 20000 in
theorem below_any (n : Int) (w : World) :
    Calls Tryd.prog 33 #[.int .i64 n] w (SetPost w (belowL n)) := by
  obtain ⟨i0, hi, hz0, hz1, hz2⟩ := info_parts info64
  obtain ⟨m, hm⟩ : ∃ m : Nat, min (max n 0) 4096 = m := ⟨(min (max n 0) 4096).toNat, by omega⟩
  have hB : Hid (belowL n = List.range m) := by show _ = _; unfold belowL; rw [hm]; simp
  have hm4 : m ≤ 4096 := by omega
  obtain ⟨q, hq⟩ : ∃ q : Nat, ((m : Int) + 63) / 64 = q := ⟨(m + 63) / 64, by omega⟩
  have hqe := Lib.hid (show q = (m + 63) / 64 by omega)
  have hq64 : q ≤ 64 := by omega
  have hbytes : i0.bytes * q ≤ 281474976710656 := by rw [hz2]; omega
  have hqm : q ≤ maxLen := by unfold maxLen; omega
  have fin : Hid (∀ us w', Row w' (w.heap.size + 1) (w.heap.size + 1) q us → (∀ j, wd us j = if j < q then (if j + 1 = q ∧ 0 < m % 64 then 2 ^ (m % 64) - 1 else ones) else 0) → Bs w' (some ⟨w.heap.size + 1, 0, none⟩) q q (belowL n)) := by
    intro us w' hr hu
    rw [hB.out]
    exact ⟨us, hr.wd (by omega), below_rp hm4 hqe.out hr.len hu⟩
  go_enter Tryd.func33, Tryd.ntmps33
  go_wp2_with (refine wpList_make_full _ rfl (.tmp 10) (.tmp 10) 53 rfl (w.heap.size + 1) 77 i0 (.int .u64 0) 1 Tryd.underlying53 hi hz0 hz1 .i64 .i64 (((m : Int) + 63) / 64) (((m : Int) + 63) / 64) q rfl rfl hq hq hbytes hqm (by simp) ?_)
  intro w1 hown hgr
  have hrow := Lib.hid (Row.new hown)
  have hbel := Lib.hid ((Below.refl (w.heap.size + 1) _).grown hgr (by simp) (fun b hb => by cases hb))
  clear hown hgr hi hz0 hz1 hz2 hbytes hqm
  generalize hgE : w.heap.size + 1 = g at hrow fin ⊢
  have HGE := Lib.hid hgE
  clear hgE
  go_wp2_with fail
  go_loopw [14] (fun v wr => ∃ (k : Nat) (us : List Nat), k ≤ q ∧ v = .int .i64 k ∧ Hid (Row wr g g q us) ∧ Hid (Upto us k (fun _ => ones)) ∧ Hid (Below (w.heap.size + 1) (w.alloc (.cells #[.slice none 0 0] 55)) wr)) (fun v _ => q - (intOf v).toNat)
  case atStart => exact ⟨0, List.replicate q 0, Nat.zero_le _, rfl, hrow.out, Upto.zero _ _, hbel.out⟩
  case round =>
    obtain ⟨k, us, hk, rfl, HR, HU, HB⟩ := hrel
    have hzr : w.heap.size + 1 ≤ wr.heap.size := by have := HB.out.size; simp at this; omega
    have hBw := Lib.hid (((Below.refl w.heap.size w).alloc (Nat.le_refl _) _).trans (HB.out.mono (by omega)))
    have c0 := (HB.out.cell (p := ⟨w.heap.size, 0, none⟩) (show w.heap.size < w.heap.size + 1 by omega)).trans (new1 w _ _).1
    have f0 := (HB.out.frozen (p := ⟨w.heap.size, 0, none⟩) (show w.heap.size < w.heap.size + 1 by omega)).trans (new1 w _ _).2
    by_cases hlt : k < q
    · have x1 := HR.out.cell hlt
      have x2 := HR.out.free k
      have HN := Lib.hid (HU.out.next HR.out.len hlt)
      go_wp2_with fail
      go_roundw
      case rel => exact ⟨k + 1, us.set k ones, by omega, by go_num, HR.out.set k ones, HN.out, HB.out.setCell (show w.heap.size + 1 ≤ g by rw [HGE.out]; exact Nat.le_refl _) _⟩
      case measure => simp [intOf]; omega
    · have hkq : k = q := by omega
      by_cases hr : 0 < m % 64
      · have hr1 : (0 : Int) < (m : Int) % 64 := by omega
        have hq1 : q - 1 < q := by have := hqe.out; omega
        have hq2 : 1 ≤ q := by omega
        have x1 := HR.out.cell hq1
        have x2 := HR.out.free (q - 1)
        have hsh : IntKind.u64.wrap (IntKind.u64.wrap ((2 : Int) ^ (m % 64)) - 1) = ((2 ^ (m % 64) - 1 : Nat) : Int) := by
          have := sub_bit (k := m) (j := ((m % 64 : Nat) : Int)) rfl hr (by omega)
          rw [Int.toNat_natCast] at this; exact this
        have l1 : (g = w.heap.size) = False := eq_false (by have := HGE.out; omega)
        have l2 : (w.heap.size = g) = False := eq_false (by have := HGE.out; omega)
        have HK := Lib.hid hkq
        have HRM := Lib.hid hr
        clear hkq hr
        go_wp2_with fail
        have cs1 := World.cell?_setCell_same (wr.setCell ⟨g, q - 1, none⟩ (.int .u64 (2 ^ (m % 64) - 1 : Nat))) ⟨w.heap.size, 0, none⟩ (.slice (some ⟨g, 0, none⟩) q q) (u := .slice none 0 0) (by rw [World.cell?_setCell_other _ _ _ _ (by intro e; injection e with e; rw [l1] at e; exact e)]; exact c0)
        refine bodyPost_ret (v := .agg #[.slice (some ⟨g, 0, none⟩) q q]) (by simp [results, Tryd.results33, go_sem, cs1]) rfl ?_
        have hR5 := (HR.out.set (q - 1) (2 ^ (m % 64) - 1)).other (a := ⟨w.heap.size, 0, none⟩) (show g ≠ w.heap.size by rw [ne_eq, l1]; exact id) (.slice (some ⟨g, 0, none⟩) q q)
        refine ⟨_, _, _, rfl, fin.out _ _ hR5 (fun j => ?_), (hBw.out.setCell (show w.heap.size ≤ g by have := HGE.out; omega) _).setCell (Nat.le_refl _) _⟩
        rw [wd_set (by rw [HR.out.len]; exact hq1)]
        by_cases hj : j = q - 1
        · rw [if_pos hj, if_pos (by omega), if_pos ⟨by omega, HRM.out⟩]
        · rw [if_neg hj, HU.out j, HK.out]
          by_cases h2 : j < q
          · rw [if_pos h2, if_pos h2, if_neg (by omega)]
          · rw [if_neg h2, if_neg h2]
      · have hr1 : ¬ (0 : Int) < (m : Int) % 64 := by omega
        have HK := Lib.hid hkq
        have HRM := Lib.hid hr
        clear hkq hr
        go_wp2_with fail
        have cs1 := World.cell?_setCell_same wr ⟨w.heap.size, 0, none⟩ (.slice (some ⟨g, 0, none⟩) q q) c0
        refine bodyPost_ret (v := .agg #[.slice (some ⟨g, 0, none⟩) q q]) (by simp [results, Tryd.results33, go_sem, cs1]) rfl ?_
        have hR5 := HR.out.other (a := ⟨w.heap.size, 0, none⟩) (show g ≠ w.heap.size by have := HGE.out; omega) (.slice (some ⟨g, 0, none⟩) q q)
        refine ⟨_, _, _, rfl, fin.out _ _ hR5 (fun j => ?_), hBw.out.setCell (Nat.le_refl _) _⟩
        rw [HU.out j, HK.out]
        by_cases h2 : j < q
        · rw [if_pos h2, if_pos h2, if_neg (fun e => HRM.out e.2)]
        · rw [if_neg h2, if_neg h2]
end Go.Proofs.YtgbonpmakahibaaDoor
