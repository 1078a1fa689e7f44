/- Contract: Of. -/
import Derived.Test.YtkmchnggcjmchaaDoorBtF
namespace Go.Proofs.YtkmchnggcjmchaaDoor.Bz
open Go.RowKit Go.PlainAid
set_option linter.unusedVariables false
set_option linter.unusedSimpArgs false
set_option maxHeartbeats 2000000

def zg (zs : List Int) (k : Nat) : Int := zs.getD k 0
/-- The slice (a, n, cap) holds the numbers zs. -/
def Iw (w : World) (a : Option Addr) (n cap : Nat) (zs : List Int) : Prop :=
  zs.length = n ∧ n ≤ cap ∧ cap ≤ 9223372036854775807 ∧ (a = none ∧ n = 0 ∧ cap = 0 ∨ ∃ b o, a = some ⟨b, o, none⟩ ∧ b < w.heap.size ∧ ∀ j, j < n → w.cell? ⟨b, o + j, none⟩ = some (.int .i64 (zg zs j)))
theorem Iw.below {w w' : World} {a : Option Addr} {n cap : Nat} {zs : List Int} (h : Iw w a n cap zs) (hb : Below w.heap.size w w') : Iw w' a n cap zs := by
  obtain ⟨h1, h2, h3, h4⟩ := h
  refine ⟨h1, h2, h3, ?_⟩
  rcases h4 with h4 | ⟨b, o, h4, h5, h6⟩
  · exact .inl h4
  · exact .inr ⟨b, o, h4, Nat.lt_of_lt_of_le h5 hb.size, fun j hj => (hb.cell (p := ⟨b, o + j, none⟩) h5).trans (h6 j hj)⟩
def ofL (zs : List Int) : List Nat := (List.range 4096).filter (fun x => decide ((x : Int) ∈ zs))
theorem mem_ofL {zs : List Int} {x : Nat} : x ∈ ofL zs ↔ x < 4096 ∧ (x : Int) ∈ zs := by unfold ofL; simp
theorem asc_ofL (zs : List Int) : Asc (ofL zs) := ⟨(pw_range 4096).filter _, fun x hx => (mem_ofL.1 hx).1⟩
/-- t is the greatest number below 4096 among the first k, or -1. -/
def TopAt (zs : List Int) (k : Nat) (t : Int) : Prop := -1 ≤ t ∧ t ≤ 4095 ∧ ∀ j, j < k → zg zs j ≤ 4095 → zg zs j ≤ t
theorem TopAt.next {zs : List Int} {k : Nat} {t : Int} (h : TopAt zs k t) (hx : zg zs k ≤ 4095) : TopAt zs (k + 1) (max t (zg zs k)) := by
  obtain ⟨h1, h2, h3⟩ := h
  refine ⟨by omega, by omega, fun j hj hz => ?_⟩
  by_cases hjk : j = k
  · subst hjk; omega
  · have := h3 j (by omega) hz; omega
theorem TopAt.skip {zs : List Int} {k : Nat} {t : Int} (h : TopAt zs k t) (hx : ¬ zg zs k ≤ 4095) : TopAt zs (k + 1) t := by
  obtain ⟨h1, h2, h3⟩ := h
  refine ⟨h1, h2, fun j hj hz => ?_⟩
  by_cases hjk : j = k
  · subst hjk; omega
  · exact h3 j (by omega) hz
/-- The words us hold the first k numbers that are between 0 and t. -/
def OfAt (zs : List Int) (t : Int) (k : Nat) (us : List Nat) : Prop := U64 us ∧ ∀ x : Nat, mem us x = true ↔ ∃ j, j < k ∧ zg zs j = (x : Int) ∧ (x : Int) ≤ t
theorem OfAt.zero (zs : List Int) (t : Int) (q : Nat) : OfAt zs t 0 (List.replicate q 0) := by
  refine ⟨fun x hx => by rw [List.eq_of_mem_replicate hx]; omega, fun x => ⟨fun h => ?_, fun ⟨j, hj, _⟩ => by omega⟩⟩
  have : wd (List.replicate q 0) (x / 64) = 0 := by
    unfold wd
    rw [List.getD_eq_getElem?_getD, List.getElem?_replicate]
    split <;> rfl
  unfold mem at h
  rw [this, Nat.zero_testBit] at h; cases h
theorem OfAt.next {zs : List Int} {t : Int} {k m : Nat} {us : List Nat} (h : OfAt zs t k us) (hm : zg zs k = (m : Int)) (ht : (m : Int) ≤ t) (hl : m / 64 < us.length) : OfAt zs t (k + 1) (us.set (m / 64) (wd us (m / 64) ||| 2 ^ (m % 64))) := by
  refine ⟨h.1.set (lor_lt (wd_lt h.1 _) (bit_lt (by omega))), fun x => ?_⟩
  rw [mem_setbit hl, Bool.or_eq_true, h.2 x, decide_eq_true_eq]
  constructor
  · rintro (⟨j, hj, a, b⟩ | rfl)
    · exact ⟨j, by omega, a, b⟩
    · exact ⟨k, by omega, hm, ht⟩
  · rintro ⟨j, hj, a, b⟩
    by_cases hjk : j = k
    · subst hjk
      right; omega
    · exact .inl ⟨j, by omega, a, b⟩
theorem OfAt.skip {zs : List Int} {t : Int} {k : Nat} {us : List Nat} (h : OfAt zs t k us) (hm : zg zs k < 0 ∨ t < zg zs k) : OfAt zs t (k + 1) us := by
  refine ⟨h.1, fun x => ?_⟩
  rw [h.2 x]
  constructor
  · rintro ⟨j, hj, a, b⟩; exact ⟨j, by omega, a, b⟩
  · rintro ⟨j, hj, a, b⟩
    refine ⟨j, ?_, a, b⟩
    by_cases hjk : j = k
    · subst hjk; omega
    · omega
theorem zg_mem {zs : List Int} {x : Int} : x ∈ zs ↔ ∃ j, j < zs.length ∧ zg zs j = x := by
  unfold zg
  constructor
  · intro h
    obtain ⟨j, hj, e⟩ := List.getElem_of_mem h
    exact ⟨j, hj, by rw [List.getD_eq_getElem?_getD, List.getElem?_eq_getElem hj]; exact e⟩
  · rintro ⟨j, hj, e⟩
    rw [List.getD_eq_getElem?_getD, List.getElem?_eq_getElem hj] at e
    rw [← e]; exact List.getElem_mem _
theorem of_none {zs : List Int} {t : Int} (h : TopAt zs zs.length t) (ht : t < 0) : ofL zs = [] := by
  rw [List.eq_nil_iff_forall_not_mem]
  intro x hx
  obtain ⟨h1, h2⟩ := mem_ofL.1 hx
  obtain ⟨j, hj, e⟩ := zg_mem.1 h2
  have := h.2.2 j hj (by omega)
  omega
theorem of_mem {zs : List Int} {t : Int} {us : List Nat} (h : TopAt zs zs.length t) (hu : OfAt zs t zs.length us) (hl : us.length ≤ 64) : U64 us ∧ us.length ≤ 64 ∧ Asc (ofL zs) ∧ ∀ i, i < 4096 → (i ∈ ofL zs ↔ mem us i = true) := by
  refine ⟨hu.1, hl, asc_ofL zs, fun i hi => ?_⟩
  rw [hu.2 i, mem_ofL, zg_mem]
  constructor
  · rintro ⟨_, j, hj, e⟩
    exact ⟨j, hj, e, by rw [← e]; exact h.2.2 j hj (by omega)⟩
  · rintro ⟨j, hj, e, _⟩
    exact ⟨hi, j, hj, e⟩

set_option maxRecDepth 20000 in
theorem of_any (a : Option Addr) (n cap : Nat) (zs : List Int) (w : World) (h : Iw w a n cap zs) (hn : n ≤ 1000000) :
    Calls Tryd.prog 11 #[.slice a n cap] w (SetPost w (ofL zs)) := by
  obtain ⟨i0, hi, hz0, hz1, hz2⟩ := info_parts info64
  obtain ⟨h1, h2, h3, h4⟩ := h
  rcases h4 with ⟨rfl, rfl, rfl⟩ | ⟨b, o, rfl, hb, hc⟩
  · have hnil : zs = [] := List.eq_nil_of_length_eq_zero h1
    subst hnil
    have ho : ofL [] = [] := by decide
    rw [ho]
    clear hi hz0 hz1 hz2 ho h1
    go_enter Tryd.func11, Tryd.ntmps11
    go_wp2_with fail
    go_loop [3, 11] (fun u v => u = .int .i64 (-1) ∧ v = .int .i64 0) (fun _ _ => 0)
    case atStart => exact ⟨rfl, rfl⟩
    case round =>
      obtain ⟨rfl, rfl⟩ := hrel
      go_wp2_with fail
      go_returns
      exact ⟨none, 0, 0, rfl, Bs.nil _, by go_grown⟩
  · have HC := Lib.hid hc
    have HL := Lib.hid h1
    clear hc h1
    go_enter Tryd.func11, Tryd.ntmps11
    go_wp2_with fail
    go_loop [3, 11] (fun u v => ∃ (k : Nat) (t : Int), k ≤ n ∧ v = .int .i64 k ∧ u = .int .i64 t ∧ Hid (TopAt zs k t)) (fun _ v => n - (intOf v).toNat)
    case atStart => exact ⟨0, -1, Nat.zero_le _, rfl, rfl, by omega, by omega, fun j hj => by omega⟩
    case round =>
      obtain ⟨k, t, hk, rfl, rfl, hT⟩ := hrel
      have hT1 : -1 ≤ t := hT.out.1
      have hT2 : t ≤ 4095 := hT.out.2.1
      by_cases hlt : k < n
      · have c1 := HC.out k hlt
        obtain ⟨x, hx⟩ : ∃ x, x = zg zs k := ⟨_, rfl⟩
        rw [← hx] at c1
        have HX := Lib.hid hx
        clear hx
        by_cases hle : x ≤ 4095
        · have HT := Lib.hid (hT.out.next (by rw [← HX.out]; exact hle))
          go_wp2_with fail
          go_round
          case rel => exact ⟨k + 1, max t x, by omega, by go_num, rfl, by have := HT.out; rw [← HX.out] at this; exact this⟩
          case measure => simp [intOf]; omega
        · have HT := Lib.hid (hT.out.skip (by rw [← HX.out]; exact hle))
          go_wp2_with fail
          go_round
          case rel => exact ⟨k + 1, t, by omega, by go_num, rfl, HT.out⟩
          case measure => simp [intOf]; omega
      · have hTn : Hid (TopAt zs zs.length t) := by show TopAt _ _ _; rw [HL.out, show n = k by omega]; exact hT.out
        by_cases ht0 : t < 0
        · have HO := Lib.hid (of_none hTn.out ht0)
          go_wp2_with fail
          go_returns
          rw [HO.out]
          exact ⟨none, 0, 0, rfl, Bs.nil _, by go_grown⟩
        · obtain ⟨q, hq⟩ : ∃ q : Nat, t / 64 + 1 = q := ⟨(t / 64 + 1).toNat, by omega⟩
          have hq64 : q ≤ 64 := by omega
          have hq1 : 1 ≤ q := by omega
          have htq := Lib.hid (show t < 64 * (q : Int) by omega)
          have hbytes : i0.bytes * q ≤ 281474976710656 := by rw [hz2]; omega
          have hqm : q ≤ maxLen := by unfold maxLen; omega
          clear hT
          go_wp2_with (refine wpList_make_full _ rfl (.tmp 26) (.tmp 26) 38 rfl (w.heap.size + 1) 69 i0 (.int .u64 0) 1 Tryd.underlying38 hi hz0 hz1 .i64 .i64 q q q rfl rfl rfl rfl hbytes hqm (by simp) ?_)
          intro w1 hown hgr
          have hrow := Lib.hid (Row.new hown)
          have hbel := Lib.hid ((Below.refl (w.heap.size + 1) _).grown hgr (by simp) (fun b hb => by cases hb))
          clear hown hgr hi hz0 hz1 hz2 hbytes hqm
          generalize hgE : w.heap.size + 1 = g at hrow ⊢
          have HGE := Lib.hid hgE
          clear hgE
          go_wp2_with fail
          go_loopw [30] (fun v wr => ∃ (k : Nat) (us : List Nat), k ≤ n ∧ v = .int .i64 k ∧ Hid (Row wr g g q us) ∧ Hid (OfAt zs t k us) ∧ Hid (Below (w.heap.size + 1) (w.alloc (.cells #[.slice none 0 0] 40)) wr)) (fun v _ => n - (intOf v).toNat)
          case atStart => exact ⟨0, List.replicate q 0, Nat.zero_le _, rfl, hrow.out, OfAt.zero _ _ _, hbel.out⟩
          case round =>
            clear hlt
            obtain ⟨k, us, hk, rfl, HR, HU, HB⟩ := hrel
            have hzr : w.heap.size + 1 ≤ wr.heap.size := by have := HB.out.size; simp at this; omega
            have hBw := Lib.hid (((Below.refl w.heap.size w).alloc (Nat.le_refl _) _).trans (HB.out.mono (by omega)))
            have c0 := (HB.out.cell (p := ⟨w.heap.size, 0, none⟩) (show w.heap.size < w.heap.size + 1 by omega)).trans (new1 w _ _).1
            have f0 := (HB.out.frozen (p := ⟨w.heap.size, 0, none⟩) (show w.heap.size < w.heap.size + 1 by omega)).trans (new1 w _ _).2
            by_cases hlt : k < n
            · have c1 := (hBw.out.cell (p := ⟨b, o + k, none⟩) hb).trans (HC.out k hlt)
              obtain ⟨x, hx⟩ : ∃ x, x = zg zs k := ⟨_, rfl⟩
              rw [← hx] at c1
              have HX := Lib.hid hx
              clear hx
              by_cases hx0 : 0 ≤ x
              · by_cases hxt : x ≤ t
                · obtain ⟨m, hm⟩ : ∃ m : Nat, x = m := ⟨x.toNat, by omega⟩
                  have hmq : m / 64 < q := by have := htq.out; omega
                  have x1 := HR.out.cell hmq
                  have x2 := HR.out.free (m / 64)
                  have e3 : (x / 64).toNat = m / 64 := by omega
                  have j0 : 0 ≤ x / 64 := by omega
                  have j1 : x / 64 < (q : Int) := by omega
                  have j2 : 0 ≤ x % 64 := by omega
                  have j3 : x % 64 < 64 := by omega
                  have hor : bits .or .u64 ((wd us (m / 64) : Nat) : Int) (IntKind.u64.wrap (2 ^ (x % 64).toNat)) = ((wd us (m / 64) ||| 2 ^ (m % 64) : Nat) : Int) := or_bit (wd_lt HU.out.1 _) (by omega) (by omega)
                  have HN := Lib.hid (HU.out.next (by rw [← HX.out]; exact hm) (by omega) (by rw [HR.out.len]; exact hmq))
                  have HM := Lib.hid hm
                  clear hm
                  go_wp2_with fail
                  go_region
                  go_wp2_with fail
                  go_roundw
                  case rel => exact ⟨k + 1, us.set (m / 64) (wd us (m / 64) ||| 2 ^ (m % 64)), by omega, by go_num, (HR.out.set _ _).below (Below.refl _ _).drew, HN.out, (HB.out.setCell (show w.heap.size + 1 ≤ g by rw [HGE.out]; exact Nat.le_refl _) _).drew⟩
                  case measure => simp [intOf]; omega
                · have hd : decide (x ≤ t) = false := decide_eq_false hxt
                  have HN := Lib.hid (HU.out.skip (by rw [← HX.out]; omega))
                  go_wp2_with fail
                  go_roundw
                  case rel => exact ⟨k + 1, us, by omega, by go_num, HR.out, HN.out, HB.out⟩
                  case measure => simp [intOf]; omega
              · have hd : decide (0 ≤ x) = false := decide_eq_false hx0
                have HN := Lib.hid (HU.out.skip (by rw [← HX.out]; omega))
                go_wp2_with fail
                go_roundw
                case rel => exact ⟨k + 1, us, by omega, by go_num, HR.out, HN.out, HB.out⟩
                case measure => simp [intOf]; omega
            · obtain ⟨m1, m2, m3, m4⟩ := of_mem hTn.out (by rw [HL.out, show n = k by omega]; exact HU.out) (by rw [HR.out.len]; exact hq64)
              have hg1 : w.heap.size < wr.heap.size := by omega
              go_wp2_with fail
              refine (row_trim HR.out ⟨m1, m2, m3, m4⟩).mono ?_
              rintro e w2 ⟨a2, n2, d2, rfl, hs2, hb2⟩
              have HS2 := Lib.hid hs2
              have c22 := (hb2.cell (p := ⟨w.heap.size, 0, none⟩) (show w.heap.size < wr.heap.size by omega)).trans c0
              have f22 := (hb2.frozen (p := ⟨w.heap.size, 0, none⟩) (show w.heap.size < wr.heap.size by omega)).trans f0
              clear hs2 m1 m2 m3 m4
              go_wp2_with fail
              have cs := World.cell?_setCell_same w2 ⟨w.heap.size, 0, none⟩ (.slice a2 n2 d2) c22
              refine bodyPost_ret (v := .agg #[.slice a2 n2 d2]) (by simp [results, Tryd.results11, go_sem, cs]) rfl ?_
              exact ⟨a2, n2, d2, rfl, HS2.out.set c22 (by intro x e; cases e), (hBw.out.trans (hb2.mono hBw.out.size)).setCell (show w.heap.size ≤ w.heap.size by omega) _⟩
end Go.Proofs.YtkmchnggcjmchaaDoor.Bz
