/- Contract: Compare (the walk). -/
import Derived.Test.YtaekkpoknpnnbaaDoorBtN
namespace Go.Proofs.YtaekkpoknpnnbaaDoor
open Go.RowKit Go.PlainAid
set_option linter.unusedVariables false
set_option linter.unusedSimpArgs false
set_option maxHeartbeats 4000000

theorem xor_lt {x y : Nat} (hx : x < 18446744073709551616) (hy : y < 18446744073709551616) : x ^^^ y < 18446744073709551616 := Nat.xor_lt_two_pow (n := 64) hx hy
theorem hasB_nat (l : List Nat) (i : Nat) : hasB l (i : Int) = decide (i ∈ l) := by unfold hasB; simp

set_option maxRecDepth 20000 in
theorem compare_any (a b : Option Addr) (n m cap dap : Nat) (l r : List Nat) (w : World) (h : Bs w a n cap l) (k : Bs w b m dap r) (hT : Tz w) :
    Calls Tryd.prog 32 #[.agg #[.slice a n cap], .agg #[.slice b m dap]] w fun e w' => e = .returned (.int .i64 (cmpL l r)) ∧ Below w.heap.size w w' := by
  have hH1 := Lib.hid (fun (i : Int) w' (hb : Below w.heap.size w w') => has_any a n cap l i w' (h.below hb))
  have hH2 := Lib.hid (fun (i : Int) w' (hb : Below w.heap.size w w') => has_any b m dap r i w' (k.below hb))
  have hY1 := Lib.hid (fun (i : Int) w' (hb : Below w.heap.size w w') => beyond_any a n cap l i w' (h.below hb))
  have hY2 := Lib.hid (fun (i : Int) w' (hb : Below w.heap.size w w') => beyond_any b m dap r i w' (k.below hb))
  obtain ⟨ws, hw, hr⟩ := h
  obtain ⟨vs, kw, kr⟩ := k
  have hn64 : n ≤ 64 := by have := hr.2.2.1; rw [hw.1] at this; exact this
  have hm64 : m ≤ 64 := by have := kr.2.2.1; rw [kw.1] at this; exact this
  have hncap : n ≤ cap := hw.2.1
  have hmcap : m ≤ dap := kw.2.1
  obtain ⟨q, hq⟩ : ∃ q : Nat, max (n : Int) (m : Int) = q := ⟨max n m, by omega⟩
  have hq64 : q ≤ 64 := by omega
  have hW1 := Lib.hid (fun (k : Nat) w' (hk : k ≤ 4096) (hb : Below w.heap.size w w') => word_any a n cap k ws w' (hw.below hb) hk)
  have hW2 := Lib.hid (fun (k : Nat) w' (hk : k ≤ 4096) (hb : Below w.heap.size w w') => word_any b m dap k vs w' (kw.below hb) hk)
  have hwl := Lib.hid (fun k => wd_lt hr.1 k)
  have hvl := Lib.hid (fun k => wd_lt kr.1 k)
  have HR := Lib.hid hr
  have KR := Lib.hid kr
  have HTz := Lib.hid hT
  have hlens := Lib.hid (show ws.length ≤ q ∧ vs.length ≤ q by rw [hw.1, kw.1]; omega)
  clear hw hr kw kr hT
  go_enter Tryd.func32, Tryd.ntmps32
  go_wp2_with fail
  go_loopw [15] (fun v wr => ∃ k : Nat, k ≤ q ∧ v = .int .i64 (k : Nat) ∧ Hid (∀ j, j < k → wd ws j = wd vs j) ∧ Below (w.heap.size + 2) ((w.alloc (.cells #[.slice a n cap] 27)).alloc (.cells #[.slice b m dap] 27)) wr) (fun v _ => q - (intOf v).toNat)
  case atStart => exact ⟨0, Nat.zero_le _, rfl, fun j hj => by omega, Below.refl _ _⟩
  case round =>
    obtain ⟨k, hk, rfl, hpre, hB⟩ := hrel
    obtain ⟨c0, c1, -, hz, hBw⟩ := box2 hB
    have HB := Lib.hid hB
    clear hB
    have hS := Lib.hid (fun w' (hb : Below wr.heap.size wr w') => (⟨(hb.cell (p := ⟨w.heap.size, 0, none⟩) (show w.heap.size < wr.heap.size by omega)).trans c0, (hb.cell (p := ⟨w.heap.size + 1, 0, none⟩) (show w.heap.size + 1 < wr.heap.size by omega)).trans c1⟩ :
      w'.cell? ⟨w.heap.size, 0, none⟩ = some (.slice a n cap) ∧ w'.cell? ⟨w.heap.size + 1, 0, none⟩ = some (.slice b m dap)))
    by_cases hlt : k < q
    · have hxor : bits .xor .u64 ((wd ws k : Nat) : Int) ((wd vs k : Nat) : Int) = ((wd ws k ^^^ wd vs k : Nat) : Int) := u64_xor_nat _ _ (hwl.out k) (hvl.out k)
      have hxl := xor_lt (hwl.out k) (hvl.out k)
      have hE : wd ws k ^^^ wd vs k = 0 → wd ws k = wd vs k := fun e => Nat.eq_of_testBit_eq fun i => by have := congrArg (·.testBit i) e; simpa [Nat.testBit_xor] using this
      have HE := Lib.hid hE
      have HDF := Lib.hid (fun hne => differ_at HR.out KR.out hpre.out hne hxl)
      clear hE
      generalize wd ws k ^^^ wd vs k = x at hxor hxl HE HDF
      go_wp2_with fail
      go_region_held3 (fun w' => w'.cell? ⟨w.heap.size, 0, none⟩ = some (.slice a n cap) ∧ w'.cell? ⟨w.heap.size + 1, 0, none⟩ = some (.slice b m dap))
        (first | exact hS.out _ (Below.refl _ _).drew | exact hS.out _ hb2 | exact hS.out _ hb3)
        (first | (go_at_call 62; (with_reducible refine (hW1.out k _ (by omega) hBw.drew).mono ?_); rintro e w2 ⟨rfl, hb2⟩; replace hb2 := (Below.refl wr.heap.size wr).drew.trans (hb2.mono (by simp))) | (go_at_call 62; (with_reducible refine (hW2.out k _ (by omega) (hBw.trans (hb2.mono hBw.size))).mono ?_); rintro e w3 ⟨rfl, hb3⟩; replace hb3 := hb2.trans (hb3.mono hb2.size)))
      all_goals
        by_cases hx : x = 0
        · have HQ := Lib.hid (HE.out hx)
          subst hx
          go_wp2_with fail
          go_roundw
          case rel => exact ⟨k + 1, by omega, by go_num, fun j hj => by
            by_cases hjk : j = k
            · rw [hjk]; exact HQ.out
            · exact hpre.out j (by omega), HB.out.trans (hb3.mono hz)⟩
          case measure => simp [intOf]; omega
        · have hx1 : ((x : Int) == 0) = false := beq_eq_false_iff_ne.2 (by omega)
          obtain ⟨hc64, hlow, hone⟩ := HDF.out hx
          have hbw3 := hBw.trans (hb3.mono hBw.size)
          have htz := Lib.hid (tz_any x hx hxl w3 (HTz.out.below hbw3))
          have hbx : Hid (∀ L : List Nat, hasB L (64 * (k : Int) + (Lib.ctz 64 x : Int)) = decide (64 * k + Lib.ctz 64 x ∈ L)) := by
            intro L
            have e : (64 * (k : Int) + (Lib.ctz 64 x : Int)) = ((64 * k + Lib.ctz 64 x : Nat) : Int) := by omega
            rw [e]; exact hasB_nat L _
          have hyx : Hid (∀ L : List Nat, L.Pairwise (· < ·) → (!L.isEmpty && decide (64 * (k : Int) + (Lib.ctz 64 x : Int) < (L.getLastD 0 : Nat))) = decide (∃ y ∈ L, 64 * k + Lib.ctz 64 x < y)) := by
            intro L hL
            have e : (64 * (k : Int) + (Lib.ctz 64 x : Int)) = ((64 * k + Lib.ctz 64 x : Nat) : Int) := by omega
            rw [e]; exact beyond_iff hL _
          have A1 := Lib.hid (fun w' hb => hH1.out (64 * (k : Int) + (Lib.ctz 64 x : Int)) w' hb)
          have A2 := Lib.hid (fun w' hb => hH2.out (64 * (k : Int) + (Lib.ctz 64 x : Int)) w' hb)
          have Y1 := Lib.hid (fun w' hb => hY1.out (64 * (k : Int) + (Lib.ctz 64 x : Int)) w' hb)
          have Y2 := Lib.hid (fun w' hb => hY2.out (64 * (k : Int) + (Lib.ctz 64 x : Int)) w' hb)
          simp only [hbx.out] at A1 A2
          simp only [hyx.out l HR.out.asc.1] at Y1
          simp only [hyx.out r KR.out.asc.1] at Y2
          have HF : Hid (cmpL l r = if decide (64 * k + Lib.ctz 64 x ∈ l) = true then (if decide (∃ y ∈ r, 64 * k + Lib.ctz 64 x < y) = true then -1 else 1) else (if decide (∃ y ∈ l, 64 * k + Lib.ctz 64 x < y) = true then 1 else -1)) := by
            show _ = _
            by_cases him : 64 * k + Lib.ctz 64 x ∈ l
            · rw [if_pos (decide_eq_true him), cmp_at HR.out.asc.1 KR.out.asc.1 hlow him (hone.1 him)]
              simp only [decide_eq_true_eq]
            · have hir : 64 * k + Lib.ctz 64 x ∈ r := by
                by_cases hh : 64 * k + Lib.ctz 64 x ∈ r
                · exact hh
                · exact absurd (hone.2 hh) him
              rw [if_neg (by simpa using him), cmpL_neg r l, cmp_at KR.out.asc.1 HR.out.asc.1 (fun j hj => (hlow j hj).symm) hir him]
              simp only [decide_eq_true_eq]
              split <;> rfl
          have HB2 : Hid (decide (64 * k + Lib.ctz 64 x ∈ r) = !decide (64 * k + Lib.ctz 64 x ∈ l)) := by
            show _ = _
            rw [Bool.eq_iff_iff]; simp only [decide_eq_true_eq, Bool.not_eq_true', decide_eq_false_iff_not]
            constructor
            · intro a b; exact hone.1 b a
            · intro a
              by_cases hh : 64 * k + Lib.ctz 64 x ∈ r
              · exact hh
              · exact absurd (hone.2 hh) a
          rw [HB2.out] at A2
          clear hH1 hH2 hY1 hY2 hW1 hW2 hwl hvl hlow hone HB2 hbx hyx HDF HE HR KR hxor hlens
          generalize decide (64 * k + Lib.ctz 64 x ∈ l) = b1 at A1 A2 HF
          generalize decide (∃ y ∈ l, 64 * k + Lib.ctz 64 x < y) = e1 at Y1 HF
          generalize decide (∃ y ∈ r, 64 * k + Lib.ctz 64 x < y) = e2 at Y2 HF
          generalize Lib.ctz 64 x = c at *
          cases b1
          · have HG : Hid (cmpL l r = if e1 = true then 1 else -1) := by show _ = _; rw [HF.out]; rfl
            clear HF Y2
            replace A2 : Hid (∀ w' (hb : Below w.heap.size w w'), Calls Tryd.prog 43 #[.agg #[.slice b m dap], .int .i64 (64 * (k : Int) + (c : Int))] w' fun e w'_1 => e = .returned (.bool true) ∧ Below w'.heap.size w' w'_1) := A2
            go_wp2_with (go_at_call 53; refine htz.out.mono ?_; rintro e w' ⟨rfl, rfl⟩)
            go_region_held3 (fun w' => w'.cell? ⟨w.heap.size, 0, none⟩ = some (.slice a n cap) ∧ w'.cell? ⟨w.heap.size + 1, 0, none⟩ = some (.slice b m dap))
              (first | exact hS.out _ hb3.drew | exact hS.out _ hb4 | exact hS.out _ hb5)
              (first | (go_at_call 43; (with_reducible refine (A1.out _ (hBw.trans ((hb3.drew).mono hBw.size))).mono ?_); rintro e w4 ⟨rfl, hb4⟩; replace hb4 := (hb3.drew).trans (hb4.mono (hb3.drew).size); have qa4 := (hS.out _ hb4).1; have qb4 := (hS.out _ hb4).2) | (go_at_call 43; (with_reducible refine (A2.out _ (hBw.trans (hb4.mono hBw.size))).mono ?_); rintro e w5 ⟨rfl, hb5⟩; replace hb5 := hb4.trans (hb5.mono hb4.size); have qa5 := (hS.out _ hb5).1; have qb5 := (hS.out _ hb5).2))
            all_goals
              have qa5 := (hS.out _ hb5).1
              have qb5 := (hS.out _ hb5).2
              cases e1
              all_goals
                go_wp2_with (first | (go_at_call 43; (with_reducible refine (A1.out _ (hBw.trans (hb5.mono hBw.size))).mono ?_); rintro e w6 ⟨rfl, hb6⟩; replace hb6 := hb5.trans (hb6.mono hb5.size); have qa6 := (hS.out _ hb6).1; have qb6 := (hS.out _ hb6).2) | (go_at_call 43; (with_reducible refine (A2.out _ (hBw.trans (hb6.mono hBw.size))).mono ?_); rintro e w7 ⟨rfl, hb7⟩; replace hb7 := hb6.trans (hb7.mono hb6.size); have qa7 := (hS.out _ hb7).1; have qb7 := (hS.out _ hb7).2) | (go_at_call 63; (with_reducible refine (Y1.out _ (hBw.trans (hb7.mono hBw.size))).mono ?_); rintro e w8 ⟨rfl, hb8⟩; replace hb8 := hb7.trans (hb8.mono hb7.size); have qa8 := (hS.out _ hb8).1; have qb8 := (hS.out _ hb8).2))
                go_returns
                exact ⟨by rw [HG.out]; rfl, hBw.trans (hb8.mono hBw.size)⟩
          · have HG : Hid (cmpL l r = if e2 = true then -1 else 1) := by show _ = _; rw [HF.out]; rfl
            clear HF Y1
            replace A2 : Hid (∀ w' (hb : Below w.heap.size w w'), Calls Tryd.prog 43 #[.agg #[.slice b m dap], .int .i64 (64 * (k : Int) + (c : Int))] w' fun e w'_1 => e = .returned (.bool false) ∧ Below w'.heap.size w' w'_1) := A2
            go_wp2_with (go_at_call 53; refine htz.out.mono ?_; rintro e w' ⟨rfl, rfl⟩)
            go_region_held3 (fun w' => w'.cell? ⟨w.heap.size, 0, none⟩ = some (.slice a n cap) ∧ w'.cell? ⟨w.heap.size + 1, 0, none⟩ = some (.slice b m dap))
              (first | exact hS.out _ hb3.drew | exact hS.out _ hb4 | exact hS.out _ hb5)
              (first | (go_at_call 43; (with_reducible refine (A1.out _ (hBw.trans ((hb3.drew).mono hBw.size))).mono ?_); rintro e w4 ⟨rfl, hb4⟩; replace hb4 := (hb3.drew).trans (hb4.mono (hb3.drew).size); have qa4 := (hS.out _ hb4).1; have qb4 := (hS.out _ hb4).2) | (go_at_call 43; (with_reducible refine (A2.out _ (hBw.trans (hb4.mono hBw.size))).mono ?_); rintro e w5 ⟨rfl, hb5⟩; replace hb5 := hb4.trans (hb5.mono hb4.size); have qa5 := (hS.out _ hb5).1; have qb5 := (hS.out _ hb5).2))
            all_goals
              have qa5 := (hS.out _ hb5).1
              have qb5 := (hS.out _ hb5).2
              cases e2
              · go_wp2_with (first | (go_at_call 43; (with_reducible refine (A1.out _ (hBw.trans (hb5.mono hBw.size))).mono ?_); rintro e w6 ⟨rfl, hb6⟩; replace hb6 := hb5.trans (hb6.mono hb5.size); have qa6 := (hS.out _ hb6).1; have qb6 := (hS.out _ hb6).2) | (go_at_call 63; (with_reducible refine (Y2.out _ (hBw.trans (hb6.mono hBw.size))).mono ?_); rintro e w7 ⟨rfl, hb7⟩; replace hb7 := hb6.trans (hb7.mono hb6.size); have qa7 := (hS.out _ hb7).1; have qb7 := (hS.out _ hb7).2) | (go_at_call 43; (with_reducible refine (A2.out _ (hBw.trans (hb7.mono hBw.size))).mono ?_); rintro e w8 ⟨rfl, hb8⟩; replace hb8 := hb7.trans (hb8.mono hb7.size); have qa8 := (hS.out _ hb8).1; have qb8 := (hS.out _ hb8).2))
                go_returns
                exact ⟨by rw [HG.out]; rfl, hBw.trans (hb8.mono hBw.size)⟩
              · go_wp2_with (first | (go_at_call 43; (with_reducible refine (A1.out _ (hBw.trans (hb5.mono hBw.size))).mono ?_); rintro e w6 ⟨rfl, hb6⟩; replace hb6 := hb5.trans (hb6.mono hb5.size); have qa6 := (hS.out _ hb6).1; have qb6 := (hS.out _ hb6).2) | (go_at_call 63; (with_reducible refine (Y2.out _ (hBw.trans (hb6.mono hBw.size))).mono ?_); rintro e w7 ⟨rfl, hb7⟩; replace hb7 := hb6.trans (hb7.mono hb6.size); have qa7 := (hS.out _ hb7).1; have qb7 := (hS.out _ hb7).2))
                go_returns
                exact ⟨by rw [HG.out]; rfl, hBw.trans (hb7.mono hBw.size)⟩
    · have hkq : k = q := by omega
      have HZ : Hid (cmpL l r = 0) := by
        have : l = r := asc_ext HR.out.asc KR.out.asc fun j => by
          rw [HR.out.mem_iff, KR.out.mem_iff]
          unfold mem
          by_cases hj : j / 64 < k
          · rw [hpre.out _ hj]
          · rw [wd_out (by have := hlens.out.1; omega), wd_out (by have := hlens.out.2; omega)]
        show _ = _
        rw [this, cmpL_self]
      go_wp2_with fail
      go_returns
      exact ⟨by rw [HZ.out]; rfl, hBw⟩
end Go.Proofs.YtaekkpoknpnnbaaDoor
