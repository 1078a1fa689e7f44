/- Contracts: slices.Clone and slices.Equal of tokens, the law's plain, the reference's Join. -/
import Derived.Test.YtnjaflldlhiefaaTkF
import Derived.Test.YtnjaflldlhiefaaTkK
import Derived.Deep.QuietTactic
import Derived.BigQuiet
import Derived.Lib.SliceRun
namespace Go.Proofs.Ytnjaflldlhiefaa
open Go.RowKit Go.PlainAid
set_option linter.unusedVariables false
set_option maxHeartbeats 1000000

theorem clone_any (v : Value) (n : Nat) (xs : List Value) (w : World) (hv : Sl w v n 4 xs) (h1 : ∀ u ∈ xs, u.oneCell' = true) (hn : n ≤ 1000000) :
    Calls Try.prog 15 #[v] w fun e w' => ∃ v', e = .returned v' ∧ Below w.heap.size w w' ∧ w'.ownsRow w.heap.size 36 4 v' n xs := by
  obtain ⟨i0, hi, hz0, hz1, hz2⟩ := info_parts infoTok
  obtain ⟨hl, a, cap, rfl, hc, hm, h2⟩ := hv
  unfold maxLen at hm
  have hnil := fun (w : World) (a : Option Addr) (n c : Nat) => Lib.run_eql_slice_nil (P := Try.prog) w 24 36 a n c 0 0 Try.underlying24
  cases a with
  | none =>
    have hn0 : n = 0 := by
      rcases h2 with h2 | ⟨b, o, h2, _⟩
      · exact h2
      · cases h2
    subst hn0
    have hx : xs = [] := List.eq_nil_of_length_eq_zero (by simpa using hl)
    subst hx
    go_enter Try.func15, Try.ntmps15
    go_wp2_with fail
    go_ret
    exact ⟨_, rfl, Below.refl _ _, World.ownsRow_nil _ _ _ _⟩
  | some ad =>
    have hcells : Hid (∀ j u, xs[j]? = some u → (w.alloc (.cells #[] 36)).cell? (ad.add j) = some u) := by
      intro j u hu
      rcases h2 with h2 | ⟨b, o, h2, hb, hcell⟩
      · subst h2
        have hx : xs = [] := List.eq_nil_of_length_eq_zero (by simpa using hl)
        subst hx; simp at hu
      · cases h2
        have hj : j < n * 4 := by rw [← hl]; exact (List.getElem?_eq_some_iff.1 hu).1
        have hadd : (⟨b, o, none⟩ : Addr).add j = ⟨b, o + j, none⟩ := by unfold Addr.add; split <;> simp_all
        rw [hadd, World.cell?_alloc_lt _ _ _ hb, hcell j hj, List.getD_eq_getElem?_getD, hu]; rfl
    have hown0 : (w.alloc (.cells #[] 36)).ownsRow w.heap.size 36 4 (.slice (some ⟨w.heap.size, 0, none⟩) 0 0) 0 [] := World.ownsRow_made w #[] 0 (Nat.le_refl _) (by decide) rfl
    have H1 := Lib.hid h1
    have HL := Lib.hid hl
    clear h2 h1 hl
    go_enter Try.func15, Try.ntmps15
    go_wp2_with (at_builtin; refine wpList_append_own _ rfl (.tmp 5) (.tmp 6) 24 rfl w.heap.size 36 i0 (.agg #[.int .u8 0, .string ⟨#[]⟩, .int .i64 0, .int .i64 0]) 4 40 Try.underlying24 hi hz0 hz1 hz2 rfl (by decide) _ _ _ rfl hown0 ad n cap xs rfl HL.out hcells.out H1.out (by unfold maxLen; omega) (by omega) (by simp) ?_)
    intro v' w1 hown' hgrow _
    have hbel : Below w.heap.size w w1 := ((Below.refl _ _).alloc (Nat.le_refl _) _).grown hgrow (by simp) (fun b hb => by cases hb; exact Nat.le_refl _)
    try simp only [Nat.zero_add, List.nil_append] at hown'
    clear hgrow hown0
    go_wp2_with fail
    go_ret
    exact ⟨_, rfl, hbel, hown'⟩

theorem equal_any (va vb : Value) (n m : Nat) (ts us : List Tok) (w : World) (ha : Sl w va n 4 (flatP ts)) (hb : Sl w vb m 4 (flatP us)) (hn : ts.length = n) (hm : us.length = m) :
    Calls Try.prog 19 #[va, vb] w fun e w' => e = .returned (.bool (decide (ts = us))) ∧ Below w.heap.size w w' := by
  obtain ⟨ha1, a, ca, rfl, hac, ham, ha2⟩ := ha
  obtain ⟨hb1, b, cb, rfl, hbc, hbm, hb2⟩ := hb
  unfold maxLen at ham hbm
  by_cases hnm : n = m
  · subst hnm
    by_cases h0 : n = 0
    · subst h0
      have e1 : ts = [] := List.eq_nil_of_length_eq_zero hn
      have e2 : us = [] := List.eq_nil_of_length_eq_zero hm
      have HE : Hid (decide (ts = us) = true) := by rw [e1, e2]; rfl
      clear e1 e2 ha2 hb2 hn hm
      go_enter Try.func19, Try.ntmps19
      go_wp2_with fail
      go_loop [13] (fun v => v = .int .i64 0) (fun _ => 0)
      case atStart => rfl
      case round =>
        obtain rfl := hrel
        go_wp2_with fail
        go_ret
        exact ⟨ret_bool HE.out.symm, Below.refl _ _⟩
    · rcases ha2 with ha2 | ⟨ba, oa, rfl, hba, hca⟩
      · exact absurd ha2 h0
      rcases hb2 with hb2 | ⟨bb, ob, rfl, hbb, hcb⟩
      · exact absurd hb2 h0
      have HA := Lib.hid hca
      have HB := Lib.hid hcb
      clear hca hcb
      go_enter Try.func19, Try.ntmps19
      go_wp2_with fail
      go_loopw [13] (fun v wr => ∃ j : Nat, j ≤ n ∧ v = .int .i64 j ∧ Below w.heap.size w wr ∧ Hid (ts.take j = us.take j)) (fun v _ => n - (intOf v).toNat)
      case atStart => exact ⟨0, by omega, rfl, Below.refl _ _, rfl⟩
      case round =>
        obtain ⟨j, hj, rfl, hbel, htk⟩ := hrel
        by_cases hjn : j < n
        · obtain ⟨t, ht⟩ : ∃ t, ts[j]? = some t := ⟨_, List.getElem?_eq_getElem (by omega)⟩
          obtain ⟨u, hu⟩ : ∃ u, us[j]? = some u := ⟨_, List.getElem?_eq_getElem (by omega)⟩
          have hA : ∀ i, wr.cell? ⟨ba, i, none⟩ = w.cell? ⟨ba, i, none⟩ := fun i => hbel.cell (p := ⟨ba, i, none⟩) hba
          have hB : ∀ i, wr.cell? ⟨bb, i, none⟩ = w.cell? ⟨bb, i, none⟩ := fun i => hbel.cell (p := ⟨bb, i, none⟩) hbb
          obtain ⟨p0, p1, p2, p3⟩ := tokP_cells HA.out j t hjn ht
          obtain ⟨q0, q1, q2, q3⟩ := tokP_cells HB.out j u hjn hu
          rw [← hA] at p0 p1 p2 p3
          rw [← hB] at q0 q1 q2 q3
          have htt := Lib.hid ht
          have huu := Lib.hid hu
          have hj0 : (0 : Int) ≤ (j : Int) := Int.natCast_nonneg _
          have hj1 : (j : Int) < (n : Int) := by omega
          clear hA hB ht hu
          have hsp := tok_split t u
          have hne : t ≠ u → Hid (decide (ts = us) = false) := fun hne => decide_eq_false (fun e => by
            have h1 := htt.out; have h2 := huu.out; rw [e, h2] at h1; exact hne (Option.some.inj h1).symm)
          have hst : t = u → Hid (ts.take (j + 1) = us.take (j + 1)) := fun e => take_step htk.out htt.out huu.out e
          obtain ⟨k, tx, nn, ps⟩ := t
          obtain ⟨k', tx', nn', ps'⟩ := u
          dsimp only at p0 p1 p2 p3 q0 q1 q2 q3 hsp
          rcases hsp with h | h | ⟨rfl, h⟩ | ⟨rfl, rfl, h⟩ | ⟨rfl, rfl, rfl, h⟩
          · have HST := hst h
            injection h with e1 e2 e3 e4
            subst e1 e2 e3 e4
            clear hst hne htt huu
            go_wp2_with fail
            go_quiet (fail)
            go_wp2_with fail
            go_roundw
            case rel => exact ⟨j + 1, by omega, by go_num, below_drewN hbel _, HST.out⟩
            case measure => simp [intOf]; omega
          · have HNE := hne (fun e => by injection e with e1 e2 e3 e4; subst e1; simp at h)
            clear hst hne htt huu
            generalize hsx : (⟨tx.toArray⟩ : ByteArray) = sx at *
            generalize hsy : (⟨tx'.toArray⟩ : ByteArray) = sy at *
            clear hsx hsy
            go_wp2_with fail
            go_quiet (fail)
            go_wp2_with fail
            go_ret
            exact ⟨ret_bool HNE.out.symm, below_drewN hbel _⟩
          · have HNE := hne (fun e => by injection e with e1 e2 e3 e4; subst e2; simp at h)
            clear hst hne htt huu
            generalize hsx : (⟨tx.toArray⟩ : ByteArray) = sx at *
            generalize hsy : (⟨tx'.toArray⟩ : ByteArray) = sy at *
            clear hsx hsy
            go_wp2_with fail
            go_quiet (fail)
            go_wp2_with fail
            go_ret
            exact ⟨ret_bool HNE.out.symm, below_drewN hbel _⟩
          · have HNE := hne (fun e => by injection e with e1 e2 e3 e4; subst e3; simp at h)
            clear hst hne htt huu
            go_wp2_with fail
            go_quiet (fail)
            go_wp2_with fail
            go_ret
            exact ⟨ret_bool HNE.out.symm, below_drewN hbel _⟩
          · have HNE := hne (fun e => by injection e with e1 e2 e3 e4; subst e4; simp at h)
            clear hst hne htt huu
            go_wp2_with fail
            go_quiet (fail)
            go_wp2_with fail
            go_ret
            exact ⟨ret_bool HNE.out.symm, below_drewN hbel _⟩
        · obtain rfl : j = n := by omega
          have HE : Hid (decide (ts = us) = true) := decide_eq_true (by have := htk.out; rwa [List.take_of_length_le (by omega), List.take_of_length_le (by omega)] at this)
          go_wp2_with fail
          go_ret
          exact ⟨ret_bool HE.out.symm, hbel⟩
  · have HNE : Hid (decide (ts = us) = false) := decide_eq_false (fun e => hnm (by rw [← hn, ← hm, e]))
    have hnm2 : ((n : Int) == m) = false := by simp; omega
    have hnm3 : ((n : Int) != m) = true := by simp; omega
    clear ha2 hb2 hn hm hnm
    go_enter Try.func19, Try.ntmps19
    go_wp2_with fail
    go_ret
    exact ⟨ret_bool HNE.out.symm, Below.refl _ _⟩

end Go.Proofs.Ytnjaflldlhiefaa
