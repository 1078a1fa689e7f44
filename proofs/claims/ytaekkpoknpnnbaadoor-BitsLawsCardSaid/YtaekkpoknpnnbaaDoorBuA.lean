/- Contract of the reference: Read. -/
import Derived.Test.YtaekkpoknpnnbaaDoorBtZ
namespace Go.Proofs.YtaekkpoknpnnbaaDoor
open Go.RowKit Go.PlainAid
set_option linter.unusedVariables false
set_option linter.unusedSimpArgs false
set_option maxHeartbeats 2000000

def readTo (ps : List Nat) (m : Nat) : List Nat := (List.range m).filter (fun x => (wd ps (x / 8)).testBit (x % 8))
theorem readTo_zero (ps : List Nat) : readTo ps 0 = [] := rfl
theorem readTo_in {ps : List Nat} {k j : Nat} (hj : j < 8) (h : wd ps k / 2 ^ j % 2 = 1) : readTo ps (8 * k + j + 1) = readTo ps (8 * k + j) ++ [8 * k + j] := by
  unfold readTo
  rw [List.range_succ, List.filter_append]
  have e : (wd ps ((8 * k + j) / 8)).testBit ((8 * k + j) % 8) = true := by
    rw [show (8 * k + j) / 8 = k by omega, show (8 * k + j) % 8 = j by omega, Nat.testBit_eq_decide_div_mod_eq]; exact decide_eq_true h
  simp only [List.filter_cons, List.filter_nil, e, if_true]
theorem readTo_out {ps : List Nat} {k j : Nat} (hj : j < 8) (h : ¬ wd ps k / 2 ^ j % 2 = 1) : readTo ps (8 * k + j + 1) = readTo ps (8 * k + j) := by
  unfold readTo
  rw [List.range_succ, List.filter_append]
  have e : (wd ps ((8 * k + j) / 8)).testBit ((8 * k + j) % 8) = false := by
    rw [show (8 * k + j) / 8 = k by omega, show (8 * k + j) % 8 = j by omega, Nat.testBit_eq_decide_div_mod_eq]; exact decide_eq_false h
  simp only [List.filter_cons, List.filter_nil, e, Bool.false_eq_true, if_false, List.append_nil]
theorem readTo_all {ps : List Nat} (h : ps.length ≤ 512) : readTo ps (8 * ps.length) = readL ps := by
  refine pw_ext ((pw_range _).filter _) (asc_readL ps).1 fun x => ?_
  unfold readTo readL
  rw [List.mem_filter, List.mem_filter, List.mem_range, List.mem_range]
  constructor
  · rintro ⟨h1, h2⟩; exact ⟨by omega, h2⟩
  · rintro ⟨h1, h2⟩
    refine ⟨?_, h2⟩
    by_cases hx : x / 8 < ps.length
    · omega
    · rw [wd_out (by omega)] at h2; simp at h2
theorem readTo_len (ps : List Nat) (m : Nat) : (readTo ps m).length ≤ m := by
  unfold readTo
  refine Nat.le_trans (List.length_filter_le _ _) ?_
  rw [List.length_range]; exact Nat.le_refl _
theorem half_pow (z j : Nat) : ((z / 2 ^ j : Nat) : Int) / 2 = ((z / 2 ^ (j + 1) : Nat) : Int) := by
  rw [Nat.pow_succ, ← Nat.div_div_eq_div_mul]; omega

def RReadPost (ps : List Nat) (w : World) (e : Ending) (w' : World) : Prop :=
  ((readOK ps ∧ ∃ v, e = .returned (.tuple #[v, .bool true]) ∧ RowI w' w.heap.size v (readL ps)) ∨
    (¬ readOK ps ∧ e = .returned (.tuple #[.slice none 0 0, .bool false]))) ∧ Below w.heap.size w w'

set_option maxRecDepth 20000 in
theorem rread_any (a : Option Addr) (n cap : Nat) (ps : List Nat) (w : World) (h : Bw w a n cap ps) (hn : n ≤ 1000000) :
    Calls Tryd.prog 31 #[.slice a n cap] w (RReadPost ps w) := by
  obtain ⟨i0, hif, hz0, hz1, hz2⟩ := info_parts info3i
  obtain ⟨h1, h2, h3, h4, h5⟩ := h
  by_cases hn5 : n ≤ 512
  · by_cases hn0 : n = 0
    · have HOK : Hid (readOK ps) := ⟨by rw [h1]; exact hn5, fun h0 => by rw [h1, hn0] at h0; exact absurd h0 (Nat.lt_irrefl 0)⟩
      have HR : Hid (readL ps = []) := by
        have : ps = [] := List.eq_nil_of_length_eq_zero (by omega)
        subst this
        show _ = _
        rw [← readTo_all (by simp)]; rfl
      have hle : n ≤ 0 := by omega
      clear h5 h4 h1 hn0
      go_enter Tryd.func31, Tryd.ntmps31
      go_wp2_with fail
      all_goals first | (exfalso; omega) | skip
      all_goals
        go_loop [4, 28] (fun v4 v28 => v4 = .slice none 0 0 ∧ v28 = .int .i64 0) (fun _ _ => 0)
        case atStart => exact ⟨rfl, rfl⟩
        case round =>
          obtain ⟨rfl, rfl⟩ := hrel
          go_wp2_with fail
          all_goals first | (exfalso; omega) | skip
          all_goals
            go_returns
            refine ⟨.inl ⟨HOK.out, _, rfl, ?_⟩, Below.refl _ _⟩
            rw [HR.out]; exact RowI.nil _ _
    · obtain ⟨b, o, rfl, hb, hc⟩ : ∃ b o, a = some ⟨b, o, none⟩ ∧ b < w.heap.size ∧ ∀ j, j < n → w.cell? ⟨b, o + j, none⟩ = some (.int .u8 (wd ps j : Nat)) := by
        rcases h5 with h0 | h5
        · exact absurd h0 hn0
        · exact h5
      have x0 := hc (n - 1) (by omega)
      by_cases hlast : wd ps (n - 1) = 0
      · rw [hlast] at x0
        have HN : Hid (¬ readOK ps) := by
          rintro ⟨_, hh⟩
          exact hh (by rw [h1]; exact Nat.pos_of_ne_zero hn0) (by rw [h1]; exact hlast)
        clear hc h4 h1
        go_enter Tryd.func31, Tryd.ntmps31
        go_wp2_with fail
        all_goals first | (exfalso; omega) | skip
        all_goals
          go_ret2
          exact ⟨.inr ⟨HN.out, rfl⟩, Below.refl _ _⟩
      · have HOK : Hid (readOK ps) := ⟨by rw [h1]; exact hn5, fun _ => by rw [h1]; exact hlast⟩
        have hne : ((wd ps (n - 1) : Nat) : Int) ≠ 0 := by omega
        have hne2 : (((wd ps (n - 1) : Nat) : Int) == 0) = false := beq_eq_false_iff_ne.2 hne
        have H4 := Lib.hid h4
        have H1 := Lib.hid h1
        have HC := Lib.hid hc
        have HALL : Hid (readTo ps (8 * n) = readL ps) := by show _ = _; rw [← readTo_all (by rw [h1]; exact hn5), h1]
        clear hlast h5 h4 h1 hc hne
        generalize wd ps (n - 1) = lastb at x0 hne2
        go_enter Tryd.func31, Tryd.ntmps31
        go_wp2_with fail
        all_goals first | (exfalso; omega) | skip
        all_goals
          go_loopw [4, 28] (fun v4 v28 wr => ∃ k : Nat, k ≤ n ∧ v28 = .int .i64 k ∧ RowI wr w.heap.size v4 (readTo ps (8 * k)) ∧ Below w.heap.size w wr) (fun _ v _ => n - (intOf v).toNat)
          case atStart => exact ⟨0, Nat.zero_le _, rfl, by rw [Nat.mul_zero, readTo_zero]; exact RowI.nil _ _, Below.refl _ _⟩
          case round =>
            obtain ⟨k, hk, rfl, hrow, hbel⟩ := hrel
            have hzr := hbel.size
            by_cases hlt : k < n
            · have hc := (hbel.cell (p := ⟨b, o + k, none⟩) hb).trans (HC.out k hlt)
              have hb256 : wd ps k < 256 := by rw [wd_get (by rw [H1.out]; exact hlt)]; exact H4.out _ (List.getElem_mem _)
              have HIN := Lib.hid (fun j (hj : j < 8) h => readTo_in (ps := ps) (k := k) hj h)
              have HOUT := Lib.hid (fun j (hj : j < 8) h => readTo_out (ps := ps) (k := k) hj h)
              generalize wd ps k = z at hc hb256 HIN HOUT
              go_wp2_with fail
              go_loopw [4, 7, 8] (fun v4 v7 v8 wq => ∃ j : Nat, j ≤ 8 ∧ v8 = .int .i64 j ∧ v7 = .int .i64 ((z / 2 ^ j : Nat) : Int) ∧ RowI wq w.heap.size v4 (readTo ps (8 * k + j)) ∧ Below w.heap.size w wq) (fun _ _ v _ => 8 - (intOf v).toNat)
              case atStart => exact ⟨0, by omega, rfl, by simp, by simpa using hrow, hbel⟩
              case round =>
                obtain ⟨j, hj, rfl, rfl, hrow1, hbel1⟩ := hrel
                have hz1r := hbel1.size
                by_cases hj8 : j < 8
                · have HQ := Lib.hid (half_pow z j)
                  have hlen := readTo_len ps (8 * k + j)
                  have hzb : z / 2 ^ j ≤ 255 := Nat.le_trans (Nat.div_le_self _ _) (by omega)
                  by_cases hbit : z / 2 ^ j % 2 = 1
                  · have HS := Lib.hid (HIN.out j hj8 hbit)
                    generalize readTo ps (8 * k + j) = out at hrow1 HS hlen
                    generalize z / 2 ^ j = y at hbit HQ hzb
                    have hb1 : ((y : Int) % 2 == 1) = true := beq_iff_eq.2 (by omega)
                    have hcast : (8 * (k : Int) + (j : Int)) = ((8 * k + j : Nat) : Int) := by omega
                    have HCA := Lib.hid hcast
                    clear hcast
                    go_wp2_with (at_builtin; refine wpList_append_own _ rfl _ _ 22 rfl w.heap.size 3 i0 (.int .i64 0) 1 8 Tryd.underlying22 hif hz0 hz1 hz2 rfl (by decide) _ _ _ rfl (hrow1.alloc _) ⟨wr.heap.size, 0, none⟩ 1 1 [.int .i64 (8 * (k : Int) + (j : Int))] rfl rfl (cell_one_new _ _ _) (by simp [Value.oneCell']) (by unfold maxLen; omega) (by omega) (by simp; omega) ?_)
                    intro v' w1 hown' hgrow _
                    rw [HCA.out] at hown'
                    have hbel' := below_push (B := 0) hbel1 hrow1 hgrow
                    clear hgrow hrow1 hbel1
                    go_wp2_with fail
                    go_roundw
                    case rel => exact ⟨j + 1, by omega, by go_num, by rw [← HQ.out], by rw [← Nat.add_assoc, HS.out]; exact rowI_push hown', hbel'⟩
                    case measure => simp [intOf]; omega
                  · have HS := Lib.hid (HOUT.out j hj8 hbit)
                    generalize readTo ps (8 * k + j) = out at hrow1 HS hlen
                    generalize z / 2 ^ j = y at hbit HQ hzb
                    have hb1 : ((y : Int) % 2 == 1) = false := beq_eq_false_iff_ne.2 (by omega)
                    go_wp2_with fail
                    go_roundw
                    case rel => exact ⟨j + 1, by omega, by go_num, by rw [← HQ.out], by rw [← Nat.add_assoc, HS.out]; exact hrow1, hbel1⟩
                    case measure => simp [intOf]; omega
                · have hj8' : j = 8 := by omega
                  have HJ : Hid (8 * k + j = 8 * (k + 1)) := by show _ = _; omega
                  have hj9 : 8 ≤ j := by omega
                  clear hj8'
                  go_wp2_with fail
                  go_roundw
                  case rel => exact ⟨k + 1, by omega, by go_num, by rw [← HJ.out]; exact hrow1, hbel1⟩
                  case measure => simp [intOf]; omega
            · have HK : Hid (readTo ps (8 * k) = readL ps) := by show _ = _; rw [show k = n by omega]; exact HALL.out
              go_wp2_with fail
              go_ret2
              refine ⟨.inl ⟨HOK.out, _, rfl, ?_⟩, hbel⟩
              rw [← HK.out]; exact hrow
  · have HN : Hid (¬ readOK ps) := by rintro ⟨hh, _⟩; omega
    clear h4 h5 h1
    have hbig : (512 : Int) < (n : Int) := by omega
    go_enter Tryd.func31, Tryd.ntmps31
    go_wp2_with fail
    all_goals first | (exfalso; omega) | skip
    all_goals
      go_ret2
      exact ⟨.inr ⟨HN.out, rfl⟩, Below.refl _ _⟩
end Go.Proofs.YtaekkpoknpnnbaaDoor
