/- Contracts of the reference: Compare, Digits, Text. -/
import Derived.Test.YtaekkpoknpnnbaaDoorBtX
namespace Go.Proofs.YtaekkpoknpnnbaaDoor
open Go.RowKit Go.PlainAid
set_option linter.unusedVariables false
set_option linter.unusedSimpArgs false
set_option maxHeartbeats 2000000

theorem wd_cons_succ (x : Nat) (l : List Nat) (k : Nat) : wd (x :: l) (k + 1) = wd l k := rfl
theorem cmpL_drop : ∀ (k : Nat) (l r : List Nat), k ≤ l.length → k ≤ r.length → (∀ j, j < k → wd l j = wd r j) → cmpL l r = cmpL (l.drop k) (r.drop k)
  | 0, l, r, _, _, _ => rfl
  | k + 1, [], r, h, _, _ => by simp at h
  | k + 1, _ :: _, [], _, h, _ => by simp at h
  | k + 1, x :: l, y :: r, h1, h2, h => by
    have h0 : x = y := h 0 (by omega)
    subst h0
    rw [List.drop_succ_cons, List.drop_succ_cons, ← cmpL_drop k l r (by simpa using h1) (by simpa using h2) (fun j hj => h (j + 1) (by omega))]
    show cmpL (x :: l) (x :: r) = _
    rw [cmpL, if_neg (Nat.lt_irrefl _), if_neg (Nat.lt_irrefl _)]
theorem cmpL_at {k : Nat} {l r : List Nat} (hl : k < l.length) (hr : k < r.length) (h : ∀ j, j < k → wd l j = wd r j) : cmpL l r = if wd l k < wd r k then -1 else if wd r k < wd l k then 1 else cmpL (l.drop (k + 1)) (r.drop (k + 1)) := by
  rw [cmpL_drop k l r (by omega) (by omega) h, List.drop_eq_getElem_cons hl, List.drop_eq_getElem_cons hr, cmpL, wd_get hl, wd_get hr]
theorem cmpL_end1 {k : Nat} {l r : List Nat} (hl : k = l.length) (hr : k < r.length) (h : ∀ j, j < k → wd l j = wd r j) : cmpL l r = -1 := by
  rw [cmpL_drop k l r (by omega) (by omega) h, show List.drop k l = [] by rw [hl, List.drop_length], List.drop_eq_getElem_cons hr]; rfl
theorem cmpL_end2 {k : Nat} {l r : List Nat} (hl : k < l.length) (hr : k = r.length) (h : ∀ j, j < k → wd l j = wd r j) : cmpL l r = 1 := by
  rw [cmpL_drop k l r (by omega) (by omega) h, show List.drop k r = [] by rw [hr, List.drop_length], List.drop_eq_getElem_cons hl]; rfl
theorem cmpL_end3 {k : Nat} {l r : List Nat} (hl : k = l.length) (hr : k = r.length) (h : ∀ j, j < k → wd l j = wd r j) : cmpL l r = 0 := by
  rw [cmpL_drop k l r (by omega) (by omega) h]
  rw [show l.drop k = [] by rw [hl, List.drop_length], show r.drop k = [] by rw [hr, List.drop_length]]; rfl

theorem rcompare_any (a b : Option Addr) (n m c d : Nat) (l r : List Nat) (w : World) (h : Iw w a n c (cs l)) (k : Iw w b m d (cs r)) :
    Calls Tryd.prog 33 #[.slice a n c, .slice b m d] w fun e w' => e = .returned (.int .i64 (cmpL l r)) ∧ Below w.heap.size w w' := by
  have HI := Lib.hid h
  have HJ := Lib.hid k
  have hln : l.length = n := by rw [← cs_length]; exact h.1
  have hrm : r.length = m := by rw [← cs_length]; exact k.1
  have HN := Lib.hid hln
  have HM := Lib.hid hrm
  have h2 := h.2.1
  have h3 := h.2.2.1
  have k2 := k.2.1
  have k3 := k.2.2.1
  clear h k hln hrm
  go_enter Tryd.func33, Tryd.ntmps33
  go_wp2_with fail
  go_loopw [5] (fun v wr => ∃ (k q : Nat), k ≤ n ∧ k ≤ m ∧ v = .int .i64 k ∧ wr = w.drewN q ∧ Hid (∀ j, j < k → wd l j = wd r j)) (fun v _ => n - (intOf v).toNat)
  case atStart => exact ⟨0, 0, Nat.zero_le _, Nat.zero_le _, rfl, rfl, fun j hj => absurd hj (Nat.not_lt_zero _)⟩
  case round =>
    obtain ⟨k, q, hk, hk2, rfl, rfl, HE⟩ := hrel
    by_cases hlt : k < n
    · by_cases hlm : k < m
      · obtain ⟨b1, o1, rfl, hb1, hc1⟩ := HI.out.at hlt
        obtain ⟨b2, o2, rfl, hb2, hc2⟩ := HJ.out.at hlm
        rw [zg_cs] at hc1 hc2
        have HC := Lib.hid (cmpL_at (k := k) (l := l) (r := r) (by rw [HN.out]; exact hlt) (by rw [HM.out]; exact hlm) HE.out)
        by_cases h1 : wd l k < wd r k
        · have HV : Hid (cmpL l r = -1) := by show _ = _; rw [HC.out, if_pos h1]
          generalize wd l k = x at hc1 h1
          generalize wd r k = y at hc2 h1
          have h1' : (x : Int) < (y : Int) := by omega
          go_wp2_with fail
          go_region
          go_wp2_with fail
          go_ret
          exact ⟨ret_int HV.out.symm, bdr (Below.refl _ _) (q + 1)⟩
        · by_cases h4 : wd r k < wd l k
          · have HV : Hid (cmpL l r = 1) := by show _ = _; rw [HC.out, if_neg h1, if_pos h4]
            generalize wd l k = x at hc1 h1 h4
            generalize wd r k = y at hc2 h1 h4
            have h1' : ¬ (x : Int) < (y : Int) := by omega
            have h4' : (y : Int) < (x : Int) := by omega
            go_wp2_with fail
            go_region
            go_wp2_with fail
            go_region
            go_wp2_with fail
            go_ret
            exact ⟨ret_int HV.out.symm, bdr (Below.refl _ _) (q + 2)⟩
          · have HXY : Hid (wd l k = wd r k) := by show _ = _; omega
            rw [HXY.out] at hc1
            clear h1 h4
            generalize wd r k = y at hc1 hc2
            have h4' : ¬ (y : Int) < (y : Int) := by omega
            go_wp2_with fail
            go_region
            go_wp2_with fail
            go_region
            go_wp2_with fail
            go_roundw
            case rel => exact ⟨k + 1, q + 2, by omega, by omega, by go_num, rfl, fun j hj => by
              by_cases e : j = k
              · subst e; exact HXY.out
              · exact HE.out j (by omega)⟩
            case measure => simp [intOf]; omega
      · have HV : Hid (cmpL l r = 1) := cmpL_end2 (k := k) (by rw [HN.out]; exact hlt) (by rw [HM.out]; omega) HE.out
        have hkm : ¬ (k : Int) < (m : Int) := by omega
        have hnm : (m : Int) < (n : Int) := by omega
        have hnm2 : ¬ (n : Int) < (m : Int) := by omega
        go_wp2_with fail
        all_goals first | (exfalso; omega) | skip
        all_goals
          go_ret
          exact ⟨ret_int HV.out.symm, bdr (Below.refl _ _) q⟩
    · have hkn : ¬ (k : Int) < (n : Int) := by omega
      by_cases hlm : n < m
      · have HV : Hid (cmpL l r = -1) := cmpL_end1 (k := k) (by rw [HN.out]; omega) (by rw [HM.out]; omega) HE.out
        have hnm : (n : Int) < (m : Int) := by omega
        go_wp2_with fail
        all_goals first | (exfalso; omega) | skip
        all_goals
          go_ret
          exact ⟨ret_int HV.out.symm, bdr (Below.refl _ _) q⟩
      · have HV : Hid (cmpL l r = 0) := cmpL_end3 (k := k) (by rw [HN.out]; omega) (by rw [HM.out]; omega) HE.out
        have hnm : ¬ (n : Int) < (m : Int) := by omega
        have hnm2 : ¬ (m : Int) < (n : Int) := by omega
        go_wp2_with fail
        all_goals first | (exfalso; omega) | skip
        all_goals
          go_ret
          exact ⟨ret_int HV.out.symm, bdr (Below.refl _ _) q⟩

theorem ret_string {a b : ByteArray} (h : a = b) : Ending.returned (.string a) = .returned (.string b) := by rw [h]
theorem digit_ext (m : Nat) (h : m < 10) (t : ByteArray) (ht : t.data.toList = (List.range 10).map (fun j => UInt8.ofNat (48 + j))) : t.extract m (m + 1) = ⟨(Lib.decDigits m).toArray⟩ := by
  apply str_eq
  rw [ext_list, Lib.decDigits_one h, ht]
  rcases (show m = 0 ∨ m = 1 ∨ m = 2 ∨ m = 3 ∨ m = 4 ∨ m = 5 ∨ m = 6 ∨ m = 7 ∨ m = 8 ∨ m = 9 by omega) with rfl | rfl | rfl | rfl | rfl | rfl | rfl | rfl | rfl | rfl <;> rfl
theorem ba_append (a b : List UInt8) : (⟨a.toArray⟩ : ByteArray) ++ (⟨b.toArray⟩ : ByteArray) = ⟨(a ++ b).toArray⟩ := by
  apply ByteArray.ext
  simp [ByteArray.data_append]
theorem size_mk (l : List UInt8) : (⟨l.toArray⟩ : ByteArray).size = l.length := by simp [ByteArray.size]
theorem dec_split {n : Nat} (h : ¬ n < 10) : Lib.decDigits (n / 10) ++ Lib.decDigits (n % 10) = Lib.decDigits n := by
  rw [Lib.decDigits_one (i := n % 10) (by omega)]
  conv => rhs; rw [Lib.decDigits]
  rw [dif_neg h]
theorem digits_any (n : Nat) : ∀ (i : Int) (w : World), i = n → n < 4096 →
    Calls Tryd.prog 56 #[.int .i64 i] w fun e w' => e = .returned (.string ⟨(Lib.decDigits n).toArray⟩) ∧ w' = w := by
  induction n using Nat.strongRecOn with
  | _ n ih =>
    intro i w hi hn
    subst hi
    by_cases h : n < 10
    · have HE := Lib.hid (digit_ext n h)
      go_enter Tryd.func56, Tryd.ntmps56
      go_wp2_with fail
      go_ret
      refine ⟨?_, rfl⟩
      show Ending.returned (.string _) = _
      exact ret_string (HE.out _ (by kernel_rfl))
    · have h1 := dec_small (n / 10) (by omega)
      have h2 := dec_small (n % 10) (by omega)
      have HS : Hid ((⟨(Lib.decDigits (n / 10)).toArray⟩ : ByteArray) ++ (⟨(Lib.decDigits (n % 10)).toArray⟩ : ByteArray) = ⟨(Lib.decDigits n).toArray⟩) := by show _ = _; rw [ba_append, dec_split h]
      have I1 := Lib.hid (ih (n / 10) (by omega) ((n : Int) / 10) w (by omega) (by omega))
      have I2 := Lib.hid (ih (n % 10) (by omega) ((n : Int) % 10) w (by omega) (by omega))
      clear ih
      have h1s : (⟨(Lib.decDigits (n / 10)).toArray⟩ : ByteArray).size ≤ 4 := by rw [size_mk]; exact h1.2
      have h2s : (⟨(Lib.decDigits (n % 10)).toArray⟩ : ByteArray).size ≤ 4 := by rw [size_mk]; exact h2.2
      clear h1 h2
      generalize (⟨(Lib.decDigits n).toArray⟩ : ByteArray) = d at HS ⊢
      generalize (⟨(Lib.decDigits (n / 10)).toArray⟩ : ByteArray) = d1 at HS I1 h1s
      generalize (⟨(Lib.decDigits (n % 10)).toArray⟩ : ByteArray) = d2 at HS I2 h2s
      have hsum : d1.size + d2.size ≤ 140737488355328 := by omega
      go_enter Tryd.func56, Tryd.ntmps56
      go_wp2_with (first
        | (go_at_call 56; (with_reducible refine I1.out.mono ?_); rintro e w2 ⟨rfl, hw⟩; rw [hw]; clear hw)
        | (go_at_call 56; (with_reducible refine I2.out.mono ?_); rintro e w2 ⟨rfl, hw⟩; rw [hw]; clear hw))
      go_ret
      exact ⟨ret_string HS.out, rfl⟩

theorem headB_nil : headB [] = [123] := rfl
theorem rtext_any (a : Option Addr) (n cap : Nat) (l : List Nat) (w : World) (h : Iw w a n cap (cs l)) (hl : ∀ x ∈ l, x < 4096) (hn4 : l.length ≤ 4096) :
    Calls Tryd.prog 25 #[.slice a n cap] w fun e w' => e = .returned (.string ⟨(textB l).toArray⟩) ∧ Below w.heap.size w w' := by
  have HI := Lib.hid h
  have hn : l.length = n := by rw [← cs_length]; exact h.1
  have HN := Lib.hid hn
  have hn2 : n ≤ 4096 := by omega
  have h2 := h.2.1
  have h3 := h.2.2.1
  have HX := Lib.hid hl
  have HLen : Hid (∀ k, k ≤ n → (headB (l.take k)).length ≤ 1 + 5 * k) := fun k hk => by
    have := (headB_length (l.take k) (fun x hx => hl x (List.mem_of_mem_take hx))).1
    rw [List.length_take] at this
    omega
  clear h hn hl
  go_enter Tryd.func25, Tryd.ntmps25
  go_wp2_with fail
  go_loop [3, 8] (fun v3 v8 => ∃ (k : Nat) (s : ByteArray), k ≤ n ∧ v8 = .int .i64 k ∧ v3 = .string s ∧ Hid (s = ⟨(headB (l.take k)).toArray⟩)) (fun _ v => n - (intOf v).toNat)
  case atStart => exact ⟨0, _, Nat.zero_le _, rfl, rfl, rfl⟩
  case round =>
    obtain ⟨k, s, hk, rfl, rfl, HS⟩ := hrel
    have hsz : s.size ≤ 1 + 5 * k := by rw [HS.out, size_mk]; exact HLen.out k hk
    by_cases hlt : k < n
    · obtain ⟨b, o, rfl, hb, hc⟩ := HI.out.at hlt
      rw [zg_cs] at hc
      have hlk : k < l.length := by rw [HN.out]; exact hlt
      have hx4 : wd l k < 4096 := by rw [wd_get hlk]; exact HX.out _ (List.getElem_mem _)
      have HT := Lib.hid (take_wd hlk)
      have hdl := (dec_small (wd l k) hx4).2
      have hds : (⟨(Lib.decDigits (wd l k)).toArray⟩ : ByteArray).size ≤ 4 := by rw [size_mk]; exact hdl
      have HD := Lib.hid (fun w' => digits_any (wd l k) ((wd l k : Nat) : Int) w' rfl hx4)
      obtain ⟨d, hd⟩ : ∃ d, d = (⟨(Lib.decDigits (wd l k)).toArray⟩ : ByteArray) := ⟨_, rfl⟩
      rw [← hd] at hds
      have HDD := Lib.hid hd
      have HD2 : Hid (∀ w', Calls Tryd.prog 56 #[.int .i64 ((wd l k : Nat) : Int)] w' fun e w'_1 => e = .returned (.string d) ∧ w'_1 = w') := by rw [hd]; exact HD.out
      clear hd HD hdl hlk
      by_cases hk0 : k = 0
      · have HR : Hid (s ++ d = ⟨(headB (l.take (k + 1))).toArray⟩) := by
          show _ = _
          rw [HT.out, HS.out, HDD.out, hk0, List.take_zero, List.nil_append, headB_first, ba_append]; rfl
        have hk1 : ¬ (0 : Int) < (k : Int) := by omega
        have hsum : s.size + d.size ≤ 140737488355328 := by omega
        clear hk0
        generalize wd l k = x at hc hx4 HD2
        go_wp2_with (go_at_call 56; refine (HD2.out _).mono ?_; rintro e w2 ⟨rfl, hw⟩; rw [hw]; clear hw)
        go_round
        case rel => exact ⟨k + 1, _, by omega, by go_num, rfl, HR.out⟩
        case measure => simp [intOf]; omega
      · have HR : Hid (s ++ ⟨#[32]⟩ ++ d = ⟨(headB (l.take (k + 1))).toArray⟩) := by
          show _ = _
          rw [HT.out, HS.out, HDD.out, headB_snoc _ _ (by intro e; have := congrArg List.length e; rw [List.length_take, HN.out] at this; simp at this; omega), ← ba_append, ← ba_append]
        have hk1 : (0 : Int) < (k : Int) := by omega
        have hsum : s.size + 1 + d.size ≤ 140737488355328 := by omega
        clear hk0
        generalize wd l k = x at hc hx4 HD2
        go_wp2_with (go_at_call 56; refine (HD2.out _).mono ?_; rintro e w2 ⟨rfl, hw⟩; rw [hw]; clear hw)
        go_round
        case rel => exact ⟨k + 1, _, by omega, by go_num, rfl, HR.out⟩
        case measure => simp [intOf]; omega
    · have HR : Hid (s ++ ⟨#[125]⟩ = ⟨(textB l).toArray⟩) := by
        show _ = _
        rw [HS.out, List.take_of_length_le (by rw [HN.out]; omega)]
        unfold textB
        rw [← ba_append]
      go_wp2_with fail
      go_returns
      exact ⟨ret_string HR.out, Below.refl _ _⟩
end Go.Proofs.YtaekkpoknpnnbaaDoor
