/- Contracts of the reference's reader: keyword, Valid, Name, Number. -/
import Derived.Test.YtnjaflldlhiefaaTkY
import Derived.Test.YtnjaflldlhiefaaTkU
namespace Go.Proofs.Ytnjaflldlhiefaa
open Go.RowKit Go.PlainAid
set_option linter.unusedVariables false
set_option linter.unusedSimpArgs false
set_option maxHeartbeats 1000000

theorem rkeywords_any (w : World) :
    Calls Try.prog 81 #[] w fun en w' => ∃ b, en = .returned (.slice (some ⟨b, 0, none⟩) 20 20) ∧ Below w.heap.size w w' ∧ w.heap.size ≤ b ∧ b < w'.heap.size ∧
      ∀ j, j < kwds.length → w'.cell? ⟨b, 0 + j, none⟩ = some (.string (kwds.getD j ByteArray.empty)) := by
  go_enter Try.func81, Try.ntmps81
  go_wp2_with fail
  go_returns
  refine ⟨w.heap.size, rfl, by go_grown, Nat.le_refl _, by simp, fun j hj => ?_⟩
  rw [World.cell?_alloc_at _ _ _ _ rfl]
  rw [Nat.zero_add]
  show (kwds.map Value.string).toArray[j]? = _
  rw [List.getElem?_toArray, List.getElem?_map, List.getD_eq_getElem?_getD, List.getElem?_eq_getElem hj]
  rfl

theorem kw_hit {s : ByteArray} {j : Nat} (hj : j < 20) (h : kwds.getD j ByteArray.empty = s) : kwB s = true := by
  unfold kwB
  rw [Lib.containsS_iff]
  rw [← h, List.getD_eq_getElem?_getD, List.getElem?_eq_getElem (show j < kwds.length from hj)]
  exact List.getElem_mem _
theorem kw_miss {s : ByteArray} (h : ∀ i, i < 20 → kwds.getD i ByteArray.empty ≠ s) : kwB s = false := by
  rw [Bool.eq_false_iff]
  intro hk
  unfold kwB at hk
  rw [Lib.containsS_iff] at hk
  obtain ⟨i, hi, e⟩ := List.mem_iff_getElem.1 hk
  refine h i hi ?_
  rw [List.getD_eq_getElem?_getD, List.getElem?_eq_getElem hi]
  exact e
theorem ba_ne {a b : ByteArray} (h : (a.toList == b.toList) = false) : a ≠ b := fun e => by rw [e] at h; simp at h
theorem ba_eq {a b : ByteArray} (h : (a.toList == b.toList) = true) : a = b := by
  rw [Lib.toList_data, Lib.toList_data] at h
  have := beq_iff_eq.1 h
  cases a; cases b; simp at this; rw [this]

theorem rkeyword_any (s : ByteArray) (w : World) :
    Calls Try.prog 73 #[.string s] w fun en w' => en = .returned (.bool (kwB s)) ∧ Below w.heap.size w w' := by
  go_enter Try.func73, Try.ntmps73
  go_wp2_with (go_at_call 81; refine (rkeywords_any _).mono ?_; rintro en w2 ⟨b, rfl, hb2, hbl, hbr, hcs⟩; replace hcs := Lib.hid hcs)
  go_loop [7] (fun v => ∃ j : Nat, j ≤ 20 ∧ v = .int .i64 j ∧ Hid (∀ i, i < j → kwds.getD i ByteArray.empty ≠ s)) (fun v => 20 - (intOf v).toNat)
  case atStart => exact ⟨0, by omega, rfl, fun i hi => by omega⟩
  case round =>
    obtain ⟨j, hj, rfl, hpre⟩ := hrel
    by_cases hlt : j < 20
    · have hc := hcs.out j hlt
      have hlt2 : (j : Int) < 20 := by omega
      obtain ⟨x, hx⟩ : ∃ x, x = kwds.getD j ByteArray.empty := ⟨_, rfl⟩
      rw [← hx] at hc
      have HX := Lib.hid hx
      clear hx
      rw [Nat.zero_add] at hc
      cases heq : (s.toList == x.toList)
      · go_wp2_with fail
        go_round
        case rel => exact ⟨j + 1, by omega, by go_num, fun i hi => if h : i < j then hpre.out i h else by
            obtain rfl : i = j := by omega
            rw [← HX.out]; exact fun e => ba_ne heq e.symm⟩
        case measure => simp [intOf]; omega
      · go_wp2_with fail
        go_returns
        exact ⟨ret_bool (kw_hit hlt (by rw [← HX.out]; exact (ba_eq heq).symm)).symm, hb2⟩
    · obtain rfl : j = 20 := by omega
      have HK := Lib.hid (kw_miss hpre.out)
      go_wp2_with fail
      go_returns
      exact ⟨ret_bool HK.out.symm, hb2⟩

theorem pre_step {s : ByteArray} {k : Nat} (h : ∀ j, j < k → innB (bt s j) = true ∧ letB (bt s 0) = true) (hs : letB (bt s k) = true ∨ (0 < k ∧ innB (bt s k) = true)) : ∀ j, j < k + 1 → innB (bt s j) = true ∧ letB (bt s 0) = true := fun j hj => by
  have hi : innB (bt s k) = true := by
    rcases hs with hs | hs
    · unfold innB; simp [hs]
    · exact hs.2
  by_cases hjk : j < k
  · exact h j hjk
  · obtain rfl : j = k := by omega
    refine ⟨hi, ?_⟩
    rcases hs with hs | hs
    · by_cases h0 : j = 0
      · rw [h0] at hs; exact hs
      · exact (h 0 (by omega)).2
    · exact (h 0 hs.1).2
theorem valid_no2 {s : ByteArray} {k : Nat} (h : k < s.size) (hl : letB (bt s k) = false) (hk : k = 0 ∨ innB (bt s k) = false) : (letB (bt s 0) && (List.range s.size).all fun j => innB (bt s j)) = false := by
  rcases hk with rfl | hk
  · rw [hl]; rfl
  · exact valid_no1 h hk
theorem vkw {s : ByteArray} (hk : kwB s = true) : validB s = false := by unfold validB; simp [hk]

set_option maxHeartbeats 4000000 in
theorem rvalid_any (s : ByteArray) (w : World) :
    Calls Try.prog 74 #[.string s] w fun en w' => en = .returned (.bool (validB s)) ∧ Below w.heap.size w w' := by
  by_cases h0 : s.size = 0
  · have hz : Hid (validB s = false) := by show _ = _; unfold validB; simp [h0]
    go_enter Try.func74, Try.ntmps74
    go_wp2_with fail
    go_returns
    exact ⟨ret_bool hz.out.symm, by go_grown⟩
  by_cases h12 : 12 < s.size
  · have hz : Hid (validB s = false) := by show _ = _; unfold validB; rw [decide_eq_false (show ¬ s.size ≤ 12 by omega)]; simp
    have h13 : (12 : Int) < s.size := by omega
    have h00 : ((s.size : Int) == 0) = false := beq_eq_false_iff_ne.2 (by omega)
    clear h0 h12
    go_enter Try.func74, Try.ntmps74
    go_wp2_with fail
    go_returns
    exact ⟨ret_bool hz.out.symm, by go_grown⟩
  have h00 : ((s.size : Int) == 0) = false := beq_eq_false_iff_ne.2 (by omega)
  have h1 : 0 < s.size := by omega
  have h2 : s.size ≤ 12 := by omega
  have h3 : ¬ (12 : Int) < s.size := by omega
  have HV := Lib.hid (fun hk => vset (s := s) h1 h2 hk)
  clear h0 h12
  go_enter Try.func74, Try.ntmps74
  go_wp2_with fail
  go_loop [3] (fun v => ∃ k : Nat, k ≤ s.size ∧ v = .int .i64 k ∧ Hid (∀ j, j < k → innB (bt s j) = true ∧ letB (bt s 0) = true)) (fun v => s.size - (intOf v).toNat)
  case atStart => exact ⟨0, by omega, rfl, fun j hj => by omega⟩
  case round =>
    obtain ⟨k, hkk, rfl, hpre⟩ := hrel
    by_cases hlt : k < s.size
    · have hb := get_bt s
      have hbad : letB (bt s k) = false → (k = 0 ∨ innB (bt s k) = false) → validB s = false := fun hl hk => by
        cases hkw : kwB s
        · rw [HV.out hkw]; exact valid_no2 hlt hl hk
        · exact vkw hkw
      replace hbad := Lib.hid hbad
      cases hq : (bt s k == 95)
      · have hq2 : bt s k < 95 ∨ 95 < bt s k := by have : bt s k ≠ 95 := by simpa using hq
                                                   omega
        go_wp2_with fail
        all_goals first
          | (go_round
             case rel => exact ⟨k + 1, by omega, by go_num, pre_step hpre.out (by unfold innB letB digB; simp; omega)⟩
             case measure => simp [intOf]; omega)
          | (go_returns
             exact ⟨ret_bool (hbad.out (by unfold letB; simp; omega) (by unfold innB letB digB; simp; omega)).symm, by go_grown⟩)
      · have hq2 : 95 ≤ bt s k := by have : bt s k = 95 := by simpa using hq
                                     omega
        have hq3 : bt s k ≤ 95 := by have : bt s k = 95 := by simpa using hq
                                     omega
        go_wp2_with fail
        all_goals first
          | (go_round
             case rel => exact ⟨k + 1, by omega, by go_num, pre_step hpre.out (by unfold innB letB digB; simp; omega)⟩
             case measure => simp [intOf]; omega)
          | (go_returns
             exact ⟨ret_bool (hbad.out (by unfold letB; simp; omega) (by unfold innB letB digB; simp; omega)).symm, by go_grown⟩)
    · obtain rfl : k = s.size := by omega
      have HF := Lib.hid (valid_yes (s := s) h1 (Nat.le_refl _) hpre.out)
      go_wp2_with (go_at_call 81; refine (rkeywords_any _).mono ?_; rintro en w2 ⟨b, rfl, hb2, hbl, hbr, hcs⟩; replace hcs := Lib.hid hcs)
      go_loop [60] (fun v => ∃ j : Nat, j ≤ 20 ∧ v = .int .i64 j ∧ Hid (∀ i, i < j → kwds.getD i ByteArray.empty ≠ s)) (fun v => 20 - (intOf v).toNat)
      case atStart => exact ⟨0, by omega, rfl, fun i hi => by omega⟩
      case round =>
        obtain ⟨j, hj, rfl, hpre2⟩ := hrel
        by_cases hlt2 : j < 20
        · have hc := hcs.out j hlt2
          have hlt3 : (j : Int) < 20 := by omega
          obtain ⟨x, hx⟩ : ∃ x, x = kwds.getD j ByteArray.empty := ⟨_, rfl⟩
          rw [← hx] at hc
          have HX := Lib.hid hx
          clear hx
          rw [Nat.zero_add] at hc
          cases heq : (x.toList == s.toList)
          · go_wp2_with fail
            go_round
            case rel => exact ⟨j + 1, by omega, by go_num, fun i hi => if h : i < j then hpre2.out i h else by
                obtain rfl : i = j := by omega
                rw [← HX.out]; exact ba_ne heq⟩
            case measure => simp [intOf]; omega
          · have HB := Lib.hid (vkw (s := s) (kw_hit (s := s) hlt2 (by rw [← HX.out]; exact ba_eq heq)))
            go_wp2_with fail
            go_returns
            exact ⟨ret_bool HB.out.symm, hb2⟩
        · obtain rfl : j = 20 := by omega
          have HK := Lib.hid (kw_miss hpre2.out)
          go_wp2_with fail
          go_returns
          exact ⟨ret_bool (by rw [HV.out HK.out, HF.out]), hb2⟩

end Go.Proofs.Ytnjaflldlhiefaa
