/- Contract: names.Valid. -/
import Derived.Test.YtnjaflldlhiefaaTkT
import Derived.Laws.EntriesVeiled
import Derived.Outline
namespace Go.Proofs.Ytnjaflldlhiefaa
open Go.RowKit Go.PlainAid
set_option linter.unusedVariables false
set_option linter.unusedSimpArgs false
set_option maxHeartbeats 1000000

theorem vinner_of (c : Int) (w : World) (q : Nat) (b : Bool) (hq : w.cell? ⟨q, 0, none⟩ = some (.func (.func 52) #[] #[])) (h : innB c = b) :
    Calls Try.prog 53 #[.int .u8 c, .pointer (some ⟨q, 0, none⟩)] w fun en w' => en = .returned (.bool b) ∧ w' = w :=
  (vinner_any c w q hq).mono fun _ _ ⟨h1, h2⟩ => ⟨by rw [h1, h], h2.symm⟩
theorem vletter_of (c : Int) (w : World) (b : Bool) (h : letB c = b) :
    Calls Try.prog 52 #[.int .u8 c] w fun en w' => en = .returned (.bool b) ∧ w' = w :=
  (vletter_any c w).mono fun _ _ ⟨h1, h2⟩ => ⟨by rw [h1, h], h2.symm⟩
theorem valid_no1 {s : ByteArray} {k : Nat} (h : k < s.size) (hi : innB (bt s k) = false) : (letB (bt s 0) && (List.range s.size).all fun j => innB (bt s j)) = false := by
  rw [Bool.and_eq_false_iff]
  right
  rw [List.all_eq_false]
  exact ⟨k, List.mem_range.2 h, by rw [hi]; simp⟩
theorem valid_yes {s : ByteArray} {k : Nat} (h1 : 0 < s.size) (hk : s.size ≤ k) (h : ∀ j, j < k → innB (bt s j) = true ∧ letB (bt s 0) = true) : (letB (bt s 0) && (List.range s.size).all fun j => innB (bt s j)) = true := by
  rw [Bool.and_eq_true]
  refine ⟨(h 0 (by omega)).2, ?_⟩
  rw [List.all_eq_true]
  intro j hj
  exact (h j (by have := List.mem_range.1 hj; omega)).1

theorem pre_one {s : ByteArray} (hi : innB (bt s 0) = true) (hl : letB (bt s 0) = true) : ∀ j, j < 1 → innB (bt s j) = true ∧ letB (bt s 0) = true := fun j hj => by
  obtain rfl : j = 0 := by omega
  exact ⟨hi, hl⟩
theorem pre_next {s : ByteArray} {k : Nat} (h0 : 0 < k) (h : ∀ j, j < k → innB (bt s j) = true ∧ letB (bt s 0) = true) (hi : innB (bt s k) = true) : ∀ j, j < k + 1 → innB (bt s j) = true ∧ letB (bt s 0) = true := fun j hj => by
  refine ⟨?_, (h 0 h0).2⟩
  by_cases hjk : j < k
  · exact (h j hjk).1
  · obtain rfl : j = k := by omega
    exact hi

set_option maxHeartbeats 2000000 in
theorem valid_any (s : ByteArray) (w : World) :
    Calls Try.prog 22 #[.string s] w fun en w' => en = .returned (.bool (validB s)) ∧ Below w.heap.size w w' := by
  by_cases h0 : s.size = 0
  · have hz : Hid (validB s = false) := by show _ = _; unfold validB; simp [h0]
    go_enter Try.func22, Try.ntmps22
    go_wp2_with fail
    go_returns
    exact ⟨ret_bool hz.out.symm, by go_grown⟩
  by_cases h12 : 12 < s.size
  · have hz : Hid (validB s = false) := by show _ = _; unfold validB; rw [decide_eq_false (show ¬ s.size ≤ 12 by omega)]; simp
    have h13 : (12 : Int) < s.size := by omega
    have h00 : ((s.size : Int) == 0) = false := beq_eq_false_iff_ne.2 (by omega)
    clear h0 h12
    go_enter Try.func22, Try.ntmps22
    go_wp2_with fail
    go_returns
    exact ⟨ret_bool hz.out.symm, by go_grown⟩
  have h00 : ((s.size : Int) == 0) = false := beq_eq_false_iff_ne.2 (by omega)
  have h1 : 0 < s.size := by omega
  have h2 : s.size ≤ 12 := by omega
  have h3 : ¬ (12 : Int) < s.size := by omega
  clear h0 h12
  cases hk : kwB s
  · have HK := Lib.hid hk
    have hmf : ∀ (fn : Fn) (first cap : Array Value) (w : World), (Instr.makeFunc fn first cap).run Try.prog w = .ok (.func fn first cap) w := fun _ _ _ _ => rfl
    have HV := Lib.hid (vset h1 h2 hk)
    clear hk
    go_enter Try.func22, Try.ntmps22
    go_wp2_with (first
      | (go_at_call 24; refine (keywords_any _).mono ?_; rintro en w2 ⟨b, rfl, hb2, hbl, hbr, hcs⟩; replace hcs := Lib.hid hcs)
      | (go_at_call 23; refine (contains_kw _ _ _ hcs.out).mono ?_; rintro en w3 ⟨rfl, rfl⟩; rw [HK.out]))
    go_loopw [22] (fun v wr => ∃ k : Nat, k ≤ s.size ∧ v = .int .i64 k ∧ Below w.heap.size w wr ∧ wr.cell? ⟨w2.heap.size, 0, none⟩ = some (.func (.func 52) #[] #[]) ∧ Hid (∀ j, j < k → innB (bt s j) = true ∧ letB (bt s 0) = true)) (fun v _ => s.size - (intOf v).toNat)
    case atStart => exact ⟨0, by omega, rfl, by go_grown, by simp, fun j hj => by omega⟩
    case round =>
      obtain ⟨k, hkk, rfl, hbel, hcell, hpre⟩ := hrel
      by_cases hlt : k < s.size
      · have hb := get_bt s
        cases hi : innB (bt s k)
        · have HI := Lib.hid hi
          have HF := Lib.hid (valid_no1 hlt HI.out)
          clear hi
          go_wp2_with fail
          go_quiet ((go_at_call 53; exact Calls.quiet_of_same (vinner_of _ _ _ _ hcell HI.out)))
          go_wp2_with fail
          go_returns
          exact ⟨ret_bool (by rw [HV.out, HF.out]), below_drewN hbel _⟩
        · have HI := Lib.hid hi
          clear hi
          by_cases hk0 : k = 0
          · subst hk0
            cases hl : letB (bt s 0)
            · have HL := Lib.hid hl
              clear hl
              go_wp2_with fail
              go_quiet (first | (go_at_call 53; exact Calls.quiet_of_same (vinner_of _ _ _ _ hcell HI.out)) | (go_at_call 52; exact Calls.quiet_of_same (vletter_of _ _ _ HL.out)))
              go_wp2_with fail
              go_returns
              exact ⟨ret_bool (by rw [HV.out, HL.out]; rfl), below_drewN hbel _⟩
            · have HL := Lib.hid hl
              clear hl
              go_wp2_with fail
              go_quiet (first | (go_at_call 53; exact Calls.quiet_of_same (vinner_of _ _ _ _ hcell HI.out)) | (go_at_call 52; exact Calls.quiet_of_same (vletter_of _ _ _ HL.out)))
              go_wp2_with fail
              go_roundw
              case rel => exact ⟨1, by omega, rfl, below_drewN hbel _, hcell, by first | exact pre_one HI.out HL.out | exact fun j hj => ⟨(pre_one HI.out HL.out j hj).1, trivial⟩⟩
              case measure => simp [intOf]; omega
          · have hk1 : ((k : Int) == 0) = false := beq_eq_false_iff_ne.2 (by omega)
            have hkp : 0 < k := by omega
            clear hk0
            go_wp2_with fail
            go_quiet ((go_at_call 53; exact Calls.quiet_of_same (vinner_of _ _ _ _ hcell HI.out)))
            go_wp2_with fail
            go_roundw
            case rel => exact ⟨k + 1, by omega, by go_num, below_drewN hbel _, hcell, pre_next hkp hpre.out HI.out⟩
            case measure => simp [intOf]; omega
      · have HF := Lib.hid (valid_yes (s := s) h1 (by omega) hpre.out)
        go_wp2_with fail
        go_returns
        exact ⟨ret_bool (by rw [HV.out, HF.out]), by go_grown⟩
  · have HK := Lib.hid hk
    have hz : Hid (validB s = false) := by show _ = _; unfold validB; simp [hk]
    clear hk
    go_enter Try.func22, Try.ntmps22
    go_wp2_with (first
      | (go_at_call 24; refine (keywords_any _).mono ?_; rintro en w2 ⟨b, rfl, hb2, hbl, hbr, hcs⟩; replace hcs := Lib.hid hcs)
      | (go_at_call 23; refine (contains_kw _ _ _ hcs.out).mono ?_; rintro en w3 ⟨rfl, rfl⟩; rw [HK.out]))
    go_returns
    exact ⟨ret_bool hz.out.symm, hb2⟩
end Go.Proofs.Ytnjaflldlhiefaa
