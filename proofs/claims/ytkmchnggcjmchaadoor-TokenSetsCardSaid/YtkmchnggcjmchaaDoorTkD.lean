/- Contracts: token.number that breaks a rule; token.symbol. -/
import Derived.Test.YtkmchnggcjmchaaDoorTkB
import Derived.Test.YtkmchnggcjmchaaDoorMem
import Derived.Test.YtkmchnggcjmchaaDoorShP
import Derived.BigGuardPart
import Derived.WalkSpells
import Derived.WalkLawsBesides
namespace Go.Proofs.YtkmchnggcjmchaaDoor
open Go.RowKit Go.PlainAid
set_option linter.unusedVariables false
set_option maxHeartbeats 400000

set_option maxRecDepth 100000 in
theorem number_bad (s : ByteArray) (at0 m : Nat) (w : World) (hs : s.size ≤ 4611686018427387904) (ha : at0 + m ≤ s.size) (h1 : 1 ≤ m)
    (hm : Hid (runL digB (rest s at0) = m)) (hbad : 7 ≤ m ∨ (2 ≤ m ∧ m ≤ 6 ∧ (bt s at0 == 48) = true) ∨ (m ≤ 6 ∧ (m ≤ 1 ∨ (bt s at0 == 48) = false) ∧ at0 + m < s.size ∧ (Hid (letB (bt s (at0 + m)) = true) ∨ (Hid (letB (bt s (at0 + m)) = false) ∧ (bt s (at0 + m) == 95) = true)))) :
    Calls Tryd.prog 27 #[.string s, .int .i64 at0] w fun e w' => e = .returned (.tuple #[.agg #[.int .u8 0, .string ⟨#[]⟩, .int .i64 0, .int .i64 0], .bool false]) ∧ Below w.heap.size w w' := by
  have hb := get_bt s
  have hwh : Hid (∀ w, Calls Tryd.prog 24 #[.string s, .int .i64 at0, .func (.func 26) #[] #[]] w fun e w' => e = .returned (.int .i64 ↑(at0 + m)) ∧ w = w') := by
    intro w; have := while_digit s at0 w hs (by omega); rw [hm.out] at this; exact this
  clear hm
  have hz0 := Tryd.zeroValue30
  rcases hbad with h7 | ⟨h2, h6, hz⟩ | ⟨h6, hz | hz, he, hl | ⟨hl, h95⟩⟩
  all_goals
    go_enter Tryd.func27, Tryd.ntmps27
    go_wp2_with (first
        | (go_at_call 24; refine (hwh.out _).mono ?_; rintro e w' ⟨rfl, rfl⟩)
        | (go_at_call 23; first | (exfalso; omega) | (refine (letter_any _ _ (bt_nonneg _ _) (bt_le _ _)).mono ?_; rintro e w' ⟨rfl, rfl⟩; rw [hl.out])))
    all_goals first | (exfalso; omega) | skip
    all_goals
      go_returns
      exact ⟨rfl, by go_grown⟩

/-- The 13 symbols as cells. -/
abbrev symCells : Array Value := #[.string ⟨#[45, 62]⟩, .string ⟨#[60, 61]⟩, .string ⟨#[62, 61]⟩, .string ⟨#[61, 61]⟩, .string ⟨#[60]⟩, .string ⟨#[62]⟩, .string ⟨#[40]⟩, .string ⟨#[41]⟩, .string ⟨#[44]⟩, .string ⟨#[59]⟩, .string ⟨#[58]⟩, .string ⟨#[43]⟩, .string ⟨#[45]⟩]
def symAt (j : Nat) : ByteArray := ⟨(syms.getD j []).toArray⟩
theorem sym_cell (w : World) (o : Obj) (j : Nat) (h : j < 13) : ((w.alloc o).alloc (.cells symCells 9)).cell? ⟨w.heap.size + 1, j, none⟩ = some (.string (symAt j)) := by
  rw [World.cell?_alloc_at _ _ _ _ (by simp)]
  match j, h with
  | 0, _ | 1, _ | 2, _ | 3, _ | 4, _ | 5, _ | 6, _ | 7, _ | 8, _ | 9, _ | 10, _ | 11, _ | 12, _ => rfl
theorem find_take {α : Type} (p : α → Bool) : ∀ (l : List α) (j : Nat) (x : α), (l.take j).find? p = none → l[j]? = some x → p x = true → l.find? p = some x
  | [], j, x, _, h, _ => by simp at h
  | a :: l, 0, x, _, h, hp => by simp at h; subst h; simp [hp]
  | a :: l, j + 1, x, h0, h, hp => by
    simp only [List.take_succ_cons, List.find?_cons] at h0
    split at h0
    · simp at h0
    · rename_i ha
      rw [List.find?_cons, ha]
      exact find_take p l j x h0 (by simpa using h) hp
theorem find_take_none {α : Type} (p : α → Bool) (l : List α) (j : Nat) (x : α) (h0 : (l.take j).find? p = none) (h : l[j]? = some x) (hp : p x = false) : (l.take (j + 1)).find? p = none := by
  rw [List.find?_eq_none] at h0 ⊢
  intro y hy
  obtain ⟨hlt, rfl⟩ := List.getElem?_eq_some_iff.1 h
  rw [List.take_succ_eq_append_getElem hlt] at hy
  rcases List.mem_append.1 hy with hy | hy
  · exact h0 y hy
  · simp at hy; subst hy; simp [hp]
theorem ext_all (s : ByteArray) (a : Nat) : (s.extract a s.size).data.toList = rest s a := by
  rw [ext_list]; exact List.take_of_length_le (by simp)

set_option maxRecDepth 100000 in
theorem symbol_any (s : ByteArray) (at0 : Nat) (w : World) (hs : s.size ≤ 4611686018427387904) (ha : at0 ≤ s.size) :
    Calls Tryd.prog 28 #[.string s, .int .i64 at0] w fun e w' =>
      ((∃ x, symL (rest s at0) = some x ∧ e = .returned (.tuple #[.agg #[.int .u8 3, .string ⟨x.toArray⟩, .int .i64 0, .int .i64 at0], .bool true])) ∨
       (symL (rest s at0) = none ∧ e = .returned (.tuple #[.agg #[.int .u8 0, .string ⟨#[]⟩, .int .i64 0, .int .i64 0], .bool false]))) ∧ Below w.heap.size w w' := by
  have HC : Hid (∀ j, j < 13 → ((w.alloc (.cells #[.int .u8 0, .string ⟨#[]⟩, .int .i64 0, .int .i64 0] 30)).alloc (.cells symCells 9)).cell? ⟨w.heap.size + 1, j, none⟩ = some (.string (symAt j))) := fun j hj => sym_cell w _ j hj
  go_enter Tryd.func28, Tryd.ntmps28
  go_wp2_with fail
  go_loop [10] (fun i => ∃ j : Nat, j ≤ 13 ∧ i = .int .i64 j ∧ Hid ((syms.take j).find? (fun x => x.isPrefixOf (rest s at0)) = none)) (fun i => 13 - (intOf i).toNat)
  case atStart => exact ⟨0, by omega, rfl, rfl⟩
  case round =>
    obtain ⟨j, hj, rfl, hr⟩ := hrel
    by_cases hj13 : j < 13
    · have hcj := HC.out j hj13
      have hget : Hid (syms[j]? = some (syms.getD j [])) := by
        have : j < syms.length := hj13
        show syms[j]? = some (syms.getD j [])
        rw [List.getD_eq_getElem?_getD]; simp [this]
      cases hp : (syms.getD j []).isPrefixOf (rest s at0)
      · have HP : Hid ((syms.getD j []).isPrefixOf (rest s at0) = false) := hp
        clear hp
        go_wp2_with (go_at_call 54; refine (Tryd.strings_HasPrefix _ (symAt j) _).mono ?_; rintro e w' ⟨rfl, hw⟩; obtain rfl := hw.symm; rw [ext_all, show Lib.hasPrefix (rest s at0) (symAt j).data.toList = false from HP.out])
        go_round
        case rel => exact ⟨j + 1, by omega, by go_num, find_take_none _ _ _ _ hr.out hget.out HP.out⟩
        case measure => simp [intOf]; omega
      · have HP : Hid ((syms.getD j []).isPrefixOf (rest s at0) = true) := hp
        clear hp
        go_wp2_with (go_at_call 54; refine (Tryd.strings_HasPrefix _ (symAt j) _).mono ?_; rintro e w' ⟨rfl, hw⟩; obtain rfl := hw.symm; rw [ext_all, show Lib.hasPrefix (rest s at0) (symAt j).data.toList = true from HP.out])
        go_returns
        exact ⟨.inl ⟨_, find_take _ _ _ _ hr.out hget.out HP.out, rfl⟩, by go_grown⟩
    · have : j = 13 := by omega
      subst this
      go_wp2_with fail
      go_returns
      exact ⟨.inr ⟨hr.out, rfl⟩, by go_grown⟩

end Go.Proofs.YtkmchnggcjmchaaDoor
