/- Contracts of the reference: number and symbol at a place; Scan. -/
import Derived.Test.YtnjaflldlhiefaaTkG
import Derived.RegionTactic
namespace Go.Proofs.Ytnjaflldlhiefaa
open Go.RowKit Go.PlainAid
set_option linter.unusedVariables false
set_option maxHeartbeats 400000

theorem rnumber_yes (s : ByteArray) (k : Nat) (w : World) (hs : s.size ≤ 4611686018427387904) (hk : k < s.size) (hd : digB (bt s k) = true) (ho : numOk (rest s k) = true) :
    Calls Try.prog 49 #[.string s, .int .i64 k] w fun e w' => e = .returned (.int .i64 ↑(k + runL digB (rest s k))) ∧ w = w' := by
  have h1 : 1 ≤ runL digB (rest s k) := by rw [runL_hit digB s k hk hd]; omega
  have h2 := runL_rest_le digB s k
  unfold numOk at ho
  rw [rest_drop, afterB_rest, zeroB_rest s k hk] at ho
  simp only [Bool.not_eq_true', Bool.or_eq_false_iff, decide_eq_false_iff_not, Bool.and_eq_false_iff] at ho
  obtain ⟨⟨h6, hz⟩, ha⟩ := ho
  refine rnumber_any s k _ _ w hs (by omega) h1 rfl (.inl ⟨by omega, by omega, ?_, ?_⟩)
  · rcases hz with hz | hz
    · exact .inr (by simpa using hz)
    · exact .inl (by omega)
  · rcases ha with ha | ⟨ha, hb⟩
    · exact .inl (by omega)
    · by_cases hlt : k + runL digB (rest s k) < s.size
      · exact .inr ⟨hlt, ha, by simpa using hb⟩
      · exact .inl (by omega)

theorem rnumber_no (s : ByteArray) (k : Nat) (w : World) (hs : s.size ≤ 4611686018427387904) (hk : k < s.size) (hd : digB (bt s k) = true) (ho : numOk (rest s k) = false) :
    Calls Try.prog 49 #[.string s, .int .i64 k] w fun e w' => e = .returned (.int .i64 0) ∧ w = w' := by
  have h1 : 1 ≤ runL digB (rest s k) := by rw [runL_hit digB s k hk hd]; omega
  have h2 := runL_rest_le digB s k
  unfold numOk at ho
  rw [rest_drop, afterB_rest, zeroB_rest s k hk] at ho
  simp only [Bool.not_eq_false', Bool.or_eq_true, decide_eq_true_eq, Bool.and_eq_true] at ho
  refine rnumber_any s k _ _ w hs (by omega) h1 rfl (.inr ⟨rfl, ?_⟩)
  by_cases h7 : 7 ≤ runL digB (rest s k)
  · exact .inl h7
  by_cases hz : 2 ≤ runL digB (rest s k) ∧ bt s k = 48
  · exact .inr (.inl ⟨hz.1, by omega, by simpa using hz.2⟩)
  rcases ho with (ho | ho) | ho
  · omega
  · exact absurd ⟨by omega, ho.1⟩ hz
  · refine .inr (.inr ⟨by omega, ?_, ho.1, ?_⟩)
    · by_cases h2 : runL digB (rest s k) ≤ 1
      · exact .inl h2
      · exact .inr (by simp; intro h; exact hz ⟨by omega, h⟩)
    · by_cases hl : letB (bt s (k + runL digB (rest s k))) = true
      · exact .inl hl
      · have hl' : letB (bt s (k + runL digB (rest s k))) = false := by simpa using hl
        exact .inr ⟨hl', by rcases ho.2 with h | h; exact absurd h hl; simpa using h⟩

/-- The 13 symbols as cells. -/
abbrev symCellsR : Array Value := #[.string ⟨#[45, 62]⟩, .string ⟨#[60, 61]⟩, .string ⟨#[62, 61]⟩, .string ⟨#[61, 61]⟩, .string ⟨#[60]⟩, .string ⟨#[62]⟩, .string ⟨#[40]⟩, .string ⟨#[41]⟩, .string ⟨#[44]⟩, .string ⟨#[59]⟩, .string ⟨#[58]⟩, .string ⟨#[43]⟩, .string ⟨#[45]⟩]
def symAtR (j : Nat) : ByteArray := ⟨(syms.getD j []).toArray⟩
theorem sym_cellR (w : World) (j : Nat) (h : j < 13) : (w.alloc (.cells symCellsR 9)).cell? ⟨w.heap.size, j, none⟩ = some (.string (symAtR j)) := by
  rw [World.cell?_alloc_at _ _ _ _ rfl]
  match j, h with
  | 0, _ | 1, _ | 2, _ | 3, _ | 4, _ | 5, _ | 6, _ | 7, _ | 8, _ | 9, _ | 10, _ | 11, _ | 12, _ => rfl
theorem find_takeR {α : Type} (p : α → Bool) : ∀ (l : List α) (j : Nat) (x : α), (l.take j).find? p = none → l[j]? = some x → p x = true → l.find? p = some x
  | [], j, x, _, h, _ => by simp at h
  | a :: l, 0, x, _, h, hp => by simp at h; subst h; simp [hp]
  | a :: l, j + 1, x, h0, h, hp => by
    simp only [List.take_succ_cons, List.find?_cons] at h0
    split at h0
    · simp at h0
    · rename_i ha
      rw [List.find?_cons, ha]
      exact find_takeR p l j x h0 (by simpa using h) hp
theorem find_take_noneR {α : Type} (p : α → Bool) (l : List α) (j : Nat) (x : α) (h0 : (l.take j).find? p = none) (h : l[j]? = some x) (hp : p x = false) : (l.take (j + 1)).find? p = none := by
  rw [List.find?_eq_none] at h0 ⊢
  intro y hy
  obtain ⟨hlt, rfl⟩ := List.getElem?_eq_some_iff.1 h
  rw [List.take_succ_eq_append_getElem hlt] at hy
  rcases List.mem_append.1 hy with hy | hy
  · exact h0 y hy
  · simp at hy; subst hy; simp [hp]
theorem prefix_iff (x l : List UInt8) : x.isPrefixOf l = (decide (x.length ≤ l.length) && (l.take x.length == x)) := by
  rw [Bool.eq_iff_iff, List.isPrefixOf_iff_prefix]
  simp only [Bool.and_eq_true, decide_eq_true_eq, beq_iff_eq]
  constructor
  · rintro ⟨r, rfl⟩; simp
  · rintro ⟨_, h⟩
    refine ⟨l.drop x.length, ?_⟩
    conv => lhs; lhs; rw [← h]
    exact List.take_append_drop _ _

set_option maxRecDepth 100000 in
theorem rsymbol_any (s : ByteArray) (at0 : Nat) (w : World) (hs : s.size ≤ 4611686018427387904) (ha : at0 ≤ s.size) :
    Calls Try.prog 50 #[.string s, .int .i64 at0] w fun e w' =>
      ((∃ x, symL (rest s at0) = some x ∧ e = .returned (.int .i64 ↑(at0 + x.length))) ∨ (symL (rest s at0) = none ∧ e = .returned (.int .i64 0))) ∧ w.alloc (.cells symCellsR 9) = w' := by
  have HC : Hid (∀ j, j < 13 → (w.alloc (.cells symCellsR 9)).cell? ⟨w.heap.size, j, none⟩ = some (.string (symAtR j))) := fun j hj => sym_cellR w j hj
  go_enter Try.func50, Try.ntmps50
  go_wp2_with fail
  go_loop [9] (fun i => ∃ j : Nat, j ≤ 13 ∧ i = .int .i64 j ∧ Hid ((syms.take j).find? (fun x => x.isPrefixOf (rest s at0)) = none)) (fun i => 13 - (intOf i).toNat)
  case atStart => exact ⟨0, by omega, rfl, rfl⟩
  case round =>
    obtain ⟨j, hj, rfl, hr⟩ := hrel
    by_cases hj13 : j < 13
    · have hcj := HC.out j hj13
      have hget : Hid (syms[j]? = some (syms.getD j [])) := by
        have : j < syms.length := hj13
        show syms[j]? = some (syms.getD j [])
        rw [List.getD_eq_getElem?_getD]; simp [this]
      obtain ⟨y, hy⟩ : ∃ y, y = symAtR j := ⟨_, rfl⟩
      rw [← hy] at hcj
      have hyd : Hid (y.data.toList = syms.getD j []) := by subst hy; rfl
      have hysz : Hid (y.size = (syms.getD j []).length) := by subst hy; rfl
      have hy13 : y.size ≤ 2 := by subst hy; have : ∀ j, j < 13 → (symAtR j).size ≤ 2 := by decide
                                   exact this j hj13
      clear hy
      have HPF := Lib.hid (prefix_iff (syms.getD j []) (rest s at0))
      by_cases hfit : at0 + y.size ≤ s.size
      · cases hp : ((s.extract at0 (at0 + y.size)).toList == y.toList)
        · have HP : Hid ((syms.getD j []).isPrefixOf (rest s at0) = false) := by
            show _ = _
            rw [HPF.out, ← hyd.out]
            rw [Lib.toList_data, Lib.toList_data, ext_list] at hp
            simp only [Nat.add_sub_cancel_left] at hp
            simp only [Bool.and_eq_false_iff]
            exact .inr hp
          go_wp2_with fail
          all_goals first | (exfalso; omega) | skip
          go_round
          case rel => exact ⟨j + 1, by omega, by go_num, find_take_noneR _ _ _ _ hr.out hget.out HP.out⟩
          case measure => simp [intOf]; omega
        · have HP : Hid ((syms.getD j []).isPrefixOf (rest s at0) = true) := by
            show _ = _
            rw [HPF.out, ← hyd.out]
            rw [Lib.toList_data, Lib.toList_data, ext_list] at hp
            simp only [Nat.add_sub_cancel_left] at hp
            simp only [Bool.and_eq_true]
            exact ⟨by rw [rest_length]; simpa using (show y.size ≤ s.size - at0 by omega), hp⟩
          go_wp2_with fail
          all_goals first | (exfalso; omega) | skip
          go_ret
          exact ⟨.inl ⟨_, find_takeR _ _ _ _ hr.out hget.out HP.out, ret_int (by have := hysz.out; omega)⟩, rfl⟩
      · have HP : Hid ((syms.getD j []).isPrefixOf (rest s at0) = false) := by
          show _ = _
          rw [HPF.out]
          have h3 := hysz.out
          have h4 : ¬ (syms.getD j []).length ≤ (rest s at0).length := by rw [rest_length]; omega
          rw [decide_eq_false h4]; rfl
        go_wp2_with fail
        all_goals first | (exfalso; omega) | skip
        go_round
        case rel => exact ⟨j + 1, by omega, by go_num, find_take_noneR _ _ _ _ hr.out hget.out HP.out⟩
        case measure => simp [intOf]; omega
    · have : j = 13 := by omega
      subst this
      go_wp2_with fail
      go_ret
      exact ⟨.inr ⟨hr.out, rfl⟩, rfl⟩

theorem rsymbol_yes (s : ByteArray) (k : Nat) (x : List UInt8) (w : World) (hs : s.size ≤ 4611686018427387904) (hk : k ≤ s.size) (hx : symL (rest s k) = some x) :
    Calls Try.prog 50 #[.string s, .int .i64 k] w fun e w' => e = .returned (.int .i64 ↑(k + x.length)) ∧ w.alloc (.cells symCellsR 9) = w' :=
  (rsymbol_any s k w hs hk).mono fun e w' ⟨h, hb⟩ => by
    rcases h with ⟨y, hy, rfl⟩ | ⟨hy, rfl⟩
    · rw [hx] at hy; cases hy; exact ⟨rfl, hb⟩
    · rw [hx] at hy; cases hy
theorem rsymbol_no (s : ByteArray) (k : Nat) (w : World) (hs : s.size ≤ 4611686018427387904) (hk : k ≤ s.size) (hx : symL (rest s k) = none) :
    Calls Try.prog 50 #[.string s, .int .i64 k] w fun e w' => e = .returned (.int .i64 0) ∧ w.alloc (.cells symCellsR 9) = w' :=
  (rsymbol_any s k w hs hk).mono fun e w' ⟨h, hb⟩ => by
    rcases h with ⟨y, hy, rfl⟩ | ⟨hy, rfl⟩
    · rw [hx] at hy; cases hy
    · exact ⟨rfl, hb⟩

end Go.Proofs.Ytnjaflldlhiefaa
