/- Contracts of the law's small functions: cut, told, same. -/
import Derived.Test.YtkmchnggcjmchaaDoorTkSpec
import Derived.Test.YtkmchnggcjmchaaDoorMem
import Derived.Test.YtkmchnggcjmchaaDoorProg
import Derived.BigGuardPart
import Derived.WalkSpells
import Derived.WalkLawsBesides
import Derived.Deep.RegionHeld3
namespace Go.Proofs.YtkmchnggcjmchaaDoor
open Go.RowKit Go.PlainAid
set_option linter.unusedVariables false
set_option maxHeartbeats 400000

theorem cut_any (s : ByteArray) (w : World) (hs : s.size ≤ 9223372036854775807) :
    Calls Tryd.prog 6 #[.string s] w fun e w' => e = .returned (.string (s.extract 0 400)) ∧ w = w' := by
  go_enter Tryd.func6, Tryd.ntmps6
  go_wp2
  · go_ret
    exact ⟨rfl, rfl⟩
  · go_ret
    have hx : s.extract 0 400 = s := by
      rw [str_eq (ext_list s 0 400), List.drop_zero, List.take_of_length_le (by show s.size ≤ 400 - 0; omega)]
    exact ⟨by rw [hx]; rfl, rfl⟩

theorem flat_get (f : Tok → List Value) (hf : ∀ t, (f t).length = 4) : ∀ (l : List Tok) (j c : Nat) (t : Tok), l[j]? = some t → c < 4 → (l.flatMap f).getD (j * 4 + c) undef = (f t).getD c undef
  | [], j, c, t, h, _ => by simp at h
  | x :: l, 0, c, t, h, hc => by
    simp at h
    subst h
    rw [List.flatMap_cons, List.getD_eq_getElem?_getD, List.getElem?_append_left (by rw [hf]; omega)]
    simp
  | x :: l, j + 1, c, t, h, hc => by
    rw [List.flatMap_cons, List.getD_eq_getElem?_getD, List.getElem?_append_right (by rw [hf]; omega), hf, ← List.getD_eq_getElem?_getD]
    rw [show (j + 1) * 4 + c - 4 = j * 4 + c from by omega]
    exact flat_get f hf l j c t (by simpa using h) hc
/-- The cells of token j of the program. -/
theorem tokP_cells {w : World} {b o n : Nat} {ts : List Tok} (h : ∀ j, j < n * 4 → w.cell? ⟨b, o + j, none⟩ = some ((flatP ts).getD j undef)) (j : Nat) (t : Tok) (hj : j < n) (ht : ts[j]? = some t) :
    w.cell? ⟨b, o + j * 4, none⟩ = some (.int .u8 t.kind) ∧ w.cell? ⟨b, o + j * 4 + 1, none⟩ = some (.string ⟨t.text.toArray⟩) ∧ w.cell? ⟨b, o + j * 4 + 2, none⟩ = some (.int .i64 t.n) ∧ w.cell? ⟨b, o + j * 4 + 3, none⟩ = some (.int .i64 t.pos) := by
  have hf : ∀ t, (tokV t).length = 4 := fun _ => rfl
  have g := fun c hc => flat_get tokV hf ts j c t ht hc
  refine ⟨?_, ?_, ?_, ?_⟩
  · rw [h (j * 4) (by omega)]; exact congrArg _ (g 0 (by omega))
  · rw [Nat.add_assoc, h (j * 4 + 1) (by omega)]; exact congrArg _ (g 1 (by omega))
  · rw [Nat.add_assoc, h (j * 4 + 2) (by omega)]; exact congrArg _ (g 2 (by omega))
  · rw [Nat.add_assoc, h (j * 4 + 3) (by omega)]; exact congrArg _ (g 3 (by omega))
theorem tokR_cells {w : World} {b o n : Nat} {ts : List Tok} (h : ∀ j, j < n * 4 → w.cell? ⟨b, o + j, none⟩ = some ((flatR ts).getD j undef)) (j : Nat) (t : Tok) (hj : j < n) (ht : ts[j]? = some t) :
    w.cell? ⟨b, o + j * 4, none⟩ = some (.int .i64 t.kind) ∧ w.cell? ⟨b, o + j * 4 + 1, none⟩ = some (.string ⟨t.text.toArray⟩) ∧ w.cell? ⟨b, o + j * 4 + 2, none⟩ = some (.int .i64 t.n) ∧ w.cell? ⟨b, o + j * 4 + 3, none⟩ = some (.int .i64 t.pos) := by
  have hf : ∀ t, (tokW t).length = 4 := fun _ => rfl
  have g := fun c hc => flat_get tokW hf ts j c t ht hc
  refine ⟨?_, ?_, ?_, ?_⟩
  · rw [h (j * 4) (by omega)]; exact congrArg _ (g 0 (by omega))
  · rw [Nat.add_assoc, h (j * 4 + 1) (by omega)]; exact congrArg _ (g 1 (by omega))
  · rw [Nat.add_assoc, h (j * 4 + 2) (by omega)]; exact congrArg _ (g 2 (by omega))
  · rw [Nat.add_assoc, h (j * 4 + 3) (by omega)]; exact congrArg _ (g 3 (by omega))

theorem take_step {ts us : List Tok} {j : Nat} {t u : Tok} (h : ts.take j = us.take j) (ht : ts[j]? = some t) (hu : us[j]? = some u) (e : t = u) : ts.take (j + 1) = us.take (j + 1) := by
  rw [List.take_add_one, List.take_add_one, ht, hu, h, e]
theorem tok_split (t u : Tok) : t = u ∨ (((t.kind : Int) == u.kind) = false) ∨ (t.kind = u.kind ∧ (((⟨t.text.toArray⟩ : ByteArray).toList == (⟨u.text.toArray⟩ : ByteArray).toList) = false)) ∨
    (t.kind = u.kind ∧ t.text = u.text ∧ (((t.n : Int) == u.n) = false)) ∨ (t.kind = u.kind ∧ t.text = u.text ∧ t.n = u.n ∧ (((t.pos : Int) == u.pos) = false)) := by
  obtain ⟨k, x, n, p⟩ := t
  obtain ⟨k', x', n', p'⟩ := u
  simp only [Tok.mk.injEq]
  by_cases h1 : k = k'
  · by_cases h2 : x = x'
    · by_cases h3 : n = n'
      · by_cases h4 : p = p'
        · exact .inl ⟨h1, h2, h3, h4⟩
        · exact .inr (.inr (.inr (.inr ⟨h1, h2, h3, by simp; omega⟩)))
      · exact .inr (.inr (.inr (.inl ⟨h1, h2, by simp; omega⟩)))
    · exact .inr (.inr (.inl ⟨h1, by rw [Lib.toList_data, Lib.toList_data]; simpa using h2⟩))
  · exact .inr (.inl (by simp; omega))

end Go.Proofs.YtkmchnggcjmchaaDoor
