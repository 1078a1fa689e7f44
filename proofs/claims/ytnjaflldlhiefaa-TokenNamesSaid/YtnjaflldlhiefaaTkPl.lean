/- Plain laws: what a name or a keyword is scanned to. -/
import Derived.Test.YtnjaflldlhiefaaTkU
import Derived.Test.YtnjaflldlhiefaaTkLaw
namespace Go.Proofs.Ytnjaflldlhiefaa
open Go.RowKit Go.PlainAid
set_option linter.unusedVariables false

theorem runL_whole {s : ByteArray} (h : ∀ j, j < s.size → innB (bt s j) = true) : ∀ (n k : Nat), s.size - k = n → runL innB (rest s k) = s.size - k
  | 0, k, hn => by rw [runL_end _ _ _ (by omega)]; omega
  | n + 1, k, hn => by
    rw [runL_hit innB s k (by omega) (h k (by omega)), runL_whole h n (k + 1) (by omega)]; omega
theorem validB_parts {s : ByteArray} (h : validB s = true) : 1 ≤ s.size ∧ s.size ≤ 12 ∧ kwB s = false ∧ letB (bt s 0) = true ∧ ∀ j, j < s.size → innB (bt s j) = true := by
  unfold validB at h
  simp only [Bool.and_eq_true, decide_eq_true_eq, Bool.not_eq_true', List.all_eq_true, List.mem_range] at h
  exact ⟨h.1.1.1.1, h.1.1.1.2, h.1.1.2, h.1.2, h.2⟩
theorem one_valid {s : ByteArray} (h : validB s = true) : scanP s.data.toList = ([⟨1, s.data.toList, 0, 0⟩, ⟨0, [], 0, s.size⟩], 0, 0) := by
  obtain ⟨h1, h2, _, h4, h5⟩ := validB_parts h
  have hr0 : rest s 0 = s.data.toList := List.drop_zero
  have hlen : s.data.toList.length = s.size := rfl
  have hl := h4
  unfold letB at hl
  simp only [Bool.and_eq_true, decide_eq_true_eq] at hl
  have hsk : skipL false s.data.toList = 0 := by
    rw [← hr0]
    exact skipL_miss s 0 (by omega) (by unfold blkB; simp; omega) (by omega)
  have hrun : runL innB (rest s 0) = s.size := by rw [runL_whole h5 _ 0 rfl]; omega
  have ht := tokL_word s 0 (by omega) h4
  rw [hrun, hr0, List.take_of_length_le (by rw [hlen]; exact Nat.le_refl _)] at ht
  have hR : scanR s.data.toList = ([⟨1, s.data.toList, 0, 0⟩, ⟨0, [], 0, s.size⟩], 0, 0) := by
    unfold scanR
    rw [hsk, List.drop_zero, hlen]
    have e := scanA_tok s s.size 0 (by omega) 1 0 s.data.toList (by rw [hr0]; exact ht)
    rw [hr0, hlen, Nat.zero_add, skipL_end s s.size (Nat.le_refl _)] at e
    simp only [Nat.add_zero] at e
    rw [scanA_end s s.size s.size (by omega) (Nat.le_refl _)] at e
    exact e
  unfold scanP
  rw [if_neg (by omega), hR]
  simp
theorem one_kws : ∀ k ∈ kwds, scanP k.data.toList = ([⟨1, k.data.toList, 0, 0⟩, ⟨0, [], 0, k.size⟩], 0, 0) := by decide +kernel
theorem one_kw {s : ByteArray} (h : kwB s = true) : scanP s.data.toList = ([⟨1, s.data.toList, 0, 0⟩, ⟨0, [], 0, s.size⟩], 0, 0) := by
  unfold kwB at h
  rw [Lib.containsS_iff] at h
  exact one_kws s h
/-- The text is scanned as one word, which is the whole text. -/
def oneW (l : List UInt8) : Prop := (scanP l).2.2 = 0 ∧ (scanP l).1.length = 2 ∧ ((scanP l).1.getD 0 tz).text = l ∧ ((scanP l).1.getD 0 tz).kind = 1
theorem oneW_valid {s : ByteArray} (h : validB s = true) : oneW s.data.toList := by
  unfold oneW; rw [one_valid h]; exact ⟨rfl, rfl, rfl, rfl⟩
theorem oneW_kw {s : ByteArray} (h : kwB s = true) : oneW s.data.toList := by
  unfold oneW; rw [one_kw h]; exact ⟨rfl, rfl, rfl, rfl⟩
theorem oneW_no {s : ByteArray} (h : ¬ oneW s.data.toList) : validB s = false ∧ kwB s = false :=
  ⟨Bool.eq_false_iff.2 fun k => h (oneW_valid k), Bool.eq_false_iff.2 fun k => h (oneW_kw k)⟩
theorem oneW_pos {l : List UInt8} (h : oneW l) : ((scanP l).1.getD 0 tz).pos = 0 := by
  obtain ⟨h1, h2, h3, h4⟩ := h
  unfold scanP at h1 h2 h3 h4 ⊢
  by_cases h8 : 8000 < l.length
  · rw [if_pos h8] at h2; cases h2
  · rw [if_neg h8] at h1 h2 h3 h4 ⊢
    by_cases h0 : (scanR l).2.2 = 0
    · rw [if_pos h0] at h1 h2 h3 h4 ⊢
      unfold scanR at h2 h3 h4 ⊢
      have hd : (l.drop (skipL false l)).length = l.length - skipL false l := List.length_drop
      have hsl := skipL_le l false
      cases hl : l.drop (skipL false l) with
      | nil => rw [hl] at h2; simp [scanA] at h2
      | cons c r =>
        rw [hl] at h2 h3 h4 hd
        try rw [hl]
        simp only [scanA] at h2 h3 h4 ⊢
        cases ht : tokL (c :: r) with
        | none => rw [ht] at h2; cases h2
        | some x =>
          obtain ⟨kd, t, n⟩ := x
          rw [ht] at h2 h3 h4
          obtain ⟨k1, k2, k3⟩ := tokL_len ht
          simp only [List.getD_cons_zero] at h3 h4 ⊢
          have : t.length = l.length := congrArg List.length h3
          show skipL false l = 0
          omega
    · rw [if_neg h0] at h2; cases h2
end Go.Proofs.Ytnjaflldlhiefaa
