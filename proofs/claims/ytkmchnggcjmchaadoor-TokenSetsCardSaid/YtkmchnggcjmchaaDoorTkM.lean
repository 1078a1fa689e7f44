/- Contracts: slices.Clone and slices.Equal of tokens, the law's plain, the reference's Join. -/
import Derived.Test.YtkmchnggcjmchaaDoorTkF
import Derived.Test.YtkmchnggcjmchaaDoorTkK
import Derived.Deep.QuietTactic
import Derived.BigQuiet
import Derived.Lib.SliceRun
namespace Go.Proofs.YtkmchnggcjmchaaDoor
open Go.RowKit Go.PlainAid
set_option linter.unusedVariables false
set_option maxHeartbeats 1000000

theorem clone_any (v : Value) (n : Nat) (xs : List Value) (w : World) (hv : Sl w v n 4 xs) (h1 : ∀ u ∈ xs, u.oneCell' = true) (hn : n ≤ 1000000) :
    Calls Tryd.prog 47 #[v] w fun e w' => ∃ v', e = .returned v' ∧ Below w.heap.size w w' ∧ w'.ownsRow w.heap.size 30 4 v' n xs := by
  obtain ⟨i0, hi, hz0, hz1, hz2⟩ := info_parts infoTok
  obtain ⟨hl, a, cap, rfl, hc, hm, h2⟩ := hv
  unfold maxLen at hm
  have hnil := fun (w : World) (a : Option Addr) (n c : Nat) => Lib.run_eql_slice_nil (P := Tryd.prog) w 24 30 a n c 0 0 Tryd.underlying24
  cases a with
  | none =>
    have hn0 : n = 0 := by
      rcases h2 with h2 | ⟨b, o, h2, _⟩
      · exact h2
      · cases h2
    subst hn0
    have hx : xs = [] := List.eq_nil_of_length_eq_zero (by simpa using hl)
    subst hx
    go_enter Tryd.func47, Tryd.ntmps47
    go_wp2_with fail
    go_ret
    exact ⟨_, rfl, Below.refl _ _, World.ownsRow_nil _ _ _ _⟩
  | some ad =>
    have hcells : Hid (∀ j u, xs[j]? = some u → (w.alloc (.cells #[] 30)).cell? (ad.add j) = some u) := by
      intro j u hu
      rcases h2 with h2 | ⟨b, o, h2, hb, hcell⟩
      · subst h2
        have hx : xs = [] := List.eq_nil_of_length_eq_zero (by simpa using hl)
        subst hx; simp at hu
      · cases h2
        have hj : j < n * 4 := by rw [← hl]; exact (List.getElem?_eq_some_iff.1 hu).1
        have hadd : (⟨b, o, none⟩ : Addr).add j = ⟨b, o + j, none⟩ := by unfold Addr.add; split <;> simp_all
        rw [hadd, World.cell?_alloc_lt _ _ _ hb, hcell j hj, List.getD_eq_getElem?_getD, hu]; rfl
    have hown0 : (w.alloc (.cells #[] 30)).ownsRow w.heap.size 30 4 (.slice (some ⟨w.heap.size, 0, none⟩) 0 0) 0 [] := World.ownsRow_made w #[] 0 (Nat.le_refl _) (by decide) rfl
    have H1 := Lib.hid h1
    have HL := Lib.hid hl
    clear h2 h1 hl
    go_enter Tryd.func47, Tryd.ntmps47
    go_wp2_with (at_builtin; refine wpList_append_own _ rfl (.tmp 5) (.tmp 6) 24 rfl w.heap.size 30 i0 (.agg #[.int .u8 0, .string ⟨#[]⟩, .int .i64 0, .int .i64 0]) 4 40 Tryd.underlying24 hi hz0 hz1 hz2 rfl (by decide) _ _ _ rfl hown0 ad n cap xs rfl HL.out hcells.out H1.out (by unfold maxLen; omega) (by omega) (by simp) ?_)
    intro v' w1 hown' hgrow _
    have hbel : Below w.heap.size w w1 := ((Below.refl _ _).alloc (Nat.le_refl _) _).grown hgrow (by simp) (fun b hb => by cases hb; exact Nat.le_refl _)
    try simp only [Nat.zero_add, List.nil_append] at hown'
    clear hgrow hown0
    go_wp2_with fail
    go_ret
    exact ⟨_, rfl, hbel, hown'⟩

end Go.Proofs.YtkmchnggcjmchaaDoor
