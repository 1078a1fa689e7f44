/- Contract: token.NewReader; a reader of the reference that was just laid. -/
import Derived.Test.YtkmchnggcjmchaaDoorTkS
import Derived.Test.YtkmchnggcjmchaaDoorTkM
namespace Go.Proofs.YtkmchnggcjmchaaDoor
open Go.RowKit Go.PlainAid
set_option linter.unusedVariables false
set_option linter.unusedSimpArgs false
set_option maxHeartbeats 1000000

theorem flatP_one (ts : List Tok) : ∀ u ∈ flatP ts, u.oneCell' = true := by
  intro u hu
  simp only [flatP, List.mem_flatMap] at hu
  obtain ⟨t, _, h⟩ := hu
  simp only [tokV, List.mem_cons, List.mem_nil_iff, or_false] at h
  rcases h with rfl | rfl | rfl | rfl <;> rfl

theorem rd_made {f : Tok → List Value} {w w' : World} {v : Value} {n g z : Nat} {ts : List Tok} (hs : Sl w v n 4 (ts.flatMap f)) (hn : ts.length = n) (hb : Below w.heap.size w w') (hblk : Blk4 w' g v (.int .i64 0) (.int .i64 0) (.int .i64 0))
    (hg : w.heap.size ≤ g) (hz : ∀ b, v.ownBlock = some b → b ≠ z) : Rd f w' g z ts 0 0 0 := by
  obtain ⟨hl, a, cap, rfl, hc, hm, hx⟩ := hs
  subst hn
  refine ⟨a, cap, hblk, hc, by unfold maxLen at hm; omega, ?_⟩
  rcases hx with hx | ⟨b, o, rfl, hbl, hcell⟩
  · exact .inl (List.eq_nil_of_length_eq_zero hx)
  · refine .inr ⟨b, o, rfl, by omega, hz b rfl, Nat.lt_of_lt_of_le hbl hb.size, fun j hj => ?_⟩
    rw [hb.cell (p := ⟨b, o + j, none⟩) hbl]; exact hcell j hj

theorem clone_sl (v : Value) (n : Nat) (ts : List Tok) (w : World) (hv : Sl w v n 4 (flatP ts)) (hn : n ≤ 1000000) :
    Calls Tryd.prog 47 #[v] w fun e w' => ∃ a cap, e = .returned (.slice a n cap) ∧ Below w.heap.size w w' ∧ w'.ownsRow w.heap.size 30 4 (.slice a n cap) n (flatP ts) :=
  (clone_any v n (flatP ts) w hv (flatP_one ts) hn).mono fun e w' ⟨v', h1, h2, h3⟩ => by
    obtain ⟨_, a, cap, h4, _⟩ := Sl.owned h3
    subst h4
    exact ⟨a, cap, h1, h2, h3⟩
theorem newreader_any (v : Value) (n : Nat) (ts : List Tok) (w : World) (hv : Sl w v n 4 (flatP ts)) (ht : ts.length = n) (hn : n ≤ 1000000) :
    Calls Tryd.prog 15 #[v] w fun e w' => ∃ g, e = .returned (.pointer (some ⟨g, 0, none⟩)) ∧ Below w.heap.size w w' ∧ w.heap.size ≤ g ∧ g < w'.heap.size ∧ ∀ z, z < w.heap.size ∨ w'.heap.size ≤ z → Rd tokV w' g z ts 0 0 0 := by
  have hcl := Lib.hid (clone_sl v n ts w hv hn)
  clear hv
  go_enter Tryd.func15, Tryd.ntmps15
  go_wp2_with (go_at_call 47; refine hcl.out.mono ?_; rintro e w2 ⟨a2, c2, rfl, hb2, ho2⟩; replace ho2 := Lib.hid ho2)
  go_returns
  have hz2 := hb2.size
  refine ⟨w2.heap.size, rfl, hb2.alloc hz2 _, hb2.size, by simp, fun z hz => ?_⟩
  refine rd_made (w := w2) (Sl.owned ho2.out) ht ((Below.refl _ _).alloc (Nat.le_refl _) _) (Blk4.new _ _ _ _ _ _) (Nat.le_refl _) (fun b hb => ?_)
  have := ho2.out.lt b hb
  rcases hz with hz | hz
  · omega
  · simp at hz; omega

end Go.Proofs.YtkmchnggcjmchaaDoor
