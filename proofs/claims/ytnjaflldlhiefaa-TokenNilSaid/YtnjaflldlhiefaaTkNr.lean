/- Contract: token.NewReader; a reader of the reference that was just laid. -/
import Derived.Test.YtnjaflldlhiefaaTkS
import Derived.Test.YtnjaflldlhiefaaTkN
namespace Go.Proofs.Ytnjaflldlhiefaa
open Go.RowKit Go.PlainAid
set_option linter.unusedVariables false
set_option linter.unusedSimpArgs false
set_option maxHeartbeats 1000000

theorem rd_made {f : Tok → List Value} {w w' : World} {v : Value} {n g z : Nat} {ts : List Tok} (hs : Sl w v n 4 (ts.flatMap f)) (hn : ts.length = n) (hb : Below w.heap.size w w') (hblk : Blk4 w' g v (.int .i64 0) (.int .i64 0) (.int .i64 0))
    (hg : w.heap.size ≤ g) (hz : ∀ b, v.ownBlock = some b → b ≠ z) : Rd f w' g z ts 0 0 0 := by
  obtain ⟨hl, a, cap, rfl, hc, hm, hx⟩ := hs
  subst hn
  refine ⟨a, cap, hblk, hc, by unfold maxLen at hm; omega, ?_⟩
  rcases hx with hx | ⟨b, o, rfl, hbl, hcell⟩
  · exact .inl (List.eq_nil_of_length_eq_zero hx)
  · refine .inr ⟨b, o, rfl, by omega, hz b rfl, Nat.lt_of_lt_of_le hbl hb.size, fun j hj => ?_⟩
    rw [hb.cell (p := ⟨b, o + j, none⟩) hbl]; exact hcell j hj

theorem clone_sl (v : Value) (n : Nat) (ts : List Tok) (w : World) (hv : Sl w v n 4 (flatP ts)) (hn : n ≤ 1000000) :
    Calls Try.prog 15 #[v] w fun e w' => ∃ a cap, e = .returned (.slice a n cap) ∧ Below w.heap.size w w' ∧ w'.ownsRow w.heap.size 36 4 (.slice a n cap) n (flatP ts) :=
  (clone_any v n (flatP ts) w hv (flatP_one ts) hn).mono fun e w' ⟨v', h1, h2, h3⟩ => by
    obtain ⟨_, a, cap, h4, _⟩ := Sl.owned h3
    subst h4
    exact ⟨a, cap, h1, h2, h3⟩
theorem newreader_any (v : Value) (n : Nat) (ts : List Tok) (w : World) (hv : Sl w v n 4 (flatP ts)) (ht : ts.length = n) (hn : n ≤ 1000000) :
    Calls Try.prog 25 #[v] w fun e w' => ∃ g, e = .returned (.pointer (some ⟨g, 0, none⟩)) ∧ Below w.heap.size w w' ∧ w.heap.size ≤ g ∧ g < w'.heap.size ∧ ∀ z, z < w.heap.size ∨ w'.heap.size ≤ z → Rd tokV w' g z ts 0 0 0 := by
  have hcl := Lib.hid (clone_sl v n ts w hv hn)
  clear hv
  go_enter Try.func25, Try.ntmps25
  go_wp2_with (go_at_call 15; refine hcl.out.mono ?_; rintro e w2 ⟨a2, c2, rfl, hb2, ho2⟩; replace ho2 := Lib.hid ho2)
  go_returns
  have hz2 := hb2.size
  refine ⟨w2.heap.size, rfl, hb2.alloc hz2 _, hb2.size, by simp, fun z hz => ?_⟩
  refine rd_made (w := w2) (Sl.owned ho2.out) ht ((Below.refl _ _).alloc (Nat.le_refl _) _) (Blk4.new _ _ _ _ _ _) (Nat.le_refl _) (fun b hb => ?_)
  have := ho2.out.lt b hb
  rcases hz with hz | hz
  · omega
  · simp at hz; omega

abbrev wordCells : Array Value := #[.string ⟨#[99, 108, 101, 114, 107]⟩, .string ⟨#[97, 117, 100, 105, 116, 111, 114]⟩, .string ⟨#[116, 101, 108, 108, 101, 114]⟩, .string ⟨#[104, 114]⟩, .string ⟨#[97]⟩, .string ⟨#[98]⟩, .string ⟨#[99, 50]⟩, .string ⟨#[120, 95, 49]⟩, .string ⟨#[99, 104, 105, 101, 102]⟩, .string ⟨#[110, 117, 114, 115, 101]⟩, .string ⟨#[97, 98, 99, 100, 101, 102, 103, 104, 105, 106, 107, 108]⟩, .string ⟨#[97, 98, 99, 100, 101, 102, 103, 104, 105, 106, 107, 108, 109]⟩, .string ⟨#[]⟩, .string ⟨#[65]⟩, .string ⟨#[50, 110, 100]⟩, .string ⟨#[95, 120]⟩, .string ⟨#[97, 45, 98]⟩, .string ⟨#[98, 121]⟩, .string ⟨#[117, 115, 101, 114, 115]⟩, .string ⟨#[97, 110, 100]⟩]
def wordAt (j : Nat) : ByteArray := match wordCells.getD j undef with | .string s => s | _ => ⟨#[]⟩
theorem word_cell (w : World) (j : Nat) (h : j < 20) : (w.alloc (.cells wordCells 9)).cell? ⟨w.heap.size, j, none⟩ = some (.string (wordAt j)) := by
  rw [World.cell?_alloc_at _ _ _ _ rfl]
  match j, h with
  | 0, _ | 1, _ | 2, _ | 3, _ | 4, _ | 5, _ | 6, _ | 7, _ | 8, _ | 9, _ | 10, _ | 11, _ | 12, _ | 13, _ | 14, _ | 15, _ | 16, _ | 17, _ | 18, _ | 19, _ => rfl
  | j + 20, h => omega
theorem word_size (j : Nat) (h : j < 20) : (wordAt j).size ≤ 16 := by
  match j, h with
  | 0, _ | 1, _ | 2, _ | 3, _ | 4, _ | 5, _ | 6, _ | 7, _ | 8, _ | 9, _ | 10, _ | 11, _ | 12, _ | 13, _ | 14, _ | 15, _ | 16, _ | 17, _ | 18, _ | 19, _ => exact (by decide)
  | j + 20, h => omega
theorem word_any (n : Int) (w : World) (h0 : 0 ≤ n) (h1 : n ≤ 255) :
    Calls Try.prog 21 #[.int .u8 n] w fun en w' => (∃ x, en = .returned (.string x) ∧ x.size ≤ 16) ∧ Below w.heap.size w w' := by
  obtain ⟨m, hm⟩ : ∃ m : Nat, n % 20 = (m : Int) := ⟨(n % 20).toNat, by omega⟩
  have hm2 : m < 20 := by omega
  have hc := word_cell w m hm2
  have hs := word_size m hm2
  generalize wordAt m = x at *
  go_enter Try.func21, Try.ntmps21
  go_wp2_with fail
  go_returns
  exact ⟨⟨_, rfl, hs⟩, by go_grown⟩

end Go.Proofs.Ytnjaflldlhiefaa
