/- Contracts: names.Keywords, names.Valid, the reader's Name. -/
import Derived.Test.YtnjaflldlhiefaaTkS
import Derived.Test.YtnjaflldlhiefaaShC
namespace Go.Proofs.Ytnjaflldlhiefaa
open Go.RowKit Go.PlainAid
set_option linter.unusedVariables false
set_option linter.unusedSimpArgs false
set_option maxHeartbeats 1000000

def kwds : List ByteArray := [⟨#[97, 108, 108]⟩, ⟨#[97, 110, 100]⟩, ⟨#[97, 115, 115, 105, 103, 110]⟩, ⟨#[98, 121]⟩, ⟨#[99, 111, 117, 110, 116]⟩, ⟨#[100, 101, 99, 108, 97, 114, 101]⟩, ⟨#[100, 121, 110, 97, 109, 105, 99]⟩, ⟨#[101, 110, 102, 111, 114, 99, 101]⟩, ⟨#[102, 97, 108, 115, 101]⟩, ⟨#[102, 111, 114]⟩, ⟨#[105, 102]⟩, ⟨#[109, 101, 109, 98, 101, 114, 115]⟩, ⟨#[110, 111, 110, 101]⟩, ⟨#[110, 111, 116]⟩, ⟨#[111, 110]⟩, ⟨#[111, 114]⟩, ⟨#[114, 101, 118, 111, 107, 101]⟩, ⟨#[115, 116, 97, 116, 105, 99]⟩, ⟨#[116, 114, 117, 101]⟩, ⟨#[117, 115, 101, 114, 115]⟩]

theorem keywords_any (w : World) :
    Calls Try.prog 24 #[] w fun en w' => ∃ b, en = .returned (.slice (some ⟨b, 0, none⟩) 20 20) ∧ Below w.heap.size w w' ∧ w.heap.size ≤ b ∧ b < w'.heap.size ∧
      ∀ j, j < kwds.length → w'.cell? ⟨b, 0 + j, none⟩ = some (.string (kwds.getD j ByteArray.empty)) := by
  go_enter Try.func24, Try.ntmps24
  go_wp2_with fail
  go_returns
  refine ⟨w.heap.size, rfl, by go_grown, Nat.le_refl _, by simp, fun j hj => ?_⟩
  rw [World.cell?_alloc_at _ _ _ _ rfl]
  rw [Nat.zero_add]
  show (kwds.map Value.string).toArray[j]? = _
  rw [List.getElem?_toArray, List.getElem?_map, List.getD_eq_getElem?_getD, List.getElem?_eq_getElem hj]
  rfl

theorem vletter_any (c : Int) (w : World) : Calls Try.prog 52 #[.int .u8 c] w fun en w' => en = .returned (.bool (letB c)) ∧ w = w' := by
  unfold letB
  by_cases h1 : 97 ≤ c
  · go_enter Try.func52, Try.ntmps52
    go_wp2_with fail
    go_returns
    exact ⟨ret_bool (by simp [h1]), rfl⟩
  · have h2 : decide (97 ≤ c) = false := decide_eq_false h1
    go_enter Try.func52, Try.ntmps52
    go_wp2_with fail
    go_returns
    exact ⟨ret_bool (by simp [h1]), rfl⟩

theorem vinner_any (c : Int) (w : World) (q : Nat) (hq : w.cell? ⟨q, 0, none⟩ = some (.func (.func 52) #[] #[])) : Calls Try.prog 53 #[.int .u8 c, .pointer (some ⟨q, 0, none⟩)] w fun en w' => en = .returned (.bool (innB c)) ∧ w = w' := by
  unfold innB
  have hl := Lib.hid (fun v => vletter_any c v)
  generalize letB c = b at *
  cases b
  · unfold digB
    by_cases h1 : 48 ≤ c
    · by_cases h2 : c ≤ 57
      · go_enter Try.func53, Try.ntmps53
        go_wp2_with (go_at_call 52; refine (hl.out _).mono ?_; rintro en w2 ⟨rfl, rfl⟩)
        go_returns
        exact ⟨ret_bool (by simp [h1, h2]), rfl⟩
      · have h3 : decide (c ≤ 57) = false := decide_eq_false h2
        go_enter Try.func53, Try.ntmps53
        go_wp2_with (go_at_call 52; refine (hl.out _).mono ?_; rintro en w2 ⟨rfl, rfl⟩)
        go_returns
        exact ⟨ret_bool (by rw [h3]; by_cases h9 : c = 95 <;> simp [h9]), rfl⟩
    · have h2 : decide (48 ≤ c) = false := decide_eq_false h1
      go_enter Try.func53, Try.ntmps53
      go_wp2_with (go_at_call 52; refine (hl.out _).mono ?_; rintro en w2 ⟨rfl, rfl⟩)
      go_returns
      exact ⟨ret_bool (by rw [h2]; by_cases h9 : c = 95 <;> simp [h9]), rfl⟩
  · go_enter Try.func53, Try.ntmps53
    go_wp2_with (go_at_call 52; refine (hl.out _).mono ?_; rintro en w2 ⟨rfl, rfl⟩)
    go_returns
    exact ⟨ret_bool (by simp), rfl⟩

def kwB (s : ByteArray) : Bool := Lib.containsS kwds s
def validB (s : ByteArray) : Bool := decide (1 ≤ s.size) && decide (s.size ≤ 12) && !kwB s && letB (bt s 0) && (List.range s.size).all fun j => innB (bt s j)

theorem contains_kw (b : Nat) (s : ByteArray) (w : World) (hc : ∀ j, j < kwds.length → w.cell? ⟨b, 0 + j, none⟩ = some (.string (kwds.getD j ByteArray.empty))) :
    Calls Try.prog 23 #[.slice (some ⟨b, 0, none⟩) 20 20, .string s] w fun en w' => en = .returned (.bool (kwB s)) ∧ w = w' :=
  (Try.slices_Contains_string b 0 20 20 kwds s w (by decide) (by omega) hc).mono fun _ _ ⟨h, k⟩ => ⟨h, k.symm⟩

theorem vset {s : ByteArray} (h1 : 1 ≤ s.size) (h2 : s.size ≤ 12) (hk : kwB s = false) : validB s = (letB (bt s 0) && (List.range s.size).all fun j => innB (bt s j)) := by
  unfold validB; simp [h1, h2, hk]

end Go.Proofs.Ytnjaflldlhiefaa
