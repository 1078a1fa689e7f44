/- Contracts in the laws' form: the text of a cube and its parsing; the first numbers of a slice. -/
import Derived.Test.YtadomogbakcokaaGreatDoorCvR
namespace Go.Proofs.YtadomogbakcokaaGreatDoor
open Go.RowKit Go.PlainAid
set_option linter.unusedVariables false
set_option linter.unusedSimpArgs false
set_option maxHeartbeats 2000000
set_option maxRecDepth 20000

theorem flat_litB (x : Cu) : ∀ l : List Nat, (l.flatMap (litB x)).length ≤ 2 * l.length
  | [] => by simp
  | r :: l => by
    have ih := flat_litB x l
    rw [List.flatMap_cons, List.length_append, List.length_cons]
    have : (litB x r).length ≤ 2 := by unfold litB; split <;> split <;> simp
    omega
theorem textC_len {x : Cu} (hx : CuOk x) : (textC x).length ≤ 50000 := by
  have h1 := inter_len (litsC x) (lits_small hx)
  have h2 : (litsC x).length ≤ 2 * (orL x.1 x.2).length := flat_litB x _
  have h3 : (orL x.1 x.2).length ≤ 4096 := asc_length (asc_or _ _)
  unfold textC
  split
  · simp
  · show (((litsC x).intersperse [32]).flatten).length ≤ _
    omega
theorem parse_yes (s : ByteArray) (x : Cu) (w : World) (hs : s.size ≤ 100000) (hx : Hid (parseL s.data.toList = x)) (ht : Hid (textC x = s.data.toList)) (hW : Wld w) :
    Calls Tryz.prog 31 #[.string s] w fun e w' => ∃ a n c b m d, e = .returned (.tuple #[.agg #[.slice a n c, .slice b m d], .int .i64 0]) ∧ Cb w' ⟨a, n, c, b, m, d⟩ x ∧ Below w.heap.size w w' := by
  have ex := hx.out
  subst ex
  refine (parseC_any s hs w hW).mono ?_
  rintro e w' ⟨h, hb⟩
  rw [if_pos ht.out] at h
  obtain ⟨a, n, c, b, m, d, rfl, hc⟩ := h
  exact ⟨a, n, c, b, m, d, rfl, hc, hb⟩
theorem parse_no (s : ByteArray) (w : World) (hs : s.size ≤ 100000) (hn : Hid (textC (parseL s.data.toList) ≠ s.data.toList)) (hW : Wld w) :
    Calls Tryz.prog 31 #[.string s] w fun e w' => e = .returned (.tuple #[.agg #[.slice none 0 0, .slice none 0 0], .int .i64 6]) ∧ Below w.heap.size w w' := by
  refine (parseC_any s hs w hW).mono ?_
  rintro e w' ⟨h, hb⟩
  rw [if_neg hn.out] at h
  exact ⟨h, hb⟩
theorem textC_t (a b : Option Addr) (n c m d : Nat) (x : Cu) (s : ByteArray) (w : World) (h : Cb w ⟨a, n, c, b, m, d⟩ x) (hs : Hid (s = ⟨(textC x).toArray⟩)) (hW : Wld w) :
    Calls Tryz.prog 32 #[.agg #[.slice a n c, .slice b m d]] w fun e w' => e = .returned (.string s) ∧ Below w.heap.size w w' := by
  rw [hs.out]
  exact textC_any a b n c m d x w h hW.tz hW.pow
theorem equalC_yes (a b a' b' : Option Addr) (n c m d n' c' m' d' : Nat) (x : Cu) (w : World) (h : Cb w ⟨a, n, c, b, m, d⟩ x) (k : Cb w ⟨a', n', c', b', m', d'⟩ x) :
    Calls Tryz.prog 29 #[.agg #[.slice a n c, .slice b m d], .agg #[.slice a' n' c', .slice b' m' d']] w (BoolPost w true) := by
  have := equalC_any a b a' b' n c m d n' c' m' d' x x w h k
  rwa [decide_eq_true rfl] at this
theorem of_first (a : Option Addr) (n cap : Nat) (zs : List Int) (l : List Nat) (w : World) (h : Iw w a n cap zs) (hn : n ≤ 20) (hl : Hid (ofL zs = l)) :
    Calls Tryz.prog 30 #[.slice a n cap] w (SetPost w l) := by
  have := of_any a n cap zs w h (by omega)
  rwa [hl.out] at this
theorem nil_cube (w : World) : Cb w ⟨none, 0, 0, none, 0, 0⟩ ([], []) := ⟨Bs.nil w, Bs.nil w⟩
theorem str_back {s : ByteArray} {l : List UInt8} (h : s = ⟨l.toArray⟩) : s.data.toList = l := by rw [h]
theorem parse_of_text {x : Cu} (hx : CuOk x) {s : ByteArray} (h : s = ⟨(textC x).toArray⟩) : parseL s.data.toList = x ∧ textC x = s.data.toList ∧ s.size ≤ 100000 := by
  have e := str_back h
  refine ⟨by rw [e]; exact parse_textC hx, e.symm, ?_⟩
  have := textC_len hx
  have : s.size = s.data.toList.length := rfl
  rw [e] at this; omega
/-- The value is the set l. -/
def StV (w : World) (v : Value) (l : List Nat) : Prop := ∃ a n c, v = .agg #[.slice a n c] ∧ Bs w a n c l
theorem StV.below {w w' : World} {v : Value} {l : List Nat} (h : StV w v l) (hb : Below w.heap.size w w') : StV w' v l := by
  obtain ⟨a, n, c, e, hs⟩ := h; exact ⟨a, n, c, e, hs.below hb⟩
theorem StV.set {w : World} {v : Value} {l : List Nat} {p : Addr} {u : Value} (h : StV w v l) (hp : w.cell? p = some (.slice none 0 0)) : StV (w.setCell p u) v l := by
  obtain ⟨a, n, c, e, hs⟩ := h; exact ⟨a, n, c, e, hs.set hp (fun z hz => by cases hz)⟩
theorem StV.elim {w : World} {v : Value} {l : List Nat} {C : Prop} (h : StV w v l) (k : ∀ a n c, v = .agg #[.slice a n c] → Bs w a n c l → C) : C := by
  obtain ⟨a, n, c, e, hs⟩ := h; exact k a n c e hs
theorem At2T.new (w : World) (x y : Value) (T : TypeId) : At2T (w.alloc (.cells #[x, y] T)) w.heap.size x y T := World.alloc_heap_new w _
/-- A slice of numbers is nil, or lies somewhere. -/
theorem Iw.shape {w : World} {a : Option Addr} {n cap : Nat} {zs : List Int} (h : Iw w a n cap zs) : a = none ∧ n = 0 ∧ cap = 0 ∨ ∃ b o, a = some ⟨b, o, none⟩ := by
  rcases h.2.2.2 with h4 | ⟨b, o, h4, _⟩
  · exact .inl h4
  · exact .inr ⟨b, o, h4⟩
end Go.Proofs.YtadomogbakcokaaGreatDoor
