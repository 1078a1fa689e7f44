/- Contracts of Split, Minus, Same and of the reference in the form that the laws' walks use. -/
import Derived.Test.YtadomogbakcokaaGreatDoorQgu
import Derived.Test.YtadomogbakcokaaGreatDoorCvO
namespace Go.Proofs.YtadomogbakcokaaGreatDoor
open Go.RowKit Go.PlainAid
set_option linter.unusedVariables false
set_option linter.unusedSimpArgs false
set_option maxHeartbeats 2000000

theorem rfit_c (r1 r2 : Nat) (r3 : Bool) (m1 m2 : Nat) (w : World) (hr : RxOk (r1, r2, r3)) (hm : Hid (fitM (r1, r2, r3) = (m1, m2))) :
    Calls Tryz.prog 26 #[.agg #[.int .u8 (r1 : Nat), .int .u8 (r2 : Nat), .bool r3]] w fun e w' => e = .returned (.agg #[.int .u64 (m1 : Nat), .int .u64 (m2 : Nat)]) ∧ Below w.heap.size w w' := by
  refine (rfit_any (r1, r2, r3) hr w).mono ?_
  rintro e w' ⟨rfl, hb⟩
  rw [hm.out]
  exact ⟨rfl, hb⟩
theorem split_some (a b : Option Addr) (n c m d : Nat) (al : Option Addr) (nl cl : Nat) (x : Cu) (l got : List Cu) (w : World) (h : Cb w ⟨a, n, c, b, m, d⟩ x) (hl : Cs w al nl cl l) (hT : Tz w) (hg : Hid (splitC x l = some got)) :
    Calls Tryz.prog 42 #[.agg #[.slice a n c, .slice b m d], .slice al nl cl] w fun e w' => ∃ a n c, e = .returned (.tuple #[.slice a n c, .int .i64 0]) ∧ Cs w' a n c got ∧ Below w.heap.size w w' := by
  refine (split_any a b n c m d al nl cl x l w h hl hT).mono ?_
  rintro e w' ⟨h, hb⟩
  rw [hg.out] at h
  obtain ⟨v, rfl, hc, _⟩ := h
  obtain ⟨a, c, rfl, hs⟩ := hc.len
  exact ⟨a, _, c, rfl, hs, hb⟩
theorem split_none (a b : Option Addr) (n c m d : Nat) (al : Option Addr) (nl cl : Nat) (x : Cu) (l : List Cu) (w : World) (h : Cb w ⟨a, n, c, b, m, d⟩ x) (hl : Cs w al nl cl l) (hT : Tz w) (hg : Hid (splitC x l = none)) :
    Calls Tryz.prog 42 #[.agg #[.slice a n c, .slice b m d], .slice al nl cl] w fun e w' => e = .returned (.tuple #[.slice none 0 0, .int .i64 3]) ∧ Below w.heap.size w w' := by
  refine (split_any a b n c m d al nl cl x l w h hl hT).mono ?_
  rintro e w' ⟨h, hb⟩
  rw [hg.out] at h
  exact ⟨h, hb⟩
theorem rsplit_some (c1 c2 : Nat) (al : Option Addr) (nl cl : Nat) (l got : List Mc) (w : World) (hc : McOk (c1, c2)) (hl : Ms w al nl cl l) (hg : Hid (splitM (c1, c2) l = some got)) :
    Calls Tryz.prog 50 #[.agg #[.int .u64 (c1 : Nat), .int .u64 (c2 : Nat)], .slice al nl cl] w fun e w' => ∃ a n c, e = .returned (.tuple #[.slice a n c, .int .i64 0]) ∧ Ms w' a n c got ∧ Below w.heap.size w w' := by
  refine (rsplitC_any (c1, c2) hc al nl cl l w hl).mono ?_
  rintro e w' ⟨h, hb⟩
  rw [hg.out] at h
  obtain ⟨v, rfl, hm, _⟩ := h
  obtain ⟨a, c, rfl, hs⟩ := hm.len
  exact ⟨a, _, c, rfl, hs, hb⟩
theorem rsplit_none (c1 c2 : Nat) (al : Option Addr) (nl cl : Nat) (l : List Mc) (w : World) (hc : McOk (c1, c2)) (hl : Ms w al nl cl l) (hg : Hid (splitM (c1, c2) l = none)) :
    Calls Tryz.prog 50 #[.agg #[.int .u64 (c1 : Nat), .int .u64 (c2 : Nat)], .slice al nl cl] w fun e w' => e = .returned (.tuple #[.slice none 0 0, .int .i64 3]) ∧ Below w.heap.size w w' := by
  refine (rsplitC_any (c1, c2) hc al nl cl l w hl).mono ?_
  rintro e w' ⟨h, hb⟩
  rw [hg.out] at h
  exact ⟨h, hb⟩
theorem same_yes (a b : Option Addr) (n cap m dap : Nat) (l : List Cu) (r : List Mc) (w : World) (h : Cs w a n cap l) (k : Ms w b m dap r) (hT : Tz w) (he : Hid (l = r.map cuM)) :
    Calls Tryz.prog 39 #[.slice a n cap, .slice b m dap] w (BoolPost w true) := by
  have h1 := same_any a b n cap m dap l r w h k hT
  rw [show sameL l r = true from decide_eq_true he.out] at h1
  exact h1
theorem ms_nil (w : World) : Ms w none 0 0 [] := ⟨Dk.nil _ _ _ _ (by omega), fun c hc => by cases hc⟩
theorem covered_t (a b : Option Addr) (n c m d : Nat) (al : Option Addr) (nl cl : Nat) (x : Cu) (l : List Cu) (t : Bool) (w : World) (h : Cb w ⟨a, n, c, b, m, d⟩ x) (hl : Cs w al nl cl l) (hT : Tz w) (ht : Hid (coveredC l x = t)) :
    Calls Tryz.prog 51 #[.agg #[.slice a n c, .slice b m d], .slice al nl cl] w (BoolPost w t) := by
  rw [← ht.out]; exact covered_any a b n c m d al nl cl x l w h hl hT
theorem rcovered_t (c1 c2 : Nat) (al : Option Addr) (nl cl : Nat) (l : List Mc) (t : Bool) (w : World) (hc : McOk (c1, c2)) (hl : Ms w al nl cl l) (ht : Hid (coveredM (c1, c2) l = t)) :
    Calls Tryz.prog 52 #[.agg #[.int .u64 (c1 : Nat), .int .u64 (c2 : Nat)], .slice al nl cl] w (BoolPost w t) := by
  rw [← ht.out]; exact rcovered_any (c1, c2) hc al nl cl l w hl
theorem boxR {w wr : World} {x y z : Value} {T : TypeId} (h : Below (w.alloc (.cells #[x, y, z] T)).heap.size (w.alloc (.cells #[x, y, z] T)) wr) : wr.cell? ⟨w.heap.size, 0, none⟩ = some x ∧ wr.cell? ⟨w.heap.size, 1, none⟩ = some y ∧ wr.cell? ⟨w.heap.size, 2, none⟩ = some z ∧ Below w.heap.size w wr :=
  ⟨(h.cell (p := ⟨w.heap.size, 0, none⟩) (by simp)).trans (by simp), (h.cell (p := ⟨w.heap.size, 1, none⟩) (by simp)).trans (by simp), (h.cell (p := ⟨w.heap.size, 2, none⟩) (by simp)).trans (by simp), bel1 h⟩
/-- Nothing is left exactly where the list covers the cube. -/
theorem split_covered {c : Cu} {l got : List Cu} (hc : CuOk c) (hl : ∀ x ∈ l, CuOk x) (h : splitC c l = some got) : coveredC l c = decide (got = []) := by
  obtain ⟨g1, g2⟩ := split_law hc hl h
  rw [Bool.eq_iff_iff, covered_law l c hc hl, decide_eq_true_iff]
  constructor
  · intro hcov
    cases got with
    | nil => rfl
    | cons x r =>
      exfalso
      have hx := g1 x (by simp)
      have hs := nonempty_sat hx.2.1
      have h2 := g2 (fun y => decide (y ∈ x.1))
      rw [cnt_cons, hs, if_pos rfl, hx.2.2.sat hs, hcov _ (hx.2.2.sat hs)] at h2
      simp at h2
  · intro hnil S hs
    have h2 := g2 S
    rw [hnil, cnt_nil, hs] at h2
    cases hsl : sats l S with
    | true => rfl
    | false => rw [hsl] at h2; simp at h2
theorem len_dec {α : Type} {l : List α} {n : Nat} (h : l.length = n) {t : Bool} (ht : decide (l = []) = t) : ((n : Int) == 0) = t := by
  rw [← ht, Bool.eq_iff_iff, beq_iff_eq, decide_eq_true_iff]
  refine ⟨fun e => List.eq_nil_of_length_eq_zero (by omega), fun e => ?_⟩
  rw [e] at h; simp at h; omega
theorem some_sats (l : List Cu) (s : List Nat) : someC l s = sats l (fun x => decide (x ∈ s)) := by
  unfold someC sats
  rw [Bool.eq_iff_iff, List.any_eq_true, List.any_eq_true]
  constructor
  · rintro ⟨x, h1, h2⟩; exact ⟨x, h1, by rw [← sat_holds]; exact h2⟩
  · rintro ⟨x, h1, h2⟩; exact ⟨x, h1, by rw [sat_holds]; exact h2⟩
theorem map_ok {l : List Mc} : ∀ x ∈ l.map cuM, CuOk x := by
  intro x hx
  obtain ⟨c, _, rfl⟩ := List.mem_map.1 hx
  exact cuM_ok c
/-- One cell of a block. -/
def At1 (W : World) (g : Nat) (x : Value) : Prop := W.cell? ⟨g, 0, none⟩ = some x ∧ g < W.heap.size
theorem At1.below {W W' : World} {g : Nat} {x : Value} (h : At1 W g x) (hb : Below W.heap.size W W') : At1 W' g x := ⟨(hb.cell (p := ⟨g, 0, none⟩) h.2).trans h.1, Nat.lt_of_lt_of_le h.2 hb.size⟩
theorem At1.new (w : World) (x : Value) (T : TypeId) : At1 (w.alloc (.cells #[x] T)) w.heap.size x := ⟨by simp, by simp⟩
theorem within_t (a b a' b' : Option Addr) (n c m d n' c' m' d' : Nat) (x y : Cu) (t : Bool) (w : World) (h : Cb w ⟨a, n, c, b, m, d⟩ x) (k : Cb w ⟨a', n', c', b', m', d'⟩ y) (ht : Hid (withinC x y = t)) :
    Calls Tryz.prog 37 #[.agg #[.slice a n c, .slice b m d], .agg #[.slice a' n' c', .slice b' m' d']] w (BoolPost w t) := by
  rw [← ht.out]; exact withinC_any a b a' b' n c m d n' c' m' d' x y w h k
theorem holds_t (a b e : Option Addr) (n c m d k f : Nat) (x : Cu) (s : List Nat) (t : Bool) (w : World) (h : Cb w ⟨a, n, c, b, m, d⟩ x) (hs : Bs w e k f s) (ht : Hid (holdsC x s = t)) :
    Calls Tryz.prog 17 #[.agg #[.slice a n c, .slice b m d], .agg #[.slice e k f]] w (BoolPost w t) := by
  rw [← ht.out]; exact holdsC_any a b e n c m d k f x s w h hs
theorem empty_t (a b : Option Addr) (n c m d : Nat) (x : Cu) (t : Bool) (w : World) (h : Cb w ⟨a, n, c, b, m, d⟩ x) (ht : Hid (emptyC x = t)) :
    Calls Tryz.prog 21 #[.agg #[.slice a n c, .slice b m d]] w (BoolPost w t) := by
  rw [← ht.out]; exact emptyC_any a b n c m d x w h
theorem some_t (a e : Option Addr) (n cap k f : Nat) (l : List Cu) (s : List Nat) (t : Bool) (w : World) (h : Cs w a n cap l) (hs : Bs w e k f s) (ht : Hid (someC l s = t)) :
    Calls Tryz.prog 23 #[.slice a n cap, .agg #[.slice e k f]] w (BoolPost w t) := by
  rw [← ht.out]; exact someC_any a e n cap k f l s w h hs
theorem rsome_t (a : Option Addr) (n cap : Nat) (l : List Mc) (s : Nat) (t : Bool) (w : World) (hs : s < 18446744073709551616) (h : Ms w a n cap l) (ht : Hid (someM l s = t)) :
    Calls Tryz.prog 25 #[.slice a n cap, .int .u64 (s : Nat)] w (BoolPost w t) := by
  rw [← ht.out]; exact rsome_any a n cap l s hs w h
theorem u64_of {o : Int} (h : (Lit.int .u64 o).wf = true) : ∃ m : Nat, o = m ∧ m < 18446744073709551616 := by
  have := bounds_u64 h
  exact ⟨o.toNat, by omega, by omega⟩
end Go.Proofs.YtadomogbakcokaaGreatDoor
