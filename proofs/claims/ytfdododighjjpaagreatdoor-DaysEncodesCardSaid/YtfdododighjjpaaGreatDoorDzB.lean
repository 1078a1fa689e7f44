/- Contract: Parse. -/
import Derived.Test.YtfdododighjjpaaGreatDoorDzA
import Derived.Test.YtfdododighjjpaaGreatDoorDaP
import Derived.Lib.SmallJoins
import Derived.MapKept
namespace Go.Proofs.YtfdododighjjpaaGreatDoor.Dy
open Go.RowKit Go.PlainAid
set_option linter.unusedVariables false
set_option linter.unusedSimpArgs false
set_option maxHeartbeats 4000000
set_option maxRecDepth 20000

/-- What the library's tables, errors and variable hold, now and later. -/
structure Wz (w : World) : Prop where
  pow : Pow10 w
  syn : ∃ tp p, ∀ w', RowKit.Below w.heap.size w w' → w'.var? Tryz.prog "strconv.ErrSyntax" = some #[.iface tp p]
  rng : ∃ tp p, ∀ w', RowKit.Below w.heap.size w w' → w'.var? Tryz.prog "strconv.ErrRange" = some #[.iface tp p]
  mxl : ∃ m, w.cell? ⟨0, 0, none⟩ = some (.int .i64 m)
theorem Wz.below {w w' : World} (h : Wz w) (hb : RowKit.Below w.heap.size w w') : Wz w' where
  pow := fun u hu => h.pow u (hb.trans (hu.mono hb.size))
  syn := by obtain ⟨tp, p, k⟩ := h.syn; exact ⟨tp, p, fun u hu => k u (hb.trans (hu.mono hb.size))⟩
  rng := by obtain ⟨tp, p, k⟩ := h.rng; exact ⟨tp, p, fun u hu => k u (hb.trans (hu.mono hb.size))⟩
  mxl := by
    obtain ⟨m, hm⟩ := h.mxl
    exact ⟨m, (hb.cell (p := ⟨0, 0, none⟩) (World.block_lt_of_cell? _ _ hm)).trans hm⟩
theorem atoi_good (s : ByteArray) (hs : s.size ≤ 200000) (v : Int) (hq : Lib.atoiAll s.data.toList = .ok v) (w : World) :
    Calls Tryz.prog 34 #[.string s] w fun e w' => e = .returned (.tuple #[.int .i64 v, .nilIface]) ∧ RowKit.Below w.heap.size w w' := by
  refine (Tryz.strconv_Atoi_ok s (by omega) v hq w).mono ?_
  rintro e w' ⟨rfl, h⟩
  refine ⟨rfl, ?_⟩
  rcases h with rfl | ⟨t, rfl⟩
  · exact RowKit.Below.refl _ _
  · exact Joins.below_bytesWorld _ _ _ _ (Nat.le_refl _)
theorem atoi_bad (s : ByteArray) (hs : s.size ≤ 200000) (hq : ∀ v, Lib.atoiAll s.data.toList ≠ .ok v) (w : World) (h : Wz w) :
    Calls Tryz.prog 34 #[.string s] w fun e w' => ∃ v tp p, e = .returned (.tuple #[.int .i64 v, .iface tp p]) ∧ RowKit.Below w.heap.size w w' := by
  cases hq2 : Lib.atoiAll s.data.toList
  · exact absurd hq2 (hq _)
  · obtain ⟨tp, p, hv⟩ := h.syn
    refine (Any.strconv_Atoi_syntax_var Tryz.laysC172 s (by omega) hq2 tp p w (hv w (RowKit.Below.refl _ _))).mono ?_
    rintro e w' ⟨N, rfl, _, _, hb⟩
    exact ⟨_, _, _, rfl, hb⟩
  · obtain ⟨tp, p, hv⟩ := h.rng
    refine (Tryz.strconv_Atoi_range_var s (by omega) hq2 tp p w (hv w (RowKit.Below.refl _ _))).mono ?_
    rintro e w' ⟨N, rfl, _, _, hb⟩
    exact ⟨_, _, _, rfl, hb⟩
theorem lines_len (c : UInt8) : ∀ (l : List UInt8), ∀ y ∈ linesL c l, y.length ≤ l.length
  | [], y, hy => by simp [linesL] at hy; rw [hy]; exact Nat.le_refl _
  | b :: l, y, hy => by
    have ih := lines_len c l
    by_cases h : b = c
    · subst h
      rw [linesL_cut] at hy
      rcases List.mem_cons.1 hy with rfl | hy
      · simp
      · have := ih y hy
        rw [List.length_cons]; omega
    · obtain ⟨z, t, e⟩ := List.exists_cons_of_ne_nil (linesL_ne c l)
      rw [linesL_put h e] at hy
      rw [e] at ih
      rcases List.mem_cons.1 hy with rfl | hy
      · have := ih z (by simp)
        simp only [List.length_cons]; omega
      · have := ih y (by simp [hy])
        rw [List.length_cons]; omega
theorem cells_newS (w : World) (C : Array Value) (t : TypeId) : ∀ (j : Nat) (u : Value), C.toList[j]? = some u → (w.alloc (.cells C t)).cell? ⟨w.heap.size, j, none⟩ = some u := by
  intro j u hu
  have hj : C[j]? = some u := by simpa using hu
  have hb : (w.alloc (.cells C t)).heap[w.heap.size]? = some (.cells C t) := by show (w.heap.push (.cells C t))[w.heap.size]? = _; exact Array.getElem?_push_size
  unfold World.cell?
  rw [hb]; exact hj
theorem split_c (s : ByteArray) (w : World) (hm : Wz w) (hs : s.size ≤ 200000) :
    Calls Tryz.prog 31 #[.string s, .string ⟨#[44]⟩] w fun e w' => ∃ (m : Nat) (xs : List ByteArray), xs.length = m ∧ e = .returned (.slice (some ⟨w.heap.size, 0, none⟩) m m) ∧ (∀ (j : Nat) x, xs[j]? = some x → w'.cell? ⟨w.heap.size, j, none⟩ = some (.string x)) ∧ w.heap.size < w'.heap.size ∧ m ≤ 200001 ∧ xs.map (·.data.toList) = linesL 44 s.data.toList ∧ RowKit.Below w.heap.size w w' := by
  obtain ⟨m, hm⟩ := hm.mxl
  refine (Tryz.strings_Split s ⟨#[44]⟩ m w (by omega) hm (by decide)).mono ?_
  rintro e w' ⟨rfl, rfl⟩
  have hl := Lib.splitB_all ⟨#[44]⟩ (by decide) 0 _ s rfl
  have hle := Lib.countB_le ⟨#[44]⟩ (by decide) s.size s (Nat.le_refl _)
  refine ⟨_, Lib.splitB ⟨#[44]⟩ 0 (Lib.countB s ⟨#[44]⟩) s, hl, rfl, fun j x hx => ?_, by simp, by omega, ?_, (RowKit.Below.refl _ _).alloc (Nat.le_refl _) _⟩
  · have h2 : ((Lib.splitB ⟨#[44]⟩ 0 (Lib.countB s ⟨#[44]⟩) s).map Value.string)[j]? = some (.string x) := by rw [List.getElem?_map, hx]; rfl
    exact cells_newS w _ _ j (.string x) h2
  · rw [Lib.splitB_data]
    have hc : Lib.countB s ⟨#[44]⟩ = s.data.toList.count 44 := Lib.count_one 44 s.data.toList
    rw [hc]
    exact split_lines 44 _
theorem cut_c (x : ByteArray) (w : World) (hm : Wz w) (hs : x.size ≤ 200000) :
    Calls Tryz.prog 32 #[.string x, .string ⟨#[45]⟩] w fun e w' => e = .returned (.tuple #[.string ⟨(Lib.cut x.data.toList [45]).1.toArray⟩, .string ⟨(Lib.cut x.data.toList [45]).2.1.toArray⟩, .bool (Lib.cut x.data.toList [45]).2.2]) ∧ RowKit.Below w.heap.size w w' := by
  obtain ⟨m, hm⟩ := hm.mxl
  refine (Tryz.strings_Cut x ⟨#[45]⟩ m w (by omega) hm).mono ?_
  rintro e w' ⟨rfl, n, rfl⟩
  exact ⟨rfl, rfl, rfl, rfl, Nat.le_refl _, fun _ _ => rfl⟩
def ParseP (s : ByteArray) (w : World) (e : Ending) (w' : World) : Prop :=
  ((∃ r a n c, e = .returned (.tuple #[.agg #[.slice a n c], .int .i64 0]) ∧ Ds w' a n c r ∧ Can r ∧ textL r = s.data.toList) ∨
    (e = .returned (.tuple #[.agg #[.slice none 0 0], .int .i64 6]) ∧ ∀ r, Can r → textL r ≠ s.data.toList)) ∧ RowKit.Below w.heap.size w w'
end Go.Proofs.YtfdododighjjpaaGreatDoor.Dy
