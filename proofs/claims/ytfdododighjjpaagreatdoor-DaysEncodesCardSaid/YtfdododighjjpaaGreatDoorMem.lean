/- Memory: what a slice value reads as; texts of strings. No program in sight. -/
import Derived.Handy
import Derived.PlainAid
import Derived.Lib.Hide
import Derived.Lib.Strings
import Derived.WalkSmall
namespace Go.Proofs.YtfdododighjjpaaGreatDoor
open Go.RowKit Go.PlainAid
set_option linter.unusedVariables false

/-- The slice value v has n elements of 'size' cells each; they hold xs. -/
def Sl (w : World) (v : Value) (n size : Nat) (xs : List Value) : Prop :=
  xs.length = n * size ∧ ∃ a cap, v = .slice a n cap ∧ n ≤ cap ∧ cap ≤ maxLen ∧
    (n = 0 ∨ ∃ b o, a = some ⟨b, o, none⟩ ∧ b < w.heap.size ∧ ∀ j, j < n * size → w.cell? ⟨b, o + j, none⟩ = some (xs.getD j undef))

theorem Sl.below {w w' : World} {v : Value} {n size : Nat} {xs : List Value} (h : Sl w v n size xs) (hb : Below w.heap.size w w') : Sl w' v n size xs := by
  obtain ⟨h1, a, cap, hv, hc, hm, h2⟩ := h
  refine ⟨h1, a, cap, hv, hc, hm, ?_⟩
  rcases h2 with h2 | ⟨b, o, ha, hlt, h3⟩
  · exact .inl h2
  · exact .inr ⟨b, o, ha, Nat.lt_of_lt_of_le hlt hb.size, fun j hj => (hb.cell (p := ⟨b, o + j, none⟩) hlt).trans (h3 j hj)⟩

theorem Sl.owned {w : World} {base : Nat} {e : TypeId} {size : Nat} {v : Value} {n : Nat} {xs : List Value} (h : w.ownsRow base e size v n xs) : Sl w v n size xs := by
  obtain ⟨h1, h2⟩ := h
  refine ⟨h1, ?_⟩
  rcases h2 with ⟨rfl, rfl⟩ | ⟨g, cap, cur, rfl, hg, hh, hc, hm, hs, ht⟩
  · exact ⟨none, 0, rfl, Nat.le_refl _, Nat.zero_le _, .inl rfl⟩
  · refine ⟨_, _, rfl, hc, hm, .inr ⟨g, 0, rfl, (Array.getElem?_eq_some_iff.1 hh).1, fun j hj => ?_⟩⟩
    have : w.cell? ⟨g, j, none⟩ = cur[j]? := cell_of_row w g j cur e (0, 0) hh
    rw [Nat.zero_add, this, ← ht]
    have hj2 : j < cur.size := by rw [hs]; exact Nat.lt_of_lt_of_le hj (Nat.mul_le_mul_right _ hc)
    rw [List.getD_eq_getElem?_getD, List.getElem?_take_of_lt hj]
    simp [hj2]


theorem owns_below {w0 w2 : World} {base size n N : Nat} {e : TypeId} {v : Value} {xs : List Value} (h : w0.ownsRow base e size v n xs) (hN : w0.heap.size ≤ N) (hb : Below N w0 w2) : w2.ownsRow base e size v n xs := by
  refine ⟨h.1, ?_⟩
  rcases h.2 with hn | ⟨g, cap, cur, rfl, hg, hgg, r⟩
  · exact .inl hn
  · exact .inr ⟨g, cap, cur, rfl, hg, by rw [hb.block g (by have := (Array.getElem?_eq_some_iff.1 hgg).1; omega)]; exact hgg, r⟩
theorem owns_set {w : World} {base size n : Nat} {e : TypeId} {v : Value} {xs : List Value} (h : w.ownsRow base e size v n xs) {a : Addr} (hne : ∀ b, v.ownBlock = some b → b ≠ a.block) (u : Value) : (w.setCell a u).ownsRow base e size v n xs := by
  refine ⟨h.1, ?_⟩
  rcases h.2 with hn | ⟨g, cap, cur, rfl, hg, hgg, r⟩
  · exact .inl hn
  · exact .inr ⟨g, cap, cur, rfl, hg, by rw [Below.heap_setCell _ _ _ _ (hne g rfl)]; exact hgg, r⟩
/-- A block laid after the row: the row is owned behind a callee and four stores into that block. -/
theorem owns_four {wr w2 : World} {base size n : Nat} {e : TypeId} {v : Value} {xs : List Value} {o : Obj} (h : wr.ownsRow base e size v n xs) (hb : Below (wr.alloc o).heap.size (wr.alloc o) w2) (a b c d : Value) :
    ((((w2.setCell ⟨wr.heap.size, 0, none⟩ a).setCell ⟨wr.heap.size, 1, none⟩ b).setCell ⟨wr.heap.size, 2, none⟩ c).setCell ⟨wr.heap.size, 3, none⟩ d).ownsRow base e size v n xs := by
  have h1 := owns_below (h.alloc o) (Nat.le_refl _) hb
  have hne : ∀ b, v.ownBlock = some b → b ≠ wr.heap.size := fun b hb => by have := (h.lt b hb).2; omega
  exact owns_set (owns_set (owns_set (owns_set h1 hne _) hne _) hne _) hne _

theorem keep1 {w : World} {b i : Nat} {v : Value} (h : b < w.heap.size) (hc : w.cell? ⟨b, i, none⟩ = some v) (o1 : Obj) : (w.alloc o1).drew.cell? ⟨b, i, none⟩ = some v := by
  show (w.alloc o1).cell? _ = _
  rw [World.cell?_alloc_lt _ _ _ h]; exact hc
theorem keep2 {w : World} {b i : Nat} {v : Value} (h : b < w.heap.size) (hc : w.cell? ⟨b, i, none⟩ = some v) (o1 o2 : Obj) : ((w.alloc o1).alloc o2).drew.cell? ⟨b, i, none⟩ = some v := by
  show ((w.alloc o1).alloc o2).cell? _ = _
  rw [World.cell?_alloc_lt _ _ _ (by simp; omega), World.cell?_alloc_lt _ _ _ h]; exact hc
theorem keep3 {w : World} {b i : Nat} {v : Value} (h : b < w.heap.size) (hc : w.cell? ⟨b, i, none⟩ = some v) (o1 o2 o3 : Obj) : (((w.alloc o1).alloc o2).alloc o3).drew.cell? ⟨b, i, none⟩ = some v := by
  show (((w.alloc o1).alloc o2).alloc o3).cell? _ = _
  rw [World.cell?_alloc_lt _ _ _ (by simp; omega), World.cell?_alloc_lt _ _ _ (by simp; omega), World.cell?_alloc_lt _ _ _ h]; exact hc

/-- A block of four known cells. -/
def Blk4 (w : World) (g : Nat) (a b c d : Value) : Prop :=
  w.cell? ⟨g, 0, none⟩ = some a ∧ w.cell? ⟨g, 1, none⟩ = some b ∧ w.cell? ⟨g, 2, none⟩ = some c ∧ w.cell? ⟨g, 3, none⟩ = some d ∧
  w.frozen? ⟨g, 0, none⟩ = false ∧ w.frozen? ⟨g, 1, none⟩ = false ∧ w.frozen? ⟨g, 2, none⟩ = false ∧ w.frozen? ⟨g, 3, none⟩ = false ∧ g + 1 ≤ w.heap.size
theorem Blk4.new (w : World) (a b c d : Value) (T : TypeId) : Blk4 (w.alloc (.cells #[a, b, c, d] T)) w.heap.size a b c d := by
  refine ⟨?_, ?_, ?_, ?_, ?_, ?_, ?_, ?_, ?_⟩ <;> simp
theorem Blk4.below {w w' : World} {g N : Nat} {a b c d : Value} (h : Blk4 w g a b c d) (hb : Below N w w') (hg : g < N) : Blk4 w' g a b c d := by
  obtain ⟨h0, h1, h2, h3, f0, f1, f2, f3, hs⟩ := h
  have hz := hb.size
  exact ⟨(hb.cell (p := ⟨g, 0, none⟩) hg).trans h0, (hb.cell (p := ⟨g, 1, none⟩) hg).trans h1, (hb.cell (p := ⟨g, 2, none⟩) hg).trans h2, (hb.cell (p := ⟨g, 3, none⟩) hg).trans h3,
    (hb.frozen (p := ⟨g, 0, none⟩) hg).trans f0, (hb.frozen (p := ⟨g, 1, none⟩) hg).trans f1, (hb.frozen (p := ⟨g, 2, none⟩) hg).trans f2, (hb.frozen (p := ⟨g, 3, none⟩) hg).trans f3, by omega⟩
theorem Blk4.set2 {w : World} {g : Nat} {a b c d : Value} (h : Blk4 w g a b c d) (c' : Value) : Blk4 (w.setCell ⟨g, 2, none⟩ c') g a b c' d := by
  obtain ⟨h0, h1, h2, h3, f0, f1, f2, f3, hs⟩ := h
  refine ⟨?_, ?_, World.cell?_setCell_same _ _ _ h2, ?_, ?_, ?_, ?_, ?_, by simpa using hs⟩
  · rw [World.cell?_setCell_other _ _ _ _ (by simp)]; exact h0
  · rw [World.cell?_setCell_other _ _ _ _ (by simp)]; exact h1
  · rw [World.cell?_setCell_other _ _ _ _ (by simp)]; exact h3
  · rw [World.frozen?_setCell]; exact f0
  · rw [World.frozen?_setCell]; exact f1
  · rw [World.frozen?_setCell]; exact f2
  · rw [World.frozen?_setCell]; exact f3
theorem Blk4.drew {w : World} {g : Nat} {a b c d : Value} (h : Blk4 w g a b c d) : Blk4 w.drew g a b c d := h

theorem bytesRow_get (s : ByteArray) (cap j : Nat) (h : j < s.size) : (bytesRow s cap)[j]? = some (.int .u8 (bt s j)) := by
  unfold bytesRow
  rw [Array.getElem?_append_left (by simpa using h)]
  have h' : j < s.data.size := h
  rw [Array.getElem?_map, Array.getElem?_eq_getElem h', ← get_bt s j h]
  rfl

/-- '[]byte(s)' of a string: a new block with the bytes. -/
theorem conv_bytes {P : Program} (src dst e : TypeId) (hs : P.underlying src = some .string) (hd : P.underlying dst = some (.slice e)) (he : P.underlying e = some (.int .u8)) (w : World) (s : ByteArray) :
    ∃ cp C mk, (convert src dst (.string s)).run P w = .ok (.slice (some ⟨w.heap.size, 0, none⟩) s.size cp) ((w.alloc (.cells C e mk)).drew) ∧ s.size ≤ cp ∧
      ∀ j, j < s.size → (w.alloc (.cells C e mk)).cell? ⟨w.heap.size, j, none⟩ = some (.int .u8 (bt s j)) := by
  refine ⟨_, _, _, run_bytes_of_string w src dst e s hs hd he, grownCap_ge _ _ _ _, fun j hj => ?_⟩
  rw [World.cell?_alloc_mark]
  exact bytesRow_get s _ j hj

theorem bt_ext (s : ByteArray) (a b j : Nat) (h : a + j < b) (hb : b ≤ s.size) : bt (s.extract a b) j = bt s (a + j) := by
  have h1 : j < (s.extract a b).size := by simp; omega
  rw [← get_bt _ j h1, ← get_bt s (a + j) (by omega)]
  rw [ByteArray.getElem_extract]

/-- The bytes of a cut string. -/
theorem ext_list (s : ByteArray) (a b : Nat) : (s.extract a b).data.toList = (s.data.toList.drop a).take (b - a) := by
  simp [ByteArray.data_extract, List.extract_eq_take_drop]
theorem str_list (s : ByteArray) : (⟨s.data.toList.toArray⟩ : ByteArray) = s := rfl
theorem str_eq {s : ByteArray} {l : List UInt8} (h : s.data.toList = l) : s = ⟨l.toArray⟩ := by rw [← h]

end Go.Proofs.YtfdododighjjpaaGreatDoor
