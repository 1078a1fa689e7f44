/- slices.SortFunc of spans at this seat: what the caller has after it. -/
import Derived.Test.YtfdododighjjpaaGreatDoorDaC
import Derived.Test.YtfdododighjjpaaGreatDoorDaB
import Derived.Shelf.SlSortCmp.WholeK
import Derived.Shelf.SlSortCmp.NoneTotal
import Derived.Shelf.SlicesG.Cmp
namespace Go.Proofs.YtfdododighjjpaaGreatDoor.Dy
open Go.Shelf Go.RowKit Go.PlainAid Go.Sort
set_option linter.unusedVariables false
set_option linter.unusedSimpArgs false
set_option maxHeartbeats 1000000

theorem Os.stored {T : TypeId} {w : World} {base g cap : Nat} {acc : List (Int × Int)} {p : Int × Int} (h : Os T w base (.slice (some ⟨g, 0, none⟩) (acc.length + 1) cap) (acc ++ [p])) (y : Int) :
    Os T (w.setCell ⟨g, acc.length * 2 + 1, none⟩ (.int .i64 y)) base (.slice (some ⟨g, 0, none⟩) (acc.length + 1) cap) (acc ++ [(p.1, y)]) := by
  have hl : (acc ++ [p]).length = acc.length + 1 := by simp
  have hl2 : (acc ++ [(p.1, y)]).length = acc.length + 1 := by simp
  unfold Os at h ⊢
  rw [hl] at h
  rw [hl2]
  have := (World.ownsRow.stored h (acc.length * 2 + 1) (.int .i64 y)).1
  rw [flatS_append] at this ⊢
  rw [List.set_append_right _ _ (by rw [flatS_length]; omega), flatS_length] at this
  rw [show acc.length * 2 + 1 - acc.length * 2 = 1 from by omega] at this
  exact this

theorem holds_of_ds {w : World} {g n cap : Nat} {l : List (Int × Int)} (h : Ds w (some ⟨g, 0, none⟩) n cap l) (hf : ∀ j, w.frozen? ⟨g, j, none⟩ = false) : HoldsK spV 2 w g 0 l.toArray := by
  intro j hj
  rw [size_flatK, List.size_toArray] at hj
  refine ⟨?_, hf _⟩
  rw [get_flatK _ _ _ _ (by rw [List.size_toArray]; exact hj)]
  obtain ⟨h1, h2, h3, h4⟩ := h
  rcases h4 with h4 | ⟨b, o, ha, hb, hc⟩
  · omega
  · cases ha
    obtain ⟨p, hp⟩ : ∃ p, l[j / 2]? = some p := ⟨_, List.getElem?_eq_getElem (by omega)⟩
    obtain ⟨c1, c2⟩ := hc _ p hp
    have hp2 : l.toArray[j / 2]! = p := by
      rw [getElem!_def, List.getElem?_toArray, hp]
    rw [hp2]
    rcases Nat.mod_two_eq_zero_or_one j with h | h
    · rw [h, show 0 + j = 0 + j / 2 * 2 from by omega, c1]; rfl
    · rw [h, show 0 + j = 0 + j / 2 * 2 + 1 from by omega, c2]; rfl
theorem ds_of_holds {w : World} {g n cap : Nat} {d : Array (Int × Int)} (h : HoldsK spV 2 w g 0 d) (hn : d.size = n) (hc : n ≤ cap) (hm : cap ≤ maxLen) (hg : g < w.heap.size) : Ds w (some ⟨g, 0, none⟩) n cap d.toList := by
  refine ⟨by rw [Array.length_toList, hn], hc, hm, .inr ⟨g, 0, rfl, hg, fun j p hp => ?_⟩⟩
  have hj : j < d.size := by have := (List.getElem?_eq_some_iff.1 hp).1; rwa [Array.length_toList] at this
  have hp2 : d[j]! = p := by
    rw [getElem!_def]
    rw [Array.getElem?_toList] at hp
    rw [hp]
  have c0 := (h.cell (i := j) (c := 0) hj (by omega)).1
  have c1 := (h.cell (i := j) (c := 1) hj (by omega)).1
  rw [hp2] at c0 c1
  exact ⟨c0, c1⟩
theorem below_sort {N : Nat} {w w1 : World} {g n : Nat} {d : Array (Int × Int)} {os : Array Obj} (h : RowKit.Below N w w1) (hg : N ≤ g) (hN : N ≤ w1.heap.size) : RowKit.Below N w (sortWorldK spV 2 w1 g 0 n d os) := by
  refine h.trans ⟨rfl, rfl, rfl, ?_, fun k hk => ?_⟩
  · unfold sortWorldK
    rw [size_grow]
    simp [putRowK, putRow, mapBlock, Sort.ahead]
  · unfold sortWorldK grow putRowK putRow mapBlock Sort.ahead
    dsimp only
    rw [Array.getElem?_append_left (by simp; omega), Array.getElem?_modify]
    rw [if_neg (by omega)]

/-- The closure's order. -/
theorem ltLo (x y : Int × Int) : ltOf (fun x y : Int × Int => Lib.compareInt x.1 y.1) x y = decide (x.1 < y.1) := by
  unfold ltOf Lib.compareInt
  by_cases h1 : x.1 < y.1
  · simp [h1]
  · by_cases h2 : y.1 < x.1 <;> simp [h1, h2]
theorem swoLo : SWO (ltOf fun x y : Int × Int => Lib.compareInt x.1 y.1) where
  irrefl x := by rw [ltLo]; simp
  trans x y z h1 h2 := by rw [ltLo] at *; simp at *; omega
  ntrans x y z h1 h2 := by rw [ltLo] at *; simp at *; omega
theorem sorted_list {d : Array (Int × Int)} {n : Nat} (hn : d.size = n) (h : SortedIn (ltOf fun x y : Int × Int => Lib.compareInt x.1 y.1) 0 n d) : d.toList.Pairwise fun p q => p.1 ≤ q.1 := by
  rw [List.pairwise_iff_getElem]
  intro i j hi hj hij
  rw [Array.length_toList] at hi hj
  have := h i j (Nat.zero_le _) hij (by omega)
  rw [ltLo, decide_eq_false_iff_not, getElem!_pos d j hj, getElem!_pos d i hi] at this
  simp only [Array.getElem_toList]
  omega
theorem perm_list {d d' : Array (Int × Int)} {n : Nat} (hn : d.size = n) (h : PermIn 0 n d d') : d'.toList.Perm d.toList := by
  have h3 := h.2.2
  rw [show d'.extract 0 n = d' from by rw [← hn, ← h.1]; exact Array.extract_size, show d.extract 0 n = d from by rw [← hn]; exact Array.extract_size] at h3
  exact h3
end Go.Proofs.YtfdododighjjpaaGreatDoor.Dy
