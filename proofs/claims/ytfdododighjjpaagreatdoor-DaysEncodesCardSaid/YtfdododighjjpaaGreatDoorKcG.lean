/- Package keccak: the digest of what was written. -/
import Derived.Test.YtfdododighjjpaaGreatDoorKcF
namespace Go.Proofs.YtfdododighjjpaaGreatDoor.Kc
open Go.RowKit Go.PlainAid Go.Proofs.YtfdododighjjpaaGreatDoor.Wi
set_option linter.unusedVariables false
set_option linter.unusedSimpArgs false
set_option maxHeartbeats 4000000
set_option maxRecDepth 20000

def vals (K : IntKind) (n : Nat) (f : Nat → Int) : List Value := (List.range n).map fun j => .int K (f j)
theorem vals_len (K : IntKind) (n : Nat) (f : Nat → Int) : (vals K n f).length = n := by simp [vals]
theorem vals_size (K : IntKind) (n : Nat) (f : Nat → Int) : (vals K n f).toArray.size = n := by simp [vals]
theorem vals_get (K : IntKind) (n : Nat) (f : Nat → Int) (j : Nat) (h : j < n) : (vals K n f)[j]? = some (.int K (f j)) := by
  unfold vals; rw [List.getElem?_map, List.getElem?_range h]; rfl
theorem vals_one (K : IntKind) (n : Nat) (f : Nat → Int) : ∀ v ∈ vals K n f, v.oneCell' = true := by
  intro v hv
  obtain ⟨j, _, rfl⟩ := List.mem_map.1 hv
  rfl
theorem Wd.range {K : IntKind} {W : World} {p o n : Nat} {f : Nat → Int} (h : Wd K W p o n f) : W.rangeAt p o (vals K n f) := fun j v hv => by
  have hj : j < n := by have := (List.getElem?_eq_some_iff.1 hv).1; rwa [vals_len] at this
  rw [vals_get K n f j hj] at hv
  rw [← hv]; exact (h j hj).1
theorem Wd.there {K : IntKind} {W : World} {p o n : Nat} {f : Nat → Int} (h : Wd K W p o n f) : W.there p o n := fun j hj => ⟨by rw [(h j hj).1]; rfl, (h j hj).2⟩
theorem Wd.stored {K : IntKind} {W : World} {p o n : Nat} {f g : Nat → Int} (h : Wd K W p o n f) : Wd K (W.setCells p o (vals K n g)) p o n g := fun j hj => by
  have hs := World.rangeAt_setCells_same W p o (vals K n g) (by rw [vals_len]; exact h.there)
  exact ⟨hs j _ (vals_get K n g j hj), (World.frozen?_setCells _ _ _ _ _).trans (h j hj).2⟩
theorem byte_row (w : World) (T : TypeId) (n : Nat) {cs : Array Value} (hc : cs = (Array.replicate n (Value.int .u8 0))) : Wd .u8 (w.alloc (.cells cs T)) w.heap.size 0 n zf := fun j hj => by
  subst hc
  rw [Nat.zero_add]
  have hb : (w.alloc (.cells (Array.replicate n (Value.int .u8 0)) T)).heap[w.heap.size]? = some (.cells (Array.replicate n (Value.int .u8 0)) T (0, 0)) := World.alloc_heap_new w _
  refine ⟨?_, by unfold World.frozen?; dsimp only; rw [hb]; simp⟩
  rw [cell_of_row _ _ j _ _ _ hb, Array.getElem?_replicate, if_pos hj]
  simp [zf]
/-- The last block. -/
def lastF (f : Nat → Int) (n : Nat) : Nat → Int := upd (upd (fun j => if j < n then f j else 0) n 6) 135 (bits .xor .u8 (upd (fun j => if j < n then f j else 0) n 6 135) 128)
def digF (A : Nat → Int) (i : Nat) : Int := (A (i / 8) / 2 ^ (8 * (i % 8))) % 256
theorem abs_wp {P : Program} {c : Code} {Q : Exit → Act → World → Prop} {a : Act} {W : World} (F : World → Prop) (hF : F W) (h : ∀ W', F W' → c.wp P Q a W') : c.wp P Q a W := h W hF
theorem below_kg {w W W' : World} {p : Nat} (hb : Below w.heap.size w W) (hk : Kg p W W') (hp : w.heap.size ≤ p) : Below w.heap.size w W' :=
  ⟨hk.os.trans hb.os, hk.tape.trans hb.tape, hk.output.trans hb.output, Nat.le_trans hb.size hk.size, fun k hl => (hk.block k (Nat.lt_of_lt_of_le hl hb.size) (by omega) (by omega)).trans (hb.block k hl)⟩
theorem by_of {W : World} {b n : Nat} {f : Nat → Int} (h : Wd .u8 W b 0 n f) : By W b n f := fun j hj => by
  have := (h j hj).1
  rw [Nat.zero_add] at this
  exact this
theorem res_cell {fn : Func} {tmps : Array Value} {T : TypeId} {i : Nat} {p : Addr} {v : Value} {W : World} (hres : fn.results = #[.cell i T]) (ht : tmps.getD i undef = .pointer (some p)) (hl : (loadVar T p).run Tryz.prog W = .ok v W) : (results fn tmps).run Tryz.prog W = .ok v W := by
  have h2 : tmps[i]?.getD undef = .pointer (some p) := by rw [← Array.getD_eq_getD_getElem?]; exact ht
  simp [results, hres, asAddr, h2, hl]
theorem below_cells {w W : World} (hb : Below w.heap.size w W) (b : Nat) (h : w.heap.size ≤ b) : ∀ (o : Nat) (cs : List Value), Below w.heap.size w (W.setCells b o cs) := by
  intro o cs
  induction cs generalizing o W with
  | nil => exact hb
  | cons v r ih => rw [World.setCells]; exact ih (hb.setCell (p := ⟨b, o, none⟩) h v) (o + 1)
theorem Wd.cells {K : IntKind} {W : World} {p o n : Nat} {f : Nat → Int} (h : Wd K W p o n f) (b o' : Nat) (cs : List Value) (hb : p ≠ b) : Wd K (W.setCells b o' cs) p o n f := fun j hj =>
  ⟨(World.cell?_setCells_out b _ o' W _ (fun e _ => absurd e hb)).trans (h j hj).1, (World.frozen?_setCells _ _ _ _ _).trans (h j hj).2⟩
theorem size_cells (W : World) (b : Nat) : ∀ (o : Nat) (cs : List Value), (W.setCells b o cs).heap.size = W.heap.size := by
  intro o cs
  induction cs generalizing o W with
  | nil => rfl
  | cons v r ih => rw [World.setCells, ih]; simp
theorem xor128 (v : Int) (h : 0 ≤ v ∧ v < 256) : 0 ≤ bits .xor .u8 v 128 ∧ bits .xor .u8 v 128 < 256 := by
  obtain ⟨k, rfl⟩ : ∃ k : Nat, v = k := ⟨v.toNat, by omega⟩
  have e : ∀ k : Nat, k < 256 → 0 ≤ bits .xor .u8 (k : Int) 128 ∧ bits .xor .u8 (k : Int) 128 < 256 := by decide +kernel
  exact e k (by omega)
def preF (f : Nat → Int) (n : Nat) : Nat → Int := fun j => if j < n then f j else 0
theorem pre_lt {f : Nat → Int} (hf : ∀ j, 0 ≤ f j ∧ f j < 256) (n j : Nat) : 0 ≤ preF f n j ∧ preF f n j < 256 := by
  unfold preF; split
  · exact hf j
  · omega
theorem upd6_lt {f : Nat → Int} (hf : ∀ j, 0 ≤ f j ∧ f j < 256) (n j : Nat) : 0 ≤ upd (preF f n) n 6 j ∧ upd (preF f n) n 6 j < 256 := by
  unfold upd; split
  · omega
  · exact pre_lt hf n j
theorem last_lt {f : Nat → Int} (hf : ∀ j, 0 ≤ f j ∧ f j < 256) (n j : Nat) : 0 ≤ lastF f n j ∧ lastF f n j < 256 := by
  show 0 ≤ upd (upd (preF f n) n 6) 135 (bits .xor .u8 (upd (preF f n) n 6 135) 128) j ∧ upd (upd (preF f n) n 6) 135 (bits .xor .u8 (upd (preF f n) n 6 135) 128) j < 256
  by_cases h : j = 135
  · have e : upd (upd (preF f n) n 6) 135 (bits .xor .u8 (upd (preF f n) n 6 135) 128) j = bits .xor .u8 (upd (preF f n) n 6 135) 128 := by unfold upd; rw [if_pos h]
    rw [e]; exact xor128 _ (upd6_lt hf n 135)
  · have e : upd (upd (preF f n) n 6) 135 (bits .xor .u8 (upd (preF f n) n 6 135) 128) j = upd (preF f n) n 6 j := by
      show (if j = 135 then _ else _) = _
      rw [if_neg h]
    rw [e]; exact upd6_lt hf n j
theorem pre_copy {W : World} {b n : Nat} {f : Nat → Int} (hb : Wd .u8 W b 0 136 zf) (hn : n ≤ 136) : Wd .u8 (W.setCells b 0 (vals .u8 n f)) b 0 136 (preF f n) := fun j hj => by
  have hs : ∀ i, i < (vals .u8 n f).length → (W.cell? ⟨b, 0 + i, none⟩).isSome = true := fun i hi => by
    rw [vals_len] at hi
    rw [(hb i (by omega)).1]; rfl
  refine ⟨?_, (World.frozen?_setCells _ _ _ _ _).trans (hb j hj).2⟩
  by_cases h1 : j < n
  · rw [World.cell?_setCells_in b _ 0 W hs j (by rw [vals_len]; exact h1)]
    unfold preF
    rw [if_pos h1]
    have := vals_get .u8 n f j h1
    rw [List.getElem?_eq_getElem (by rw [vals_len]; exact h1)] at this
    exact this
  · rw [World.cell?_setCells_out b _ 0 W _ (fun _ _ => .inr (by rw [vals_len]; show 0 + n ≤ 0 + j; omega)), (hb j hj).1]
    unfold preF
    rw [if_neg h1]; rfl
theorem hsum_any (h n : Nat) (T : Int) (A f : Nat → Int) (w : World) (H : Hb w h A f n T) (hn : n < 136) (hf : ∀ j, 0 ≤ f j ∧ f j < 256) (hK : Kt w) :
    Calls Tryz.prog 76 #[.pointer (some ⟨h, 0, none⟩)] w fun e w' => e = .returned (.agg (vals .u8 32 (digF (absF (lastF f n) A))).toArray) ∧ Below w.heap.size w w' := by
  have HH := Lib.hid H
  have HK := Lib.hid hK
  have hhl := H.st.lt (by omega)
  have n1 : (n : Int) < 136 := by omega
  have n0 : (0 : Int) ≤ (n : Int) := Int.natCast_nonneg _
  have n2 : (n : Int) ≤ 136 := by omega
  have q1 := H.us
  have HA := Lib.hid H.st
  clear H hK
  go_enter Tryz.func76, Tryz.ntmps76
  have hs1 : (w.alloc (.cells #[.int .u8 0, .int .u8 0, .int .u8 0, .int .u8 0, .int .u8 0, .int .u8 0, .int .u8 0, .int .u8 0, .int .u8 0, .int .u8 0, .int .u8 0, .int .u8 0, .int .u8 0, .int .u8 0, .int .u8 0, .int .u8 0, .int .u8 0, .int .u8 0, .int .u8 0, .int .u8 0, .int .u8 0, .int .u8 0, .int .u8 0, .int .u8 0, .int .u8 0, .int .u8 0, .int .u8 0, .int .u8 0, .int .u8 0, .int .u8 0, .int .u8 0, .int .u8 0] 58)).heap.size = w.heap.size + 1 := by simp
  have hst := Lib.hid (zero_row (w.alloc (.cells #[.int .u8 0, .int .u8 0, .int .u8 0, .int .u8 0, .int .u8 0, .int .u8 0, .int .u8 0, .int .u8 0, .int .u8 0, .int .u8 0, .int .u8 0, .int .u8 0, .int .u8 0, .int .u8 0, .int .u8 0, .int .u8 0, .int .u8 0, .int .u8 0, .int .u8 0, .int .u8 0, .int .u8 0, .int .u8 0, .int .u8 0, .int .u8 0, .int .u8 0, .int .u8 0, .int .u8 0, .int .u8 0, .int .u8 0, .int .u8 0, .int .u8 0, .int .u8 0] 58)) 130 25 (cs := #[.int .u64 0, .int .u64 0, .int .u64 0, .int .u64 0, .int .u64 0, .int .u64 0, .int .u64 0, .int .u64 0, .int .u64 0, .int .u64 0, .int .u64 0, .int .u64 0, .int .u64 0, .int .u64 0, .int .u64 0, .int .u64 0, .int .u64 0, .int .u64 0, .int .u64 0, .int .u64 0, .int .u64 0, .int .u64 0, .int .u64 0, .int .u64 0, .int .u64 0]) rfl)
  rw [hs1] at hst
  have hB2 : Hid (Below w.heap.size w ((w.alloc (.cells #[.int .u8 0, .int .u8 0, .int .u8 0, .int .u8 0, .int .u8 0, .int .u8 0, .int .u8 0, .int .u8 0, .int .u8 0, .int .u8 0, .int .u8 0, .int .u8 0, .int .u8 0, .int .u8 0, .int .u8 0, .int .u8 0, .int .u8 0, .int .u8 0, .int .u8 0, .int .u8 0, .int .u8 0, .int .u8 0, .int .u8 0, .int .u8 0, .int .u8 0, .int .u8 0, .int .u8 0, .int .u8 0, .int .u8 0, .int .u8 0, .int .u8 0, .int .u8 0] 58)).alloc (.cells #[.int .u64 0, .int .u64 0, .int .u64 0, .int .u64 0, .int .u64 0, .int .u64 0, .int .u64 0, .int .u64 0, .int .u64 0, .int .u64 0, .int .u64 0, .int .u64 0, .int .u64 0, .int .u64 0, .int .u64 0, .int .u64 0, .int .u64 0, .int .u64 0, .int .u64 0, .int .u64 0, .int .u64 0, .int .u64 0, .int .u64 0, .int .u64 0, .int .u64 0] 130))) := ((Below.refl _ _).alloc (Nat.le_refl _) _).alloc (by simp) _
  have hR2 : Hid (Wd .u8 ((w.alloc (.cells #[.int .u8 0, .int .u8 0, .int .u8 0, .int .u8 0, .int .u8 0, .int .u8 0, .int .u8 0, .int .u8 0, .int .u8 0, .int .u8 0, .int .u8 0, .int .u8 0, .int .u8 0, .int .u8 0, .int .u8 0, .int .u8 0, .int .u8 0, .int .u8 0, .int .u8 0, .int .u8 0, .int .u8 0, .int .u8 0, .int .u8 0, .int .u8 0, .int .u8 0, .int .u8 0, .int .u8 0, .int .u8 0, .int .u8 0, .int .u8 0, .int .u8 0, .int .u8 0] 58)).alloc (.cells #[.int .u64 0, .int .u64 0, .int .u64 0, .int .u64 0, .int .u64 0, .int .u64 0, .int .u64 0, .int .u64 0, .int .u64 0, .int .u64 0, .int .u64 0, .int .u64 0, .int .u64 0, .int .u64 0, .int .u64 0, .int .u64 0, .int .u64 0, .int .u64 0, .int .u64 0, .int .u64 0, .int .u64 0, .int .u64 0, .int .u64 0, .int .u64 0, .int .u64 0] 130)) w.heap.size 0 32 zf) := (byte_row w 58 32 (cs := #[.int .u8 0, .int .u8 0, .int .u8 0, .int .u8 0, .int .u8 0, .int .u8 0, .int .u8 0, .int .u8 0, .int .u8 0, .int .u8 0, .int .u8 0, .int .u8 0, .int .u8 0, .int .u8 0, .int .u8 0, .int .u8 0, .int .u8 0, .int .u8 0, .int .u8 0, .int .u8 0, .int .u8 0, .int .u8 0, .int .u8 0, .int .u8 0, .int .u8 0, .int .u8 0, .int .u8 0, .int .u8 0, .int .u8 0, .int .u8 0, .int .u8 0, .int .u8 0]) rfl).alloc _
  have hS3 := Lib.hid (hst.out.stored (g := A))
  have hB3 : Hid (Below w.heap.size w (((w.alloc (.cells #[.int .u8 0, .int .u8 0, .int .u8 0, .int .u8 0, .int .u8 0, .int .u8 0, .int .u8 0, .int .u8 0, .int .u8 0, .int .u8 0, .int .u8 0, .int .u8 0, .int .u8 0, .int .u8 0, .int .u8 0, .int .u8 0, .int .u8 0, .int .u8 0, .int .u8 0, .int .u8 0, .int .u8 0, .int .u8 0, .int .u8 0, .int .u8 0, .int .u8 0, .int .u8 0, .int .u8 0, .int .u8 0, .int .u8 0, .int .u8 0, .int .u8 0, .int .u8 0] 58)).alloc (.cells #[.int .u64 0, .int .u64 0, .int .u64 0, .int .u64 0, .int .u64 0, .int .u64 0, .int .u64 0, .int .u64 0, .int .u64 0, .int .u64 0, .int .u64 0, .int .u64 0, .int .u64 0, .int .u64 0, .int .u64 0, .int .u64 0, .int .u64 0, .int .u64 0, .int .u64 0, .int .u64 0, .int .u64 0, .int .u64 0, .int .u64 0, .int .u64 0, .int .u64 0] 130)).setCells (w.heap.size + 1) 0 (vals .u64 25 A))) := below_cells hB2.out _ (by omega) _ _
  have hR3 := Lib.hid (hR2.out.cells (w.heap.size + 1) 0 (vals .u64 25 A) (by omega))
  have hz3 : Hid ((((w.alloc (.cells #[.int .u8 0, .int .u8 0, .int .u8 0, .int .u8 0, .int .u8 0, .int .u8 0, .int .u8 0, .int .u8 0, .int .u8 0, .int .u8 0, .int .u8 0, .int .u8 0, .int .u8 0, .int .u8 0, .int .u8 0, .int .u8 0, .int .u8 0, .int .u8 0, .int .u8 0, .int .u8 0, .int .u8 0, .int .u8 0, .int .u8 0, .int .u8 0, .int .u8 0, .int .u8 0, .int .u8 0, .int .u8 0, .int .u8 0, .int .u8 0, .int .u8 0, .int .u8 0] 58)).alloc (.cells #[.int .u64 0, .int .u64 0, .int .u64 0, .int .u64 0, .int .u64 0, .int .u64 0, .int .u64 0, .int .u64 0, .int .u64 0, .int .u64 0, .int .u64 0, .int .u64 0, .int .u64 0, .int .u64 0, .int .u64 0, .int .u64 0, .int .u64 0, .int .u64 0, .int .u64 0, .int .u64 0, .int .u64 0, .int .u64 0, .int .u64 0, .int .u64 0, .int .u64 0] 130)).setCells (w.heap.size + 1) 0 (vals .u64 25 A)).heap.size = w.heap.size + 2) := by
    show _ = _; rw [size_cells]; simp
  go_upto_region 4 with (first
    | (refine wpList_load_mid rfl 130 (.tmp 12) rfl h 0 rfl _ _ ((HA.out.alloc _).range) Tryz.underlying130 rfl (by kernel_rfl) ?_)
    | (refine wpList_store_mid rfl 130 (.tmp 3) (.tmp 13) rfl _ _ _ rfl rfl ?_ ?_ ?_ ?_; rw [vals_size]; exact hst.out.there; rw [vals_size]; kernel_rfl; exact all_oneCell_toArray (vals_one _ _ _); generalize ((w.alloc (.cells #[.int .u8 0, .int .u8 0, .int .u8 0, .int .u8 0, .int .u8 0, .int .u8 0, .int .u8 0, .int .u8 0, .int .u8 0, .int .u8 0, .int .u8 0, .int .u8 0, .int .u8 0, .int .u8 0, .int .u8 0, .int .u8 0, .int .u8 0, .int .u8 0, .int .u8 0, .int .u8 0, .int .u8 0, .int .u8 0, .int .u8 0, .int .u8 0, .int .u8 0, .int .u8 0, .int .u8 0, .int .u8 0, .int .u8 0, .int .u8 0, .int .u8 0, .int .u8 0] 58)).alloc (.cells #[.int .u64 0, .int .u64 0, .int .u64 0, .int .u64 0, .int .u64 0, .int .u64 0, .int .u64 0, .int .u64 0, .int .u64 0, .int .u64 0, .int .u64 0, .int .u64 0, .int .u64 0, .int .u64 0, .int .u64 0, .int .u64 0, .int .u64 0, .int .u64 0, .int .u64 0, .int .u64 0, .int .u64 0, .int .u64 0, .int .u64 0, .int .u64 0, .int .u64 0] 130)).setCells (w.heap.size + 1) 0 (vals .u64 25 A) = W3 at hS3 hB3 hR3 hz3 ⊢))
  clear hst hB2 hR2 hs1
  have hlb := hz3.out
  go_upto_region 5 with fail
  refine abs_wp (fun W => Below w.heap.size w W ∧ Wd .u8 W (w.heap.size + 2) 0 136 zf ∧ Wd .u64 W (w.heap.size + 1) 0 25 A ∧ Wd .u8 W w.heap.size 0 32 zf) ⟨hB3.out.alloc (by omega) _, by rw [← hlb]; exact byte_row W3 _ 136 rfl, hS3.out.alloc _, hR3.out.alloc _⟩ (fun W4 h4 => ?_)
  obtain ⟨hB4, hL4, hS4, hR4⟩ := h4
  replace hB4 := Lib.hid hB4
  replace hL4 := Lib.hid hL4
  replace hS4 := Lib.hid hS4
  replace hR4 := Lib.hid hR4
  have hF4 := Lib.hid (HH.out.by_.below hB4.out)
  have q4 := (hB4.out.cell (p := ⟨h, 161, none⟩) hhl).trans q1
  clear hS3 hR3 hB3 hlb hz3 q1
  generalize hlb : w.heap.size + 2 = lb at hL4 ⊢
  have HLB : Hid (lb = w.heap.size + 2) := hlb.symm
  clear hlb
  have hcp := run_copy_cells (P := Tryz.prog) W4.drew 51 51 3 5 lb 0 136 136 ⟨h, 25, none⟩ n 136 (vals .u8 n f) (by kernel_rfl) (by kernel_rfl) (by rw [vals_len]; exact (Nat.min_eq_left (by omega)).symm)
    (fun j v hv => by
      have hj : j < n := by have := (List.getElem?_eq_some_iff.1 hv).1; rwa [vals_len] at this
      rw [vals_get .u8 n f j hj] at hv
      rw [Addr.add_mid, ← hv]; exact (hF4.out.drew j (by omega)).1)
    (fun j hj => by rw [vals_len] at hj; rw [(hL4.out.drew j (by omega)).1]; rfl) (fun j hj => by rw [vals_len] at hj; exact (hL4.out.drew j (by omega)).2) (vals_one _ _ _)
  rw [vals_len] at hcp
  have hL5 := Lib.hid (pre_copy (f := f) hL4.out.drew (n := n) (by omega))
  have hS5 := Lib.hid (hS4.out.drew.cells lb 0 (vals .u8 n f) (by have := HLB.out; omega))
  have hR5 := Lib.hid (hR4.out.drew.cells lb 0 (vals .u8 n f) (by have := HLB.out; omega))
  have hB5 := Lib.hid (below_cells hB4.out.drew lb (by have := HLB.out; omega) 0 (vals .u8 n f))
  have q5 := (World.cell?_setCells_out lb (vals .u8 n f) 0 W4.drew ⟨h, 161, none⟩ (fun e _ => by have := HLB.out; dsimp only at e; omega)).trans q4
  generalize W4.drew.setCells lb 0 (vals .u8 n f) = W5 at hcp hL5 hS5 hR5 hB5 q5
  clear hL4 hS4 hR4 hF4 hB4
  go_region
  clear hcp q4
  go_upto_region 6 with fail
  obtain ⟨c5, f5⟩ := hL5.out n (by omega)
  rw [Nat.zero_add] at c5 f5
  have hL6 := Lib.hid (hL5.out.set (j := n) (by omega) 6)
  have hS6 := Lib.hid (hS5.out.other ⟨lb, 0 + n, none⟩ (.int .u8 6) (by have := HLB.out; dsimp only; omega))
  have hR6 := Lib.hid (hR5.out.other ⟨lb, 0 + n, none⟩ (.int .u8 6) (by have := HLB.out; dsimp only; omega))
  have hB6 := Lib.hid (hB5.out.setCell (p := ⟨lb, 0 + n, none⟩) (by have := HLB.out; dsimp only; omega) (.int .u8 6))
  rw [Nat.zero_add] at hL6 hS6 hR6 hB6
  go_upto_region 7 with fail
  generalize W5.setCell ⟨lb, n, none⟩ (.int .u8 6) = W6 at hL6 hS6 hR6 hB6 ⊢
  clear hL5 hS5 hR5 hB5 c5 f5 q5
  obtain ⟨c6, f6⟩ := hL6.out 135 (by omega)
  have hL7 := Lib.hid (hL6.out.set (j := 135) (by omega) (bits .xor .u8 (upd (preF f n) n 6 135) 128))
  have hS7 := Lib.hid (hS6.out.other ⟨lb, 0 + 135, none⟩ (.int .u8 (bits .xor .u8 (upd (preF f n) n 6 135) 128)) (by have := HLB.out; dsimp only; omega))
  have hR7 := Lib.hid (hR6.out.other ⟨lb, 0 + 135, none⟩ (.int .u8 (bits .xor .u8 (upd (preF f n) n 6 135) 128)) (by have := HLB.out; dsimp only; omega))
  have hB7 := Lib.hid (hB6.out.setCell (p := ⟨lb, 0 + 135, none⟩) (by have := HLB.out; dsimp only; omega) (.int .u8 (bits .xor .u8 (upd (preF f n) n 6 135) 128)))
  rw [Nat.zero_add] at c6 f6 hL7 hS7 hR7 hB7
  have HLF : Hid (upd (upd (preF f n) n 6) 135 (bits .xor .u8 (upd (preF f n) n 6 135) 128) = lastF f n) := rfl
  rw [HLF.out] at hL7
  generalize (upd (preF f n) n 6 135) = v6 at c6 hL7 hS7 hR7 hB7
  go_upto_region 8 with fail
  generalize W6.setCell ⟨lb, 135, none⟩ (.int .u8 (bits .xor .u8 v6 128)) = W7 at hL7 hS7 hR7 hB7 ⊢
  clear hL6 hS6 hR6 hB6 c6 f6 HLF
  have hz7 := hB7.out.size
  have hg1 := HK.out.lt1
  have hg2 := HK.out.lt2
  have HAB := Lib.hid (absorb_any (w.heap.size + 1) lb A (lastF f n) W7 hS7.out (by_of hL7.out) (last_lt hf n) (HK.out.below hB7.out) (by have := HLB.out; omega) (by omega) (by omega))
  have hne : Hid (w.heap.size ≠ w.heap.size + 1) := (by omega : w.heap.size ≠ w.heap.size + 1)
  clear hg1 hg2
  go_upto_region 9 with (go_at_call 92; refine HAB.out.mono ?_; rintro e W8 ⟨⟨v, rfl⟩, hS8, hG8⟩; have hB8 := Lib.hid (below_kg hB7.out hG8 (by omega)); have hR8 := Lib.hid (hR7.out.kg hG8 hne.out); replace hS8 := Lib.hid hS8; clear hG8)
  obtain ⟨S, hSS⟩ : ∃ S, absF (lastF f n) A = S := ⟨_, rfl⟩
  rw [hSS] at hS8
  have HSS := Lib.hid hSS
  clear hSS
  clear hL7 hS7 hR7 hB7 HAB hz7
  have hz8 := hB8.out.size
  have hne2 : Hid (w.heap.size ≠ W8.heap.size) := (by have := hR8.out.lt (by omega); omega : w.heap.size ≠ W8.heap.size)
  have hne3 : Hid (w.heap.size + 1 ≠ W8.heap.size) := (by have := hS8.out.lt (by omega); omega : w.heap.size + 1 ≠ W8.heap.size)
  go_upto_block 0 with fail
  refine abs_wp (fun W => Below w.heap.size w W ∧ Wd .u8 W W8.heap.size 0 32 zf ∧ Wd .u64 W (w.heap.size + 1) 0 25 S ∧ Wd .u8 W w.heap.size 0 32 zf) ⟨hB8.out.alloc (by omega) _, byte_row W8 _ 32 rfl, hS8.out.alloc _, hR8.out.alloc _⟩ (fun W9 h9 => ?_)
  obtain ⟨hB9, hO9, hS9, hR9⟩ := h9
  clear hB8 hS8 hR8
  have HZ8 := Lib.hid hz8
  clear hz8
  generalize W8.heap.size = ob at hO9 hne2 hne3 HZ8 ⊢
  generalize hpb : w.heap.size + 1 = pb at hS9 hne3 ⊢
  clear hpb
  go_cut [] (fun wx => Hid (Wd .u8 wx ob 0 32 (digF S)) ∧ Hid (Wd .u8 wx w.heap.size 0 32 zf) ∧ Hid (Below w.heap.size w wx))
  case first =>
    go_wp2_with fail
    go_loopw [35] (fun v wx => ∃ i : Nat, i ≤ 32 ∧ v = .int .i64 i ∧ Hid (Wd .u8 wx ob 0 32 (fill (digF S) i)) ∧ Hid (Wd .u64 wx pb 0 25 S) ∧ Hid (Wd .u8 wx w.heap.size 0 32 zf) ∧ Hid (Below w.heap.size w wx)) (fun v _ => 32 - (intOf v).toNat)
    case atStart => exact ⟨0, by omega, rfl, by rw [fill_zero]; exact hO9, hS9, hR9, hB9⟩
    case round =>
      clear hO9 hS9 hR9 hB9
      obtain ⟨i, hi, rfl, hO, hS, hR, hB⟩ := hrel
      by_cases hi32 : i < 32
      · have i0 : (0 : Int) ≤ (i : Int) := Int.natCast_nonneg _
        have i1 : (i : Int) < 32 := by omega
        obtain ⟨a, ha⟩ : ∃ a, i / 8 = a := ⟨_, rfl⟩
        obtain ⟨b, hb⟩ : ∃ b, i % 8 = b := ⟨_, rfl⟩
        have ha1 : (i : Int).tdiv 8 = (a : Int) := by rw [Int.tdiv_eq_ediv_of_nonneg (by omega)]; omega
        have hb1 : (i : Int).tmod 8 = (b : Int) := by rw [Int.tmod_eq_emod_of_nonneg (by omega)]; omega
        have HD : Hid (digF S i = (S a / 2 ^ (8 * b)) % 256) := by show _ = _; unfold digF; rw [ha, hb]
        have hb2 : b < 8 := by omega
        have ha2 : a < 4 := by omega
        clear ha hb
        have ha3 : (a : Int) < 25 := by omega
        have ha0 : (0 : Int) ≤ (a : Int) := Int.natCast_nonneg _
        have hb0 : (0 : Int) ≤ (b : Int) := Int.natCast_nonneg _
        have hb3 : ¬ 8 * (b : Int) < 0 := by omega
        have hb4 : (8 * (b : Int)).toNat = 8 * b := by omega
        have hb5 : 8 * (b : Int) < 64 := by omega
        have hw1 := wn a (by omega)
        have hw2 := wn b (by omega)
        have hw3 : IntKind.i64.wrap (8 * (b : Int)) = 8 * (b : Int) := IntWalk.i64_in _ (by omega)
        have s0 := (hS.out a (by omega)).1
        obtain ⟨c0, f0⟩ := hO.out i hi32
        have hON := Lib.hid (hO.out.set hi32 (digF S i))
        have hSN := Lib.hid (hS.out.other ⟨ob, 0 + i, none⟩ (.int .u8 (digF S i)) hne3.out.symm)
        have hRN := Lib.hid (hR.out.other ⟨ob, 0 + i, none⟩ (.int .u8 (digF S i)) hne2.out.symm)
        have hBN := Lib.hid (hB.out.setCell (p := ⟨ob, 0 + i, none⟩) HZ8.out (.int .u8 (digF S i)))
        rw [Nat.zero_add] at s0 c0 f0 hON hSN hRN hBN
        rw [show upd (fill (digF S) i) i (digF S i) = fill (digF S) (i + 1) from fill_upd _ _] at hON
        rw [HD.out] at hSN hRN hBN
        go_wp2_with fail
        go_roundw
        case rel => exact ⟨i + 1, by omega, by go_num, by have := hON.out; rw [HD.out] at this; exact this, hSN.out, hRN.out, hBN.out⟩
        case measure => simp [intOf]; omega
      · obtain rfl : i = 32 := by omega
        go_wp2_with fail
        go_meet
        exact ⟨fun j hj => by have := hO.out j hj; unfold fill at this; rw [if_pos hj] at this; exact this, hR, hB⟩
  case rest =>
    clear hO9 hS9 hR9 hB9
    obtain ⟨hO, hR, hB⟩ := hcut
    have hR10 := Lib.hid (hR.out.stored (g := digF S))
    have hB10 := Lib.hid (below_cells hB.out w.heap.size (Nat.le_refl _) 0 (vals .u8 32 (digF S)))
    go_wp2_with (first
      | (refine wpList_load_mid rfl 58 (.tmp 5) rfl ob 0 rfl _ _ hO.out.range Tryz.underlying58 rfl (by kernel_rfl) ?_)
      | (refine wpList_store_mid rfl 58 (.tmp 2) (.tmp 50) rfl _ _ _ rfl rfl ?_ ?_ ?_ ?_; rw [vals_size]; exact hR.out.there; rw [vals_size]; kernel_rfl; exact all_oneCell_toArray (vals_one _ _ _); generalize World.setCells wc w.heap.size 0 (vals .u8 32 (digF S)) = W10 at hR10 hB10 ⊢))
    have hrun := run_loadVar_mid (P := Tryz.prog) W10 w.heap.size 0 58 _ _ hR10.out.range Tryz.underlying58 rfl (by kernel_rfl)
    refine bodyPost_ret (v := .agg (vals .u8 32 (digF S)).toArray) (res_cell Tryz.results76 rfl hrun) rfl ⟨by rw [HSS.out], hB10.out⟩
end Go.Proofs.YtfdododighjjpaaGreatDoor.Kc
