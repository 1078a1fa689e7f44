/- Package keccak: the digest of bytes; of a tag and a part. -/
import Derived.Test.YtfdododighjjpaaGreatDoorKcG
import Derived.Test.YtfdododighjjpaaGreatDoorWiC
namespace Go.Proofs.YtfdododighjjpaaGreatDoor.Kc
open Go.RowKit Go.PlainAid Go.Proofs.YtfdododighjjpaaGreatDoor.Wi
set_option linter.unusedVariables false
set_option linter.unusedSimpArgs false
set_option maxHeartbeats 4000000
set_option maxRecDepth 20000

/-- The digest of bytes. -/
def digV (ps : List Nat) : Value := .agg (vals .u8 32 (digF (absF (lastF (byF ps) ps.length) zf))).toArray
theorem byF_lt {ps : List Nat} (h : ∀ x ∈ ps, x < 256) (j : Nat) : 0 ≤ byF ps j ∧ byF ps j < 256 := by
  unfold byF
  by_cases hj : j < ps.length
  · rw [wd_get hj]
    have := h _ (List.getElem_mem hj)
    omega
  · rw [wd_out (by omega)]; decide
theorem ksum_any (pb po n c : Nat) (ps : List Nat) (w : World) (hp : Bw w (some ⟨pb, po, none⟩) n c ps) (h1 : 1 ≤ n) (hn : n < 136) (hK : Kt w) :
    Calls Tryz.prog 59 #[.slice (some ⟨pb, po, none⟩) n c] w fun e w' => e = .returned (digV ps) ∧ Below w.heap.size w w' := by
  have hpl : pb < w.heap.size := by
    obtain ⟨_, _, _, _, h5⟩ := hp
    rcases h5 with h5 | ⟨b, o, e, hb, _⟩
    · omega
    · cases e; exact hb
  have HP := Lib.hid hp
  have HK := Lib.hid hK
  have hlen := hp.1
  clear hp hK
  go_enter Tryz.func59, Tryz.ntmps59
  go_upto_region 1 with fail
  refine abs_wp (fun W => Below w.heap.size w W ∧ Wd .u8 W w.heap.size 0 32 zf ∧ W.heap.size = w.heap.size + 1) ⟨(Below.refl _ _).alloc (Nat.le_refl _) _, byte_row w _ 32 rfl, by simp⟩ (fun W1 h9 => ?_)
  obtain ⟨hB1, hR1, hz1⟩ := h9
  have HZ1 := Lib.hid hz1
  replace hB1 := Lib.hid hB1
  replace hR1 := Lib.hid hR1
  clear hz1
  have hb0 : Below W1.heap.size W1 (W1.alloc (.cells hz 133)) := (Below.refl _ _).alloc (Nat.le_refl _) _
  have hB2 := Lib.hid (hB1.out.trans (hb0.mono hB1.out.size))
  have hR2 := Lib.hid (hR1.out.below hb0)
  have HN := Lib.hid (new_any W1)
  have HW := Lib.hid (write_any W1.heap.size pb po n c ps _ (hb_new W1) (HP.out.below hB2.out) h1 hn (by have := HZ1.out; omega))
  have hr0 : Hid (w.heap.size ≠ W1.heap.size) := by have := HZ1.out; show _ ≠ _; omega
  have hr1 : Hid (w.heap.size ≤ W1.heap.size) := by have := HZ1.out; show _ ≤ _; omega
  clear hb0 hB1 hR1
  go_wp2_with (first
    | (go_at_call 74; refine HN.out.mono ?_; rintro e W2 ⟨rfl, rfl⟩)
    | (go_at_call 75; refine HW.out.mono ?_; rintro e W3 ⟨⟨v, rfl⟩, hh3, hg3⟩; have hB3 := Lib.hid (below_kg hB2.out hg3 hr1.out); have hR3 := Lib.hid (hR2.out.kg hg3 hr0.out); have HS := Lib.hid (hsum_any _ n _ zf (byF ps) W3 hh3 hn (byF_lt HP.out.2.2.2.1) (HK.out.below hB3.out)); clear hh3 hg3)
    | (go_at_call 76; refine HS.out.mono ?_; rintro e W4 ⟨rfl, hb4⟩; have hB4 := Lib.hid (hB3.out.trans (hb4.mono hB3.out.size)); have hR4 := Lib.hid (hR3.out.below hb4); have hR5 := Lib.hid (hR4.out.stored (g := digF (absF (lastF (byF ps) n) zf))); have hB5 := Lib.hid (below_cells hB4.out w.heap.size (Nat.le_refl _) 0 (vals .u8 32 (digF (absF (lastF (byF ps) n) zf)))); clear hb4)
    | (refine wpList_store_mid rfl 58 (.tmp 2) (.tmp 9) rfl _ _ _ rfl rfl ?_ ?_ ?_ ?_; rw [vals_size]; exact hR4.out.there; rw [vals_size]; kernel_rfl; exact all_oneCell_toArray (vals_one _ _ _); generalize World.setCells W4 w.heap.size 0 (vals .u8 32 (digF (absF (lastF (byF ps) n) zf))) = W5 at hR5 hB5 ⊢))
  have hrun := run_loadVar_mid (P := Tryz.prog) W5 w.heap.size 0 58 _ _ hR5.out.range Tryz.underlying58 rfl (by kernel_rfl)
  refine bodyPost_ret (v := .agg (vals .u8 32 (digF (absF (lastF (byF ps) n) zf))).toArray) (res_cell Tryz.results59 rfl hrun) rfl ⟨by unfold digV; rw [hlen], hB5.out⟩
end Go.Proofs.YtfdododighjjpaaGreatDoor.Kc
