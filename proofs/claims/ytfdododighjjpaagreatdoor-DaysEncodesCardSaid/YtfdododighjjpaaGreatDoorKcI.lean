/- Package keccak: the digest of a tag and one part. -/
import Derived.Test.YtfdododighjjpaaGreatDoorKcH
namespace Go.Proofs.YtfdododighjjpaaGreatDoor.Kc
open Go.RowKit Go.PlainAid Go.Proofs.YtfdododighjjpaaGreatDoor.Wi
set_option linter.unusedVariables false
set_option linter.unusedSimpArgs false
set_option maxHeartbeats 4000000
set_option maxRecDepth 20000

def tagB (tag : ByteArray) (ps : List Nat) : List Nat := ([] ++ (encN tag.size ++ bytesN tag)) ++ (encN ps.length ++ ps)
theorem tagB_lt {tag : ByteArray} {ps : List Nat} (h : ∀ x ∈ ps, x < 256) : ∀ x ∈ tagB tag ps, x < 256 := by
  intro x hx
  unfold tagB at hx
  simp only [List.nil_append, List.mem_append] at hx
  rcases hx with (hx | hx) | (hx | hx)
  · exact enc_lt _ x hx
  · exact bytesN_lt _ x hx
  · exact enc_lt _ x hx
  · exact h x hx
theorem ksum_some (b : Option Addr) (n c : Nat) (ps : List Nat) (w : World) (hp : Bw w b n c ps) (h1 : 1 ≤ n) (hn : n < 136) (hK : Kt w) :
    Calls Tryz.prog 59 #[.slice b n c] w fun e w' => e = .returned (digV ps) ∧ Below w.heap.size w w' := by
  obtain ⟨bb, oo, rfl, -, -, -, -⟩ := hp.at0 (k := 0) (by omega)
  exact ksum_any bb oo n c ps w hp h1 hn hK
theorem below_but {w W W' : World} {N g : Nat} (hb : Below w.heap.size w W) (hk : But N g g W W') (hg : w.heap.size < g) (hN : g < N) : Below w.heap.size w W' :=
  ⟨hk.os.trans hb.os, hk.tape.trans hb.tape, hk.output.trans hb.output, Nat.le_trans hb.size hk.size, fun k hl => (hk.block k (by omega) (by omega) (by omega)).trans (hb.block k hl)⟩
theorem Wd.but {K : IntKind} {W W' : World} {p o n N g : Nat} {f : Nat → Int} (h : Wd K W p o n f) (hk : But N g g W W') (hp : p < N) (hq : p ≠ g) : Wd K W' p o n f := fun j hj => by
  obtain ⟨h1, h2⟩ := h j hj
  have hb := hk.block p hp hq hq
  exact ⟨(World.cell?_of_block (w := W) hb).trans h1, (World.frozen?_of_block (w := W) hb).trans h2⟩
theorem tagged_any (q : Nat) (tag : ByteArray) (pb po n c : Nat) (ps : List Nat) (w : World) (ht : tag.size ≤ 10) (hq : w.cell? ⟨q, 0, none⟩ = some (.slice (some ⟨pb, po, none⟩) n c)) (hp : Bw w (some ⟨pb, po, none⟩) n c ps) (hpl : pb < w.heap.size) (hn : n ≤ 100) (hK : Kt w) :
    Calls Tryz.prog 26 #[.string tag, .slice (some ⟨q, 0, none⟩) 1 1] w fun e w' => e = .returned (digV (tagB tag ps)) ∧ Below w.heap.size w w' := by
  have hql : q < w.heap.size := World.block_lt_of_cell? w _ hq
  have HP := Lib.hid hp
  have HK := Lib.hid hK
  have HLT := Lib.hid (tagB_lt (tag := tag) hp.2.2.2.1)
  have hlen := hp.1
  have hll : Hid ((tagB tag ps).length ≤ 120 ∧ 1 ≤ (tagB tag ps).length ∧ ([] ++ (encN tag.size ++ bytesN tag)).length ≤ 90000) := by
    show _ ∧ _ ∧ _
    have e1 := (enc_len tag.size)
    have e2 := (enc_len n)
    have e3 := e1.2.1 (by omega)
    have e4 := e2.2.1 (by omega)
    have e5 := bytesN_len tag
    unfold tagB
    simp only [List.nil_append, List.length_append, hlen]
    omega
  clear hp hK
  go_enter Tryz.func26, Tryz.ntmps26
  go_upto_region 1 with fail
  refine abs_wp (fun W => Below w.heap.size w W ∧ Wd .u8 W w.heap.size 0 32 zf ∧ W.heap.size = w.heap.size + 1) ⟨(Below.refl _ _).alloc (Nat.le_refl _) _, byte_row w _ 32 rfl, by simp⟩ (fun W1 h9 => ?_)
  obtain ⟨hB1, hR1, hz1⟩ := h9
  have HZ1 := Lib.hid hz1
  replace hB1 := Lib.hid hB1
  replace hR1 := Lib.hid hR1
  clear hz1
  have hb0 : Below W1.heap.size W1 (W1.alloc (.cells #[.slice none 0 0] 85)) := (Below.refl _ _).alloc (Nat.le_refl _) _
  have hB2 := Lib.hid (hB1.out.trans (hb0.mono hB1.out.size))
  have hR2 := Lib.hid (hR1.out.below hb0)
  have HNW := Lib.hid (writer_new W1)
  have HS := Lib.hid (wstring_any (W1.heap.size + 1) W1.heap.size (.slice none 0 0) [] tag _ (Wr.new W1) (by omega) (by simp))
  have hr1 : Hid (w.heap.size < W1.heap.size) := by have := HZ1.out; show _ < _; omega
  clear hb0 hB1 hR1
  go_upto_region 3 with (first
    | (go_at_call 15; refine HNW.out.mono ?_; rintro e W2 ⟨rfl, rfl⟩)
    | (go_at_call 16; refine HS.out.mono ?_; rintro e W3 ⟨⟨v, rfl⟩, v3, hw3, hk3⟩))
  have hB3 := Lib.hid (below_but hB2.out hk3 hr1.out (by omega))
  have hR3 := Lib.hid (hR2.out.but hk3 (by have := hr1.out; omega) (by have := hr1.out; omega))
  have hW3 := Lib.hid hw3
  clear hw3 hk3 HS HNW hB2 hR2
  have hq3 := (hB3.out.cell (p := ⟨q, 0, none⟩) hql).trans hq
  have hp3 := Lib.hid (HP.out.below hB3.out)
  obtain ⟨g, hg⟩ : ∃ g, W1.heap.size = g := ⟨_, rfl⟩
  rw [hg] at hW3 hr1 ⊢
  clear hg
  have HBY := Lib.hid (wbytesN_any (g + 1) g v3 _ ps (some ⟨pb, po, none⟩) n c W3 hW3.out hp3.out (fun e => by cases e) (by omega) hll.out.2.2 (fun x e => by
    cases e
    exact ⟨by have := hr1.out; dsimp only; omega, fun e2 => by have h0 : g + 1 ≤ pb := (hW3.out.2.1.lt _ e2.symm).1; have := hr1.out; omega⟩))
  go_wp2_with fail
  refine wp_loop_rounds 2 ?_
  rw [rounds_succ]
  go_wp2_with (go_at_call 46; refine HBY.out.mono ?_; rintro e W4 ⟨⟨v, rfl⟩, v4, hw4, hk4⟩)
  have hB4 := Lib.hid (below_but hB3.out hk4 hr1.out (by omega))
  have hR4 := Lib.hid (hR3.out.but hk4 (by have := hr1.out; omega) (by have := hr1.out; omega))
  have hW4 : Hid (Wr (g + 1) g v4 (tagB tag ps) W4) := by have := hw4; rw [← hlen] at this; exact this
  clear hw4 hk4 HBY hB3 hR3 hW3 hq3 hp3
  rw [rounds_succ]
  have HO := Lib.hid (wout_any (g + 1) g v4 (tagB tag ps) W4 hW4.out HLT.out (by have := hll.out.1; omega))
  go_wp2_with (first
    | (go_at_call 20; refine HO.out.mono ?_; rintro e W5 ⟨v5, rfl, hrow5, hb5⟩; obtain ⟨b5, c5, rfl, hbw5, -, -⟩ := row_bw hrow5 HLT.out; have hB5 := Lib.hid (hB4.out.trans (hb5.mono hB4.out.size)); have hR5 := Lib.hid (hR4.out.below hb5); have HBW5 := Lib.hid hbw5; clear hrow5 hb5 hbw5)
    | (go_at_call 59; refine (ksum_some _ _ _ _ _ HBW5.out hll.out.2.1 (by have := hll.out.1; omega) (HK.out.below hB5.out)).mono ?_; rintro e W6 ⟨rfl, hb6⟩; have hB6 := Lib.hid (hB5.out.trans (hb6.mono hB5.out.size)); have hR6 := Lib.hid (hR5.out.below hb6); have hR7 := Lib.hid (hR6.out.stored (g := digF (absF (lastF (byF (tagB tag ps)) (tagB tag ps).length) zf))); have hB7 := Lib.hid (below_cells hB6.out w.heap.size (Nat.le_refl _) 0 (vals .u8 32 (digF (absF (lastF (byF (tagB tag ps)) (tagB tag ps).length) zf)))); clear hb6)
    | (refine wpList_store_mid rfl 58 (.tmp 4) (.tmp 24) rfl _ _ _ rfl rfl ?_ ?_ ?_ ?_; rw [vals_size]; exact hR6.out.there; rw [vals_size]; kernel_rfl; exact all_oneCell_toArray (vals_one _ _ _); generalize World.setCells W6 w.heap.size 0 (vals .u8 32 (digF (absF (lastF (byF (tagB tag ps)) (tagB tag ps).length) zf))) = W7 at hR7 hB7 ⊢))
  have hrun := run_loadVar_mid (P := Tryz.prog) W7 w.heap.size 0 58 _ _ hR7.out.range Tryz.underlying58 rfl (by kernel_rfl)
  refine bodyPost_ret (v := digV (tagB tag ps)) (res_cell Tryz.results26 rfl hrun) rfl ⟨rfl, hB7.out⟩
end Go.Proofs.YtfdododighjjpaaGreatDoor.Kc
