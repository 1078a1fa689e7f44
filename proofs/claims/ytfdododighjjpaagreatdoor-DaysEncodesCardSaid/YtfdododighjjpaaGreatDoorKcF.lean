/- Package keccak: bytes are written into a hash. -/
import Derived.Test.YtfdododighjjpaaGreatDoorKcE
import Derived.Laws.IdiomCopy
import Derived.LoopN
namespace Go.Proofs.YtfdododighjjpaaGreatDoor.Kc
open Go.RowKit Go.PlainAid Go.Proofs.YtfdododighjjpaaGreatDoor.Wi
set_option linter.unusedVariables false
set_option linter.unusedSimpArgs false
set_option maxHeartbeats 4000000
set_option maxRecDepth 20000

def byF (ps : List Nat) : Nat → Int := fun j => ((wd ps j : Nat) : Int)
theorem Wd.set2 {K : IntKind} {W : World} {p o n : Nat} {f : Nat → Int} {j : Nat} {v : Value} (h : Wd K W p o n f) (hj : j < o ∨ o + n ≤ j) : Wd K (W.setCell ⟨p, j, none⟩ v) p o n f := fun i hi => by
  obtain ⟨h1, h2⟩ := h i hi
  exact ⟨by rw [World.cell?_setCell_other _ _ _ _ (by intro e; injection e with _ e2; omega)]; exact h1, by rw [World.frozen?_setCell]; exact h2⟩
theorem by_copy {W : World} {h n : Nat} {ps : List Nat} (hb : Wd .u8 W h 25 136 zf) (hl : ps.length = n) (hn : n ≤ 136) : Wd .u8 (W.setCells h 25 (ps.map u8v)) h 25 136 (byF ps) := fun j hj => by
  have hs : ∀ i, i < (ps.map u8v).length → (W.cell? ⟨h, 25 + i, none⟩).isSome = true := fun i hi => by
    rw [List.length_map] at hi
    rw [(hb i (by omega)).1]; rfl
  refine ⟨?_, (World.frozen?_setCells _ _ _ _ _).trans (hb j hj).2⟩
  by_cases h1 : j < ps.length
  · rw [World.cell?_setCells_in h _ 25 W hs j (by simpa using h1)]
    simp only [List.getElem_map]
    unfold byF
    rw [wd_get h1]; rfl
  · rw [World.cell?_setCells_out h _ 25 W _ (fun _ _ => .inr (by simp; omega)), (hb j hj).1]
    unfold byF
    rw [wd_out (by omega)]; rfl
theorem st_copy {W : World} {h : Nat} {A : Nat → Int} (ha : Wd .u64 W h 0 25 A) (cs : List Value) : Wd .u64 (W.setCells h 25 cs) h 0 25 A := fun j hj =>
  ⟨(World.cell?_setCells_out h _ 25 W _ (fun _ _ => .inl (by dsimp only; omega))).trans (ha j hj).1, (World.frozen?_setCells _ _ _ _ _).trans (ha j hj).2⟩
theorem kg_cells (W : World) (h : Nat) : ∀ (cs : List Value) (o : Nat), Kg h W (W.setCells h o cs)
  | [], _ => Kg.of (Below.refl _ _)
  | v :: r, o => by
    rw [World.setCells]
    exact (Kg.set h o v W).tr (kg_cells _ h r (o + 1))
theorem wr_end {w W : World} {h : Nat} {A f : Nat → Int} {u : Int} {T : Int} (hA : Wd .u64 W h 0 25 A) (hB : Wd .u8 W h 25 136 f) (h1 : W.cell? ⟨h, 161, none⟩ = some (.int .i64 u)) (h2 : W.cell? ⟨h, 162, none⟩ = some (.int .u64 T)) (h3 : W.frozen? ⟨h, 161, none⟩ = false) (h4 : W.frozen? ⟨h, 162, none⟩ = false) (hg : Kg h w W) (n : Nat) :
    Hb (W.setCell ⟨h, 161, none⟩ (.int .i64 (n : Nat))) h A f n T ∧ Kg h w (W.setCell ⟨h, 161, none⟩ (.int .i64 (n : Nat))) :=
  ⟨⟨hA.set2 (.inr (by omega)), hB.set2 (.inr (by omega)), World.cell?_setCell_same _ _ _ h1, by rw [World.cell?_setCell_other _ _ _ _ (by simp)]; exact h2, by rw [World.frozen?_setCell]; exact h3, by rw [World.frozen?_setCell]; exact h4⟩, kg_own hg _ _⟩
theorem write_any (h pb po n c : Nat) (ps : List Nat) (w : World) (H : Hb w h zf zf 0 0) (hp : Bw w (some ⟨pb, po, none⟩) n c ps) (hn1 : 1 ≤ n) (hn : n < 136) (hpb : pb ≠ h) :
    Calls Tryz.prog 75 #[.pointer (some ⟨h, 0, none⟩), .slice (some ⟨pb, po, none⟩) n c] w fun e w' => (∃ v, e = .returned v) ∧ Hb w' h zf (byF ps) n (n : Nat) ∧ Kg h w w' := by
  have q1 := H.us
  have q2 := H.tt
  have q3 := H.fu
  have q4 := H.ft
  have HH := Lib.hid H
  have HP := Lib.hid hp
  have hnc := hp.2.1
  have hcm := hp.2.2.1
  have n1 : (1 : Int) ≤ (n : Int) := by omega
  have n2 : (n : Int) < 136 := by omega
  have n3 : (n : Int) % 18446744073709551616 = (n : Int) := by omega
  have n4 : (0 : Int) < (n : Int) := by omega
  clear H hp
  go_enter Tryz.func75, Tryz.ntmps75
  go_wp2_with fail
  refine wp_loop_rounds 2 ?_
  rw [rounds_succ]
  go_upto_block 1 with fail
  have hA1 := Lib.hid (HH.out.st.set2 (j := 162) (v := .int .u64 (n : Nat)) (.inr (by omega)))
  have hB1 := Lib.hid (HH.out.by_.set2 (j := 162) (v := .int .u64 (n : Nat)) (.inr (by omega)))
  have hP1 := Lib.hid (HP.out.kg (Kg.set h 162 (.int .u64 (n : Nat)) w) (fun x e => by cases e; exact hpb))
  have hG1 := Lib.hid (Kg.set h 162 (.int .u64 (n : Nat)) w)
  have c1 : (w.setCell ⟨h, 162, none⟩ (.int .u64 (n : Nat))).cell? ⟨h, 161, none⟩ = some (.int .i64 0) := by rw [World.cell?_setCell_other _ _ _ _ (by simp)]; exact q1
  have c2 : (w.setCell ⟨h, 162, none⟩ (.int .u64 (n : Nat))).cell? ⟨h, 162, none⟩ = some (.int .u64 (n : Nat)) := World.cell?_setCell_same _ _ _ q2
  have c3 : (w.setCell ⟨h, 162, none⟩ (.int .u64 (n : Nat))).frozen? ⟨h, 161, none⟩ = false := by rw [World.frozen?_setCell]; exact q3
  have c4 : (w.setCell ⟨h, 162, none⟩ (.int .u64 (n : Nat))).frozen? ⟨h, 162, none⟩ = false := by rw [World.frozen?_setCell]; exact q4
  clear q1 q2 q3 q4
  generalize (w.setCell ⟨h, 162, none⟩ (.int .u64 (n : Nat))) = W1 at hA1 hB1 hP1 hG1 c1 c2 c3 c4 ⊢
  have hlen := hP1.out.1
  have hl2 : (ps.map u8v).length = n := by rw [List.length_map, hlen]
  have hcs : (ps.map u8v).length = Nat.min n 136 := by rw [hl2]; exact (Nat.min_eq_left (by omega)).symm
  have hcp := run_copy_cells (P := Tryz.prog) W1.drew 51 51 3 5 h 25 136 136 ⟨pb, po, none⟩ n c (ps.map u8v) (by kernel_rfl) (by kernel_rfl) hcs (fun j v hv => hP1.out.news j v hv) (fun j hj => by rw [(hB1.out.drew j (by omega)).1]; rfl) (fun j hj => (hB1.out.drew j (by omega)).2) (fun v hv => by obtain ⟨x, _, rfl⟩ := List.mem_map.1 hv; rfl)
  rw [hl2] at hcp
  have HB2 := Lib.hid (by_copy hB1.out.drew hlen (by omega))
  have HA2 := Lib.hid (st_copy hA1.out.drew (ps.map u8v))
  have HG2 := Lib.hid ((kg_drew hG1.out).tr (kg_cells W1.drew h (ps.map u8v) 25))
  have d1 := (World.cell?_setCells_out h (ps.map u8v) 25 W1.drew ⟨h, 161, none⟩ (fun _ _ => .inr (by rw [hl2]; show 25 + n ≤ 161; omega))).trans c1
  have d2 := (World.cell?_setCells_out h (ps.map u8v) 25 W1.drew ⟨h, 162, none⟩ (fun _ _ => .inr (by rw [hl2]; show 25 + n ≤ 162; omega))).trans c2
  have d3 := (World.frozen?_setCells h (ps.map u8v) 25 W1.drew ⟨h, 161, none⟩).trans c3
  have d4 := (World.frozen?_setCells h (ps.map u8v) 25 W1.drew ⟨h, 162, none⟩).trans c4
  clear hlen hcs hl2 c2 c3 c4
  generalize W1.drew.setCells h 25 (ps.map u8v) = W2 at hcp HB2 HA2 HG2 d1 d2 d3 d4
  go_wp2_with fail
  go_region
  have n5 : ¬ (n : Int) = 136 := by omega
  have n6 : (n : Int) ≤ (c : Int) := by omega
  have HF := Lib.hid (wr_end HA2.out HB2.out d1 d2 d3 d4 HG2.out (n : Nat))
  by_cases hcn : c = n
  · subst hcn
    go_wp2_with fail
    rw [rounds_succ]
    go_wp2_with fail
    go_end0
    exact ⟨⟨_, rfl⟩, HF.out⟩
  · go_wp2_with fail
    rw [rounds_succ]
    go_wp2_with fail
    go_end0
    exact ⟨⟨_, rfl⟩, HF.out⟩
end Go.Proofs.YtfdododighjjpaaGreatDoor.Kc
