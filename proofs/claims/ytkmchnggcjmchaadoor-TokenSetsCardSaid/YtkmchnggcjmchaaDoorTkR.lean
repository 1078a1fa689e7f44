/- Contracts of the program's reader: ok, here, offset, Peek, Err. -/
import Derived.Test.YtkmchnggcjmchaaDoorTkF
import Derived.Test.YtkmchnggcjmchaaDoorTkJ
import Derived.Deep.QuietTactic
import Derived.BigQuiet
import Derived.RegionTactic
import Derived.BigRegion
import Derived.LaidEqlPtr
namespace Go.Proofs.YtkmchnggcjmchaaDoor
open Go.RowKit Go.PlainAid
set_option linter.unusedVariables false
set_option linter.unusedSimpArgs false
set_option maxHeartbeats 600000

def tz : Tok := ⟨0, [], 0, 0⟩
def aggP (t : Tok) : Value := .agg #[.int .u8 t.kind, .string ⟨t.text.toArray⟩, .int .i64 t.n, .int .i64 t.pos]
def aggR (t : Tok) : Value := .agg #[.int .i64 t.kind, .string ⟨t.text.toArray⟩, .int .i64 t.n, .int .i64 t.pos]
/-- A reader over tokens (f: how a token's cells are): its block g, the row of its tokens elsewhere (and not in block z). -/
def Rd (f : Tok → List Value) (w : World) (g z : Nat) (ts : List Tok) (pos off e : Nat) : Prop :=
  ∃ a cap, Blk4 w g (.slice a ts.length cap) (.int .i64 pos) (.int .i64 off) (.int .i64 e) ∧ ts.length ≤ cap ∧ cap ≤ 9223372036854775807 ∧
    (ts = [] ∨ ∃ b o, a = some ⟨b, o, none⟩ ∧ b ≠ g ∧ b ≠ z ∧ b < w.heap.size ∧ ∀ j, j < ts.length * 4 → w.cell? ⟨b, o + j, none⟩ = some ((ts.flatMap f).getD j undef))
section
variable {f : Tok → List Value} {w w' : World} {g z : Nat} {ts : List Tok} {pos off e : Nat}
theorem gb_of_below (h : Below w.heap.size w w') (row : Option Nat) : w.grownBy w' row := ⟨h.os, h.tape, h.output, h.size, fun k hk _ => h.block k hk⟩
theorem gb_trans {w2 : World} {row : Option Nat} (h : w.grownBy w' row) (k : w'.grownBy w2 row) : w.grownBy w2 row :=
  ⟨k.os.trans h.os, k.tape.trans h.tape, k.output.trans h.output, Nat.le_trans h.size k.size, fun i hi hr => (k.block i (Nat.lt_of_lt_of_le hi h.size) hr).trans (h.block i hi hr)⟩
theorem gb_set (w : World) (j : Nat) (u : Value) : w.grownBy (w.setCell ⟨g, j, none⟩ u) (some g) :=
  ⟨rfl, rfl, rfl, by simp [World.setCell], fun k hk hr => Below.heap_setCell _ _ _ _ (fun e => hr (by rw [e]))⟩
theorem Rd.moved (h : Rd f w g z ts pos off e) {row : Option Nat} (hg : w.grownBy w' row) (h1 : row ≠ some g) (h2 : row = none ∨ row = some z) : Rd f w' g z ts pos off e := by
  obtain ⟨a, cap, hb4, hc, hm, hx⟩ := h
  have hgl : g < w.heap.size := by have := hb4.2.2.2.2.2.2.2.2; omega
  have hbg : w'.heap[g]? = w.heap[g]? := hg.block g hgl (fun e => h1 e.symm)
  obtain ⟨c0, c1, c2, c3, f0, f1, f2, f3, hz⟩ := hb4
  have hsz := hg.size
  refine ⟨a, cap, ⟨?_, ?_, ?_, ?_, ?_, ?_, ?_, ?_, by omega⟩, hc, hm, ?_⟩
  · rw [World.cell?_of_block (w := w) hbg]; exact c0
  · rw [World.cell?_of_block (w := w) hbg]; exact c1
  · rw [World.cell?_of_block (w := w) hbg]; exact c2
  · rw [World.cell?_of_block (w := w) hbg]; exact c3
  · rw [World.frozen?_of_block (w := w) hbg]; exact f0
  · rw [World.frozen?_of_block (w := w) hbg]; exact f1
  · rw [World.frozen?_of_block (w := w) hbg]; exact f2
  · rw [World.frozen?_of_block (w := w) hbg]; exact f3
  · rcases hx with hx | ⟨b, o, ha, n1, n2, hbl, hcell⟩
    · exact .inl hx
    · refine .inr ⟨b, o, ha, n1, n2, by omega, fun j hj => ?_⟩
      have hbb : w'.heap[b]? = w.heap[b]? := hg.block b hbl (fun e => by
        rcases h2 with h2 | h2
        · rw [h2] at e; cases e
        · rw [h2] at e; exact n2 (Option.some.inj e))
      rw [World.cell?_of_block (w := w) hbb]; exact hcell j hj
theorem Rd.below (h : Rd f w g z ts pos off e) (hb : Below w.heap.size w w') : Rd f w' g z ts pos off e :=
  h.moved (gb_of_below hb none) (by simp) (.inl rfl)
theorem Rd.lt (h : Rd f w g z ts pos off e) : g < w.heap.size := by
  obtain ⟨a, cap, hb4, _⟩ := h
  have := hb4.2.2.2.2.2.2.2.2; omega
theorem Rd.set1 (h : Rd f w g z ts pos off e) (p : Nat) : Rd f (w.setCell ⟨g, 1, none⟩ (.int .i64 p)) g z ts p off e := by
  obtain ⟨a, cap, ⟨c0, c1, c2, c3, f0, f1, f2, f3, hz⟩, hc, hm, hx⟩ := h
  refine ⟨a, cap, ⟨?_, World.cell?_setCell_same _ _ _ c1, ?_, ?_, ?_, ?_, ?_, ?_, by simpa using hz⟩, hc, hm, ?_⟩
  · rw [World.cell?_setCell_other _ _ _ _ (by simp)]; exact c0
  · rw [World.cell?_setCell_other _ _ _ _ (by simp)]; exact c2
  · rw [World.cell?_setCell_other _ _ _ _ (by simp)]; exact c3
  · rw [World.frozen?_setCell]; exact f0
  · rw [World.frozen?_setCell]; exact f1
  · rw [World.frozen?_setCell]; exact f2
  · rw [World.frozen?_setCell]; exact f3
  · rcases hx with hx | ⟨b, o, ha, n1, n2, hbl, hcell⟩
    · exact .inl hx
    · exact .inr ⟨b, o, ha, n1, n2, by simpa using hbl, fun j hj => by rw [World.cell?_setCell_other _ _ _ _ (by first | (simp; done) | (simp; omega))]; exact hcell j hj⟩
theorem Rd.set23 (h : Rd f w g z ts pos off e) (p q : Nat) : Rd f ((w.setCell ⟨g, 2, none⟩ (.int .i64 p)).setCell ⟨g, 3, none⟩ (.int .i64 q)) g z ts pos p q := by
  obtain ⟨a, cap, ⟨c0, c1, c2, c3, f0, f1, f2, f3, hz⟩, hc, hm, hx⟩ := h
  refine ⟨a, cap, ⟨?_, ?_, ?_, ?_, ?_, ?_, ?_, ?_, by simpa using hz⟩, hc, hm, ?_⟩
  · rw [World.cell?_setCell_other _ _ _ _ (by simp), World.cell?_setCell_other _ _ _ _ (by simp)]; exact c0
  · rw [World.cell?_setCell_other _ _ _ _ (by simp), World.cell?_setCell_other _ _ _ _ (by simp)]; exact c1
  · rw [World.cell?_setCell_other _ _ _ _ (by simp)]; exact World.cell?_setCell_same _ _ _ c2
  · exact World.cell?_setCell_same _ _ _ (u := .int .i64 e) (by rw [World.cell?_setCell_other _ _ _ _ (by simp)]; exact c3)
  · rw [World.frozen?_setCell, World.frozen?_setCell]; exact f0
  · rw [World.frozen?_setCell, World.frozen?_setCell]; exact f1
  · rw [World.frozen?_setCell, World.frozen?_setCell]; exact f2
  · rw [World.frozen?_setCell, World.frozen?_setCell]; exact f3
  · rcases hx with hx | ⟨b, o, ha, n1, n2, hbl, hcell⟩
    · exact .inl hx
    · exact .inr ⟨b, o, ha, n1, n2, by simpa using hbl, fun j hj => by rw [World.cell?_setCell_other _ _ _ _ (by first | (simp; done) | (simp; omega)), World.cell?_setCell_other _ _ _ _ (by first | (simp; done) | (simp; omega))]; exact hcell j hj⟩
end

def offF (ts : List Tok) (pos : Nat) : Nat := if ts.length ≤ pos ∧ 0 < ts.length then (ts.getD (ts.length - 1) tz).pos else (ts.getD pos tz).pos
def pkF (ts : List Tok) (pos e : Nat) : Tok := if e = 0 then ts.getD pos tz else tz

theorem ok_any (f : Tok → List Value) (w : World) (g z : Nat) (ts : List Tok) (pos off e : Nat) (h : Rd f w g z ts pos off e) :
    Calls Tryd.prog 48 #[.pointer (some ⟨g, 0, none⟩)] w fun en w' => en = .returned (.bool (decide (e = 0))) ∧ w = w' := by
  obtain ⟨a, cap, ⟨c0, c1, c2, c3, f0, f1, f2, f3, hz⟩, hc, hm, hx⟩ := h
  by_cases he : e = 0
  · subst he
    clear hx
    go_enter Tryd.func48, Tryd.ntmps48
    go_wp2_with fail
    go_ret
    exact ⟨rfl, rfl⟩
  · have he2 : ((e : Int) == 0) = false := by simpa using he
    have hd : decide (e = 0) = false := decide_eq_false he
    rw [hd]
    clear hx he hd
    go_enter Tryd.func48, Tryd.ntmps48
    go_wp2_with fail
    go_ret
    exact ⟨rfl, rfl⟩

theorem here_any (w : World) (g z : Nat) (ts : List Tok) (pos off e : Nat) (h : Rd tokV w g z ts pos off e) (hp : pos ≤ ts.length) :
    Calls Tryd.prog 49 #[.pointer (some ⟨g, 0, none⟩)] w fun en w' => en = .returned (aggP (ts.getD pos tz)) ∧ Below w.heap.size w w' := by
  obtain ⟨a, cap, ⟨c0, c1, c2, c3, f0, f1, f2, f3, hz⟩, hc, hm, hx⟩ := h
  obtain ⟨n, hn⟩ : ∃ n, n = ts.length := ⟨_, rfl⟩
  rw [← hn] at c0 hc hp hx
  have hgz : g < w.heap.size := by omega
  by_cases hlt : pos < n
  · rcases hx with hx | ⟨b, o, rfl, hne, _, hb, hcell⟩
    · rw [hx] at hn; simp at hn; omega
    obtain ⟨t, ht⟩ : ∃ t, ts[pos]? = some t := ⟨_, List.getElem?_eq_getElem (by omega)⟩
    have hget : ts.getD pos tz = t := by rw [List.getD_eq_getElem?_getD, ht]; rfl
    obtain ⟨p0, p1, p2, p3⟩ := tokP_cells hcell pos t hlt ht
    rw [hget]
    have hi1 : (pos : Int) < (n : Int) := by omega
    have hi0 : (0 : Int) ≤ (pos : Int) := by omega
    clear hcell ht hget hn
    obtain ⟨k, tx, nn, ps⟩ := t
    unfold aggP
    dsimp only at p0 p1 p2 p3 ⊢
    go_enter Tryd.func49, Tryd.ntmps49
    go_wp2_with fail
    go_quiet (fail)
    go_wp2_with fail
    go_region
    all_goals
      go_wp2_with fail
      go_returns
      exact ⟨rfl, by (go_grown; all_goals (refine below_drewN ?_ _; go_grown))⟩
  · have hget : ts.getD pos tz = tz := by rw [List.getD_eq_getElem?_getD, List.getElem?_eq_none (by omega)]; rfl
    rw [hget]
    have hge : ¬ (pos : Int) < (n : Int) := by omega
    clear hx hget hn
    unfold aggP tz
    go_enter Tryd.func49, Tryd.ntmps49
    go_wp2_with fail
    go_quiet (fail)
    go_wp2_with fail
    go_returns
    exact ⟨rfl, by (go_grown; all_goals (refine below_drewN ?_ _; go_grown))⟩

theorem peek_any (w : World) (g z : Nat) (ts : List Tok) (pos off e : Nat) (h : Rd tokV w g z ts pos off e) (hp : pos ≤ ts.length) :
    Calls Tryd.prog 16 #[.pointer (some ⟨g, 0, none⟩)] w fun en w' => en = .returned (aggP (pkF ts pos e)) ∧ Below w.heap.size w w' := by
  unfold pkF
  have hok := Lib.hid (fun w' (hb : Below w.heap.size w w') => ok_any tokV w' g z ts pos off e (h.below hb))
  have hh := Lib.hid (fun w' (hb : Below w.heap.size w w') => here_any w' g z ts pos off e (h.below hb) hp)
  have hgz := h.lt
  clear h
  by_cases he : e = 0
  · subst he
    rw [if_pos rfl]
    generalize ts.getD pos tz = t at *
    unfold aggP at *
    go_enter Tryd.func16, Tryd.ntmps16
    go_wp2_with (first
      | (go_at_call 48; refine (hok.out _ (by go_grown)).mono ?_; rintro en w' ⟨rfl, rfl⟩; rw [decide_eq_true rfl])
      | (go_at_call 49; refine (hh.out _ (by go_grown)).mono ?_; rintro en w2 ⟨rfl, hb2⟩; obtain ⟨c0, c1, c2, c3, f0, f1, f2, f3, hsz2⟩ := blk4 rfl hb2))
    refine bodyPost_ret (v := .agg #[.int .u8 t.kind, .string ⟨t.text.toArray⟩, .int .i64 t.n, .int .i64 t.pos]) (by simp [results, Tryd.results16, go_sem, c0, c1, c2, c3]) rfl ⟨rfl, ?_⟩
    have hb3 : Below w.heap.size w w2 := ((Below.refl _ _).alloc (Nat.le_refl _) _).trans (hb2.mono (by simp))
    exact (((hb3.setCell (by exact Nat.le_refl _) _).setCell (by exact Nat.le_refl _) _).setCell (by exact Nat.le_refl _) _).setCell (by exact Nat.le_refl _) _
  · rw [if_neg he]
    have hd : decide (e = 0) = false := decide_eq_false he
    unfold aggP tz
    go_enter Tryd.func16, Tryd.ntmps16
    go_wp2_with (go_at_call 48; refine (hok.out _ (by go_grown)).mono ?_; rintro en w' ⟨rfl, rfl⟩; rw [hd])
    go_returns
    exact ⟨rfl, by go_grown⟩

theorem err_any (f : Tok → List Value) (w : World) (g z : Nat) (ts : List Tok) (pos off e : Nat) (h : Rd f w g z ts pos off e) :
    Calls Tryd.prog 19 #[.pointer (some ⟨g, 0, none⟩)] w fun en w' => en = .returned (.tuple #[.int .i64 off, .int .i64 e]) ∧ Below w.heap.size w w' := by
  obtain ⟨a, cap, ⟨c0, c1, c2, c3, f0, f1, f2, f3, hz⟩, hc, hm, hx⟩ := h
  clear hx
  go_enter Tryd.func19, Tryd.ntmps19
  go_wp2_with fail
  go_quiet (fail)
  go_wp2_with fail
  go_ret2
  exact ⟨rfl, below_drewN (Below.refl _ _) _⟩

set_option maxRecDepth 100000 in
theorem offset_any (w : World) (g z : Nat) (ts : List Tok) (pos off e : Nat) (h : Rd tokV w g z ts pos off e) (hp : pos ≤ ts.length) :
    Calls Tryd.prog 69 #[.pointer (some ⟨g, 0, none⟩)] w fun en w' => en = .returned (.int .i64 (offF ts pos)) ∧ Below w.heap.size w w' := by
  have hh := Lib.hid (fun w' (hb : Below w.heap.size w w') => here_any w' g z ts pos off e (h.below hb) hp)
  obtain ⟨a, cap, ⟨c0, c1, c2, c3, f0, f1, f2, f3, hz⟩, hc, hm, hx⟩ := h
  obtain ⟨n, hn⟩ : ∃ n, n = ts.length := ⟨_, rfl⟩
  have hoff : Hid (offF ts pos = if n ≤ pos ∧ 0 < n then (ts.getD (n - 1) tz).pos else (ts.getD pos tz).pos) := by show _ = _; rw [hn]; rfl
  rw [← hn] at c0 hc hp hx
  have hgz : g < w.heap.size := by omega
  by_cases hge : n ≤ pos
  · have hge1 : (n : Int) ≤ (pos : Int) := by omega
    by_cases h0 : 0 < n
    · rcases hx with hx | ⟨b, o, rfl, hne, _, hb, hcell⟩
      · rw [hx] at hn; simp at hn; omega
      obtain ⟨t, ht⟩ : ∃ t, ts[n - 1]? = some t := ⟨_, List.getElem?_eq_getElem (by omega)⟩
      obtain ⟨p0, p1, p2, p3⟩ := tokP_cells hcell (n - 1) t (by omega) ht
      have hres : Hid (offF ts pos = t.pos) := by
        show _ = _
        rw [hoff.out, if_pos ⟨hge, h0⟩, List.getD_eq_getElem?_getD, ht]; rfl
      have h01 : (0 : Int) < (n : Int) := by omega
      have hsub : IntKind.i64.wrap ((n : Int) - 1) = (n : Int) - 1 := IntWalk.i64_in _ (by omega)
      have hs0 : (0 : Int) ≤ (n : Int) - 1 := by omega
      have hs1 : (n : Int) - 1 < (n : Int) := by omega
      have hs2 : ((n : Int) - 1).toNat = n - 1 := by omega
      clear hcell ht hn hoff hh
      go_enter Tryd.func69, Tryd.ntmps69
      go_wp2_with fail
      go_quiet (fail)
      go_wp2_with fail
      go_quiet (fail)
      go_wp2_with fail
      go_ret
      exact ⟨ret_int (by rw [hres.out]), below_drewN (below_drewN (Below.refl _ _) _) _⟩
    · have hn0 : n = 0 := by omega
      have hres : Hid (offF ts pos = (ts.getD pos tz).pos) := by show _ = _; rw [hoff.out, if_neg (by omega)]
      subst hn0
      clear hx hn hoff
      generalize ts.getD pos tz = t at *
      unfold aggP at hh
      have hfd : ∀ v : World, (Instr.field 30 (.agg #[.int .u8 t.kind, .string ⟨t.text.toArray⟩, .int .i64 t.n, .int .i64 t.pos]) 3).run Tryd.prog v = .ok (.int .i64 t.pos) v := fun _ => by kernel_rfl
      go_enter Tryd.func69, Tryd.ntmps69
      go_wp2_with fail
      go_quiet (fail)
      go_wp2_with (go_at_call 49; refine (hh.out _ (below_drewN (Below.refl _ _) _)).mono ?_; rintro en w2 ⟨rfl, hb2⟩)
      go_ret
      exact ⟨ret_int (by rw [hres.out]), below_drewN (Below.refl _ _) _ |>.trans (hb2.mono (by simp))⟩
  · have hres : Hid (offF ts pos = (ts.getD pos tz).pos) := by show _ = _; rw [hoff.out, if_neg (by omega)]
    have hge1 : ¬ (n : Int) ≤ (pos : Int) := by omega
    have hge2 : decide ((n : Int) ≤ (pos : Int)) = false := by simpa using hge
    clear hx hn hoff
    generalize ts.getD pos tz = t at *
    unfold aggP at hh
    have hfd : ∀ v : World, (Instr.field 30 (.agg #[.int .u8 t.kind, .string ⟨t.text.toArray⟩, .int .i64 t.n, .int .i64 t.pos]) 3).run Tryd.prog v = .ok (.int .i64 t.pos) v := fun _ => by kernel_rfl
    go_enter Tryd.func69, Tryd.ntmps69
    go_wp2_with fail
    go_quiet (fail)
    go_wp2_with (go_at_call 49; refine (hh.out _ (below_drewN (Below.refl _ _) _)).mono ?_; rintro en w2 ⟨rfl, hb2⟩)
    go_ret
    exact ⟨ret_int (by rw [hres.out]), below_drewN (Below.refl _ _) _ |>.trans (hb2.mono (by simp))⟩

end Go.Proofs.YtkmchnggcjmchaaDoor
