/- Several of the texts below, joined: TkR TkS TkT TkV TkU. -/
import Derived.Test.YtfjpbkmnlmecgaaGreatDoorQgc
import Derived.Deep.QuietTactic
import Derived.BigQuiet
import Derived.RegionTactic
import Derived.BigRegion
import Derived.LaidEqlPtr
import Derived.Test.YtfjpbkmnlmecgaaGreatDoorQgb
import Derived.Laws.EntriesVeiled
import Derived.Outline
section
/- Contracts of the program's reader: ok, here, offset, Peek, Err. -/
namespace Go.Proofs.YtfjpbkmnlmecgaaGreatDoor
open Go.RowKit Go.PlainAid
set_option linter.unusedVariables false
set_option linter.unusedSimpArgs false
set_option maxHeartbeats 600000

def tz : Tok := ⟨0, [], 0, 0⟩
def aggP (t : Tok) : Value := .agg #[.int .u8 t.kind, .string ⟨t.text.toArray⟩, .int .i64 t.n, .int .i64 t.pos]
def aggR (t : Tok) : Value := .agg #[.int .i64 t.kind, .string ⟨t.text.toArray⟩, .int .i64 t.n, .int .i64 t.pos]
/-- A reader over tokens (f: how a token's cells are): its block g, the row of its tokens elsewhere (and ahead of block z). -/
def Rd (f : Tok → List Value) (w : World) (g z : Nat) (ts : List Tok) (pos off e : Nat) : Prop :=
  ∃ a cap, Blk4 w g (.slice a ts.length cap) (.int .i64 pos) (.int .i64 off) (.int .i64 e) ∧ ts.length ≤ cap ∧ cap ≤ 9223372036854775807 ∧
    (ts = [] ∨ ∃ b o, a = some ⟨b, o, none⟩ ∧ b ≠ g ∧ b < z ∧ b < w.heap.size ∧ ∀ j, j < ts.length * 4 → w.cell? ⟨b, o + j, none⟩ = some ((ts.flatMap f).getD j undef))
section
variable {f : Tok → List Value} {w w' : World} {g z : Nat} {ts : List Tok} {pos off e : Nat}
theorem gb_of_below (h : Below w.heap.size w w') (row : Option Nat) : w.grownBy w' row := ⟨h.os, h.tape, h.output, h.size, fun k hk _ => h.block k hk⟩
theorem gb_trans {w2 : World} {row : Option Nat} (h : w.grownBy w' row) (k : w'.grownBy w2 row) : w.grownBy w2 row :=
  ⟨k.os.trans h.os, k.tape.trans h.tape, k.output.trans h.output, Nat.le_trans h.size k.size, fun i hi hr => (k.block i (Nat.lt_of_lt_of_le hi h.size) hr).trans (h.block i hi hr)⟩
theorem gb_set (w : World) (j : Nat) (u : Value) : w.grownBy (w.setCell ⟨g, j, none⟩ u) (some g) :=
  ⟨rfl, rfl, rfl, by simp [World.setCell], fun k hk hr => Below.heap_setCell _ _ _ _ (fun e => hr (by rw [e]))⟩
theorem Rd.moved (h : Rd f w g z ts pos off e) {row : Option Nat} (hg : w.grownBy w' row) (h1 : row ≠ some g) (h2 : row = none ∨ ∃ q, row = some q ∧ z ≤ q) : Rd f w' g z ts pos off e := by
  obtain ⟨a, cap, hb4, hc, hm, hx⟩ := h
  have hgl : g < w.heap.size := by have := hb4.2.2.2.2.2.2.2.2; omega
  have hbg : w'.heap[g]? = w.heap[g]? := hg.block g hgl (fun e => h1 e.symm)
  obtain ⟨c0, c1, c2, c3, f0, f1, f2, f3, hz⟩ := hb4
  have hsz := hg.size
  refine ⟨a, cap, ⟨?_, ?_, ?_, ?_, ?_, ?_, ?_, ?_, by omega⟩, hc, hm, ?_⟩
  · rw [World.cell?_of_block (w := w) hbg]; exact c0
  · rw [World.cell?_of_block (w := w) hbg]; exact c1
  · rw [World.cell?_of_block (w := w) hbg]; exact c2
  · rw [World.cell?_of_block (w := w) hbg]; exact c3
  · rw [World.frozen?_of_block (w := w) hbg]; exact f0
  · rw [World.frozen?_of_block (w := w) hbg]; exact f1
  · rw [World.frozen?_of_block (w := w) hbg]; exact f2
  · rw [World.frozen?_of_block (w := w) hbg]; exact f3
  · rcases hx with hx | ⟨b, o, ha, n1, n2, hbl, hcell⟩
    · exact .inl hx
    · refine .inr ⟨b, o, ha, n1, n2, by omega, fun j hj => ?_⟩
      have hbb : w'.heap[b]? = w.heap[b]? := hg.block b hbl (fun e => by
        rcases h2 with h2 | ⟨q, h2, hq⟩
        · rw [h2] at e; cases e
        · rw [h2] at e; have := Option.some.inj e; omega)
      rw [World.cell?_of_block (w := w) hbb]; exact hcell j hj
theorem Rd.below (h : Rd f w g z ts pos off e) (hb : Below w.heap.size w w') : Rd f w' g z ts pos off e :=
  h.moved (gb_of_below hb none) (by simp) (.inl rfl)
theorem Rd.lt (h : Rd f w g z ts pos off e) : g < w.heap.size := by
  obtain ⟨a, cap, hb4, _⟩ := h
  have := hb4.2.2.2.2.2.2.2.2; omega
theorem Rd.set1 (h : Rd f w g z ts pos off e) (p : Nat) : Rd f (w.setCell ⟨g, 1, none⟩ (.int .i64 p)) g z ts p off e := by
  obtain ⟨a, cap, ⟨c0, c1, c2, c3, f0, f1, f2, f3, hz⟩, hc, hm, hx⟩ := h
  refine ⟨a, cap, ⟨?_, World.cell?_setCell_same _ _ _ c1, ?_, ?_, ?_, ?_, ?_, ?_, by simpa using hz⟩, hc, hm, ?_⟩
  · rw [World.cell?_setCell_other _ _ _ _ (by simp)]; exact c0
  · rw [World.cell?_setCell_other _ _ _ _ (by simp)]; exact c2
  · rw [World.cell?_setCell_other _ _ _ _ (by simp)]; exact c3
  · rw [World.frozen?_setCell]; exact f0
  · rw [World.frozen?_setCell]; exact f1
  · rw [World.frozen?_setCell]; exact f2
  · rw [World.frozen?_setCell]; exact f3
  · rcases hx with hx | ⟨b, o, ha, n1, n2, hbl, hcell⟩
    · exact .inl hx
    · exact .inr ⟨b, o, ha, n1, n2, by simpa using hbl, fun j hj => by rw [World.cell?_setCell_other _ _ _ _ (by first | (simp; done) | (simp; omega))]; exact hcell j hj⟩
theorem Rd.set23 (h : Rd f w g z ts pos off e) (p q : Nat) : Rd f ((w.setCell ⟨g, 2, none⟩ (.int .i64 p)).setCell ⟨g, 3, none⟩ (.int .i64 q)) g z ts pos p q := by
  obtain ⟨a, cap, ⟨c0, c1, c2, c3, f0, f1, f2, f3, hz⟩, hc, hm, hx⟩ := h
  refine ⟨a, cap, ⟨?_, ?_, ?_, ?_, ?_, ?_, ?_, ?_, by simpa using hz⟩, hc, hm, ?_⟩
  · rw [World.cell?_setCell_other _ _ _ _ (by simp), World.cell?_setCell_other _ _ _ _ (by simp)]; exact c0
  · rw [World.cell?_setCell_other _ _ _ _ (by simp), World.cell?_setCell_other _ _ _ _ (by simp)]; exact c1
  · rw [World.cell?_setCell_other _ _ _ _ (by simp)]; exact World.cell?_setCell_same _ _ _ c2
  · exact World.cell?_setCell_same _ _ _ (u := .int .i64 e) (by rw [World.cell?_setCell_other _ _ _ _ (by simp)]; exact c3)
  · rw [World.frozen?_setCell, World.frozen?_setCell]; exact f0
  · rw [World.frozen?_setCell, World.frozen?_setCell]; exact f1
  · rw [World.frozen?_setCell, World.frozen?_setCell]; exact f2
  · rw [World.frozen?_setCell, World.frozen?_setCell]; exact f3
  · rcases hx with hx | ⟨b, o, ha, n1, n2, hbl, hcell⟩
    · exact .inl hx
    · exact .inr ⟨b, o, ha, n1, n2, by simpa using hbl, fun j hj => by rw [World.cell?_setCell_other _ _ _ _ (by first | (simp; done) | (simp; omega)), World.cell?_setCell_other _ _ _ _ (by first | (simp; done) | (simp; omega))]; exact hcell j hj⟩
end

def offF (ts : List Tok) (pos : Nat) : Nat := if ts.length ≤ pos ∧ 0 < ts.length then (ts.getD (ts.length - 1) tz).pos else (ts.getD pos tz).pos
def pkF (ts : List Tok) (pos e : Nat) : Tok := if e = 0 then ts.getD pos tz else tz

theorem ok_any (f : Tok → List Value) (w : World) (g z : Nat) (ts : List Tok) (pos off e : Nat) (h : Rd f w g z ts pos off e) :
    Calls Tryz.prog 146 #[.pointer (some ⟨g, 0, none⟩)] w fun en w' => en = .returned (.bool (decide (e = 0))) ∧ w = w' := by
  obtain ⟨a, cap, ⟨c0, c1, c2, c3, f0, f1, f2, f3, hz⟩, hc, hm, hx⟩ := h
  by_cases he : e = 0
  · subst he
    clear hx
    go_enter Tryz.func146, Tryz.ntmps146
    go_wp2_with fail
    go_ret
    exact ⟨rfl, rfl⟩
  · have he2 : ((e : Int) == 0) = false := by simpa using he
    have hd : decide (e = 0) = false := decide_eq_false he
    rw [hd]
    clear hx he hd
    go_enter Tryz.func146, Tryz.ntmps146
    go_wp2_with fail
    go_ret
    exact ⟨rfl, rfl⟩

theorem here_any (w : World) (g z : Nat) (ts : List Tok) (pos off e : Nat) (h : Rd tokV w g z ts pos off e) (hp : pos ≤ ts.length) :
    Calls Tryz.prog 147 #[.pointer (some ⟨g, 0, none⟩)] w fun en w' => en = .returned (aggP (ts.getD pos tz)) ∧ Below w.heap.size w w' := by
  obtain ⟨a, cap, ⟨c0, c1, c2, c3, f0, f1, f2, f3, hz⟩, hc, hm, hx⟩ := h
  obtain ⟨n, hn⟩ : ∃ n, n = ts.length := ⟨_, rfl⟩
  rw [← hn] at c0 hc hp hx
  have hgz : g < w.heap.size := by omega
  by_cases hlt : pos < n
  · rcases hx with hx | ⟨b, o, rfl, hne, _, hb, hcell⟩
    · rw [hx] at hn; simp at hn; omega
    obtain ⟨t, ht⟩ : ∃ t, ts[pos]? = some t := ⟨_, List.getElem?_eq_getElem (by omega)⟩
    have hget : ts.getD pos tz = t := by rw [List.getD_eq_getElem?_getD, ht]; rfl
    obtain ⟨p0, p1, p2, p3⟩ := tokP_cells hcell pos t hlt ht
    rw [hget]
    have hi1 : (pos : Int) < (n : Int) := by omega
    have hi0 : (0 : Int) ≤ (pos : Int) := by omega
    clear hcell ht hget hn
    obtain ⟨k, tx, nn, ps⟩ := t
    unfold aggP
    dsimp only at p0 p1 p2 p3 ⊢
    go_enter Tryz.func147, Tryz.ntmps147
    go_wp2_with fail
    go_quiet (fail)
    go_wp2_with fail
    go_region
    all_goals
      go_wp2_with fail
      go_returns
      exact ⟨rfl, by (go_grown; all_goals (refine below_drewN ?_ _; go_grown))⟩
  · have hget : ts.getD pos tz = tz := by rw [List.getD_eq_getElem?_getD, List.getElem?_eq_none (by omega)]; rfl
    rw [hget]
    have hge : ¬ (pos : Int) < (n : Int) := by omega
    clear hx hget hn
    unfold aggP tz
    go_enter Tryz.func147, Tryz.ntmps147
    go_wp2_with fail
    go_quiet (fail)
    go_wp2_with fail
    go_returns
    exact ⟨rfl, by (go_grown; all_goals (refine below_drewN ?_ _; go_grown))⟩

theorem peek_any (w : World) (g z : Nat) (ts : List Tok) (pos off e : Nat) (h : Rd tokV w g z ts pos off e) (hp : pos ≤ ts.length) :
    Calls Tryz.prog 66 #[.pointer (some ⟨g, 0, none⟩)] w fun en w' => en = .returned (aggP (pkF ts pos e)) ∧ Below w.heap.size w w' := by
  unfold pkF
  have hok := Lib.hid (fun w' (hb : Below w.heap.size w w') => ok_any tokV w' g z ts pos off e (h.below hb))
  have hh := Lib.hid (fun w' (hb : Below w.heap.size w w') => here_any w' g z ts pos off e (h.below hb) hp)
  have hgz := h.lt
  clear h
  by_cases he : e = 0
  · subst he
    rw [if_pos rfl]
    generalize ts.getD pos tz = t at *
    unfold aggP at *
    go_enter Tryz.func66, Tryz.ntmps66
    go_wp2_with (first
      | (go_at_call 146; refine (hok.out _ (by go_grown)).mono ?_; rintro en w' ⟨rfl, rfl⟩; rw [decide_eq_true rfl])
      | (go_at_call 147; refine (hh.out _ (by go_grown)).mono ?_; rintro en w2 ⟨rfl, hb2⟩; obtain ⟨c0, c1, c2, c3, f0, f1, f2, f3, hsz2⟩ := blk4 rfl hb2))
    refine bodyPost_ret (v := .agg #[.int .u8 t.kind, .string ⟨t.text.toArray⟩, .int .i64 t.n, .int .i64 t.pos]) (by simp [results, Tryz.results66, go_sem, c0, c1, c2, c3]) rfl ⟨rfl, ?_⟩
    have hb3 : Below w.heap.size w w2 := ((Below.refl _ _).alloc (Nat.le_refl _) _).trans (hb2.mono (by simp))
    exact (((hb3.setCell (by exact Nat.le_refl _) _).setCell (by exact Nat.le_refl _) _).setCell (by exact Nat.le_refl _) _).setCell (by exact Nat.le_refl _) _
  · rw [if_neg he]
    have hd : decide (e = 0) = false := decide_eq_false he
    unfold aggP tz
    go_enter Tryz.func66, Tryz.ntmps66
    go_wp2_with (go_at_call 146; refine (hok.out _ (by go_grown)).mono ?_; rintro en w' ⟨rfl, rfl⟩; rw [hd])
    go_returns
    exact ⟨rfl, by go_grown⟩

theorem err_any (f : Tok → List Value) (w : World) (g z : Nat) (ts : List Tok) (pos off e : Nat) (h : Rd f w g z ts pos off e) :
    Calls Tryz.prog 69 #[.pointer (some ⟨g, 0, none⟩)] w fun en w' => en = .returned (.tuple #[.int .i64 off, .int .i64 e]) ∧ Below w.heap.size w w' := by
  obtain ⟨a, cap, ⟨c0, c1, c2, c3, f0, f1, f2, f3, hz⟩, hc, hm, hx⟩ := h
  clear hx
  go_enter Tryz.func69, Tryz.ntmps69
  go_wp2_with fail
  go_quiet (fail)
  go_wp2_with fail
  go_ret2
  exact ⟨rfl, below_drewN (Below.refl _ _) _⟩

set_option maxRecDepth 100000 in
theorem offset_any (w : World) (g z : Nat) (ts : List Tok) (pos off e : Nat) (h : Rd tokV w g z ts pos off e) (hp : pos ≤ ts.length) :
    Calls Tryz.prog 148 #[.pointer (some ⟨g, 0, none⟩)] w fun en w' => en = .returned (.int .i64 (offF ts pos)) ∧ Below w.heap.size w w' := by
  have hh := Lib.hid (fun w' (hb : Below w.heap.size w w') => here_any w' g z ts pos off e (h.below hb) hp)
  obtain ⟨a, cap, ⟨c0, c1, c2, c3, f0, f1, f2, f3, hz⟩, hc, hm, hx⟩ := h
  obtain ⟨n, hn⟩ : ∃ n, n = ts.length := ⟨_, rfl⟩
  have hoff : Hid (offF ts pos = if n ≤ pos ∧ 0 < n then (ts.getD (n - 1) tz).pos else (ts.getD pos tz).pos) := by show _ = _; rw [hn]; rfl
  rw [← hn] at c0 hc hp hx
  have hgz : g < w.heap.size := by omega
  by_cases hge : n ≤ pos
  · have hge1 : (n : Int) ≤ (pos : Int) := by omega
    by_cases h0 : 0 < n
    · rcases hx with hx | ⟨b, o, rfl, hne, _, hb, hcell⟩
      · rw [hx] at hn; simp at hn; omega
      obtain ⟨t, ht⟩ : ∃ t, ts[n - 1]? = some t := ⟨_, List.getElem?_eq_getElem (by omega)⟩
      obtain ⟨p0, p1, p2, p3⟩ := tokP_cells hcell (n - 1) t (by omega) ht
      have hres : Hid (offF ts pos = t.pos) := by
        show _ = _
        rw [hoff.out, if_pos ⟨hge, h0⟩, List.getD_eq_getElem?_getD, ht]; rfl
      have h01 : (0 : Int) < (n : Int) := by omega
      have hsub : IntKind.i64.wrap ((n : Int) - 1) = (n : Int) - 1 := IntWalk.i64_in _ (by omega)
      have hs0 : (0 : Int) ≤ (n : Int) - 1 := by omega
      have hs1 : (n : Int) - 1 < (n : Int) := by omega
      have hs2 : ((n : Int) - 1).toNat = n - 1 := by omega
      clear hcell ht hn hoff hh
      go_enter Tryz.func148, Tryz.ntmps148
      go_wp2_with fail
      go_quiet (fail)
      go_wp2_with fail
      go_quiet (fail)
      go_wp2_with fail
      go_ret
      exact ⟨ret_int (by rw [hres.out]), below_drewN (below_drewN (Below.refl _ _) _) _⟩
    · have hn0 : n = 0 := by omega
      have hres : Hid (offF ts pos = (ts.getD pos tz).pos) := by show _ = _; rw [hoff.out, if_neg (by omega)]
      subst hn0
      clear hx hn hoff
      generalize ts.getD pos tz = t at *
      unfold aggP at hh
      have hfd : ∀ v : World, (Instr.field 139 (.agg #[.int .u8 t.kind, .string ⟨t.text.toArray⟩, .int .i64 t.n, .int .i64 t.pos]) 3).run Tryz.prog v = .ok (.int .i64 t.pos) v := fun _ => by kernel_rfl
      go_enter Tryz.func148, Tryz.ntmps148
      go_wp2_with fail
      go_quiet (fail)
      go_wp2_with (go_at_call 147; refine (hh.out _ (below_drewN (Below.refl _ _) _)).mono ?_; rintro en w2 ⟨rfl, hb2⟩)
      go_ret
      exact ⟨ret_int (by rw [hres.out]), below_drewN (Below.refl _ _) _ |>.trans (hb2.mono (by simp))⟩
  · have hres : Hid (offF ts pos = (ts.getD pos tz).pos) := by show _ = _; rw [hoff.out, if_neg (by omega)]
    have hge1 : ¬ (n : Int) ≤ (pos : Int) := by omega
    have hge2 : decide ((n : Int) ≤ (pos : Int)) = false := by simpa using hge
    clear hx hn hoff
    generalize ts.getD pos tz = t at *
    unfold aggP at hh
    have hfd : ∀ v : World, (Instr.field 139 (.agg #[.int .u8 t.kind, .string ⟨t.text.toArray⟩, .int .i64 t.n, .int .i64 t.pos]) 3).run Tryz.prog v = .ok (.int .i64 t.pos) v := fun _ => by kernel_rfl
    go_enter Tryz.func148, Tryz.ntmps148
    go_wp2_with fail
    go_quiet (fail)
    go_wp2_with (go_at_call 147; refine (hh.out _ (below_drewN (Below.refl _ _) _)).mono ?_; rintro en w2 ⟨rfl, hb2⟩)
    go_ret
    exact ⟨ret_int (by rw [hres.out]), below_drewN (Below.refl _ _) _ |>.trans (hb2.mono (by simp))⟩

end Go.Proofs.YtfjpbkmnlmecgaaGreatDoor
end

section
/- Contracts of the program's reader that write: Next, Is, Accept, Fail, Expect, Number. -/
namespace Go.Proofs.YtfjpbkmnlmecgaaGreatDoor
open Go.RowKit Go.PlainAid
set_option linter.unusedVariables false
set_option linter.unusedSimpArgs false
set_option maxHeartbeats 600000

def nxF (ts : List Tok) (pos e : Nat) : Nat := if (pkF ts pos e).kind = 0 then pos else pos + 1
def isB (t : Tok) (x : ByteArray) : Bool := (decide (t.kind = 1) || decide (t.kind = 3)) && (t.text == x.toList)
def acF (ts : List Tok) (pos e : Nat) (x : ByteArray) : Nat := if isB (pkF ts pos e) x then pos + 1 else pos
def foF (ts : List Tok) (pos off e c : Nat) : Nat := if e = 0 ∧ c ≠ 0 then offF ts pos else off
def feF (e c : Nat) : Nat := if e = 0 then c else e

theorem pk_lt {ts : List Tok} {pos e : Nat} (h : (pkF ts pos e).kind ≠ 0) : pos < ts.length ∧ e = 0 := by
  unfold pkF at h
  split at h
  · refine ⟨?_, by assumption⟩
    by_cases hl : pos < ts.length
    · exact hl
    · rw [List.getD_eq_getElem?_getD, List.getElem?_eq_none (by omega)] at h; exact absurd rfl h
  · exact absurd rfl h

theorem Blk4.set1 {w : World} {g : Nat} {a b c d : Value} (h : Blk4 w g a b c d) (b' : Value) : Blk4 (w.setCell ⟨g, 1, none⟩ b') g a b' c d := by
  obtain ⟨h0, h1, h2, h3, f0, f1, f2, f3, hs⟩ := h
  refine ⟨?_, World.cell?_setCell_same _ _ _ h1, ?_, ?_, ?_, ?_, ?_, ?_, by simpa using hs⟩
  · rw [World.cell?_setCell_other _ _ _ _ (by simp)]; exact h0
  · rw [World.cell?_setCell_other _ _ _ _ (by simp)]; exact h2
  · rw [World.cell?_setCell_other _ _ _ _ (by simp)]; exact h3
  · rw [World.frozen?_setCell]; exact f0
  · rw [World.frozen?_setCell]; exact f1
  · rw [World.frozen?_setCell]; exact f2
  · rw [World.frozen?_setCell]; exact f3
theorem Blk4.set3 {w : World} {g : Nat} {a b c d : Value} (h : Blk4 w g a b c d) (d' : Value) : Blk4 (w.setCell ⟨g, 3, none⟩ d') g a b c d' := by
  obtain ⟨h0, h1, h2, h3, f0, f1, f2, f3, hs⟩ := h
  refine ⟨?_, ?_, ?_, World.cell?_setCell_same _ _ _ h3, ?_, ?_, ?_, ?_, by simpa using hs⟩
  · rw [World.cell?_setCell_other _ _ _ _ (by simp)]; exact h0
  · rw [World.cell?_setCell_other _ _ _ _ (by simp)]; exact h1
  · rw [World.cell?_setCell_other _ _ _ _ (by simp)]; exact h2
  · rw [World.frozen?_setCell]; exact f0
  · rw [World.frozen?_setCell]; exact f1
  · rw [World.frozen?_setCell]; exact f2
  · rw [World.frozen?_setCell]; exact f3

section
variable {f : Tok → List Value} {w wA wB : World} {g z : Nat} {ts : List Tok} {pos off e p o' e' : Nat}
theorem Rd.upd (h : Rd f w g z ts pos off e) (hg : w.grownBy wB (some g))
    (hb : ∀ sv, Blk4 w g sv (.int .i64 pos) (.int .i64 off) (.int .i64 e) → Blk4 wB g sv (.int .i64 p) (.int .i64 o') (.int .i64 e')) : Rd f wB g z ts p o' e' := by
  obtain ⟨a, cap, hb4, hc, hm, hx⟩ := h
  refine ⟨a, cap, hb _ hb4, hc, hm, ?_⟩
  rcases hx with hx | ⟨b, o, ha, n1, n2, hbl, hcell⟩
  · exact .inl hx
  · refine .inr ⟨b, o, ha, n1, n2, Nat.lt_of_lt_of_le hbl hg.size, fun j hj => ?_⟩
    rw [World.cell?_of_block (w := w) (hg.block b hbl (fun e => n1 (Option.some.inj e)))]; exact hcell j hj
theorem gb_mid (v : World) (j : Nat) (u : Value) {N : Nat} (hN : w.heap.size = N) (h1 : Below N w v) : w.grownBy (v.setCell ⟨g, j, none⟩ u) (some g) :=
  ⟨h1.os, h1.tape, h1.output, by simpa [World.setCell] using h1.size, fun k hk hr => (Below.heap_setCell _ _ _ _ (fun e => hr (by rw [e]))).trans (h1.block k (by omega))⟩
theorem gb_tail {u v : World} {N : Nat} (h : w.grownBy u (some g)) (hN : w.heap.size = N) (h1 : Below N u v) : w.grownBy v (some g) :=
  ⟨h1.os.trans h.os, h1.tape.trans h.tape, h1.output.trans h.output, Nat.le_trans h.size h1.size, fun k hk hr => (h1.block k (by omega)).trans (h.block k hk hr)⟩
/-- A store to the place of the present token, with other memory before and behind. -/
theorem Rd.chain1 {v : Value} (h : Rd f w g z ts pos off e) (hv : v = .int .i64 p) (h2 : Below w.heap.size (wA.setCell ⟨g, 1, none⟩ v) wB) (h1 : Below w.heap.size w wA) : w.grownBy wB (some g) ∧ Rd f wB g z ts p off e := by
  subst hv
  have hg := gb_tail (gb_mid (g := g) wA 1 (.int .i64 p) rfl h1) rfl h2
  exact ⟨hg, h.upd hg fun sv hb => ((hb.below h1 h.lt).set1 _).below h2 h.lt⟩
theorem Rd.chain23 (h : Rd f w g z ts pos off e) (h2 : Below w.heap.size ((wA.setCell ⟨g, 2, none⟩ (.int .i64 p)).setCell ⟨g, 3, none⟩ (.int .i64 o')) wB) (h1 : Below w.heap.size w wA) : w.grownBy wB (some g) ∧ Rd f wB g z ts pos p o' := by
  have hg1 := gb_mid (g := g) wA 2 (.int .i64 p) rfl h1
  have hg2 : w.grownBy ((wA.setCell ⟨g, 2, none⟩ (.int .i64 p)).setCell ⟨g, 3, none⟩ (.int .i64 o')) (some g) := gb_trans hg1 (gb_set _ _ _)
  have hg := gb_tail hg2 rfl h2
  exact ⟨hg, h.upd hg fun sv hb => (((hb.below h1 h.lt).set2 _).set3 _).below h2 h.lt⟩
theorem Rd.chain0 (h : Rd f w g z ts pos off e) (h1 : Below w.heap.size w wB) : w.grownBy wB (some g) ∧ Rd f wB g z ts pos off e :=
  ⟨⟨h1.os, h1.tape, h1.output, h1.size, fun k hk _ => h1.block k hk⟩, h.below h1⟩
end

theorem rd_after {w w2 : World} {o : Obj} {g : Nat} (hg : g < w.heap.size) (hb2 : Below (w.alloc o).heap.size (w.alloc o) w2) :
    Below w.heap.size w w2 ∧ w.heap.size < w2.heap.size ∧ (w.heap.size = w2.heap.size) = False ∧ g < w2.heap.size ∧ (g = w2.heap.size) = False ∧ (g = w.heap.size) = False ∧ (w.heap.size = g) = False ∧ (w2.heap.size = g) = False := by
  have hs := hb2.size
  simp at hs
  exact ⟨((Below.refl _ _).alloc (Nat.le_refl _) _).trans (hb2.mono (by simp)), by omega, eq_false (by omega), by omega, eq_false (by omega), eq_false (by omega), eq_false (by omega), eq_false (by omega)⟩
theorem is_any (w : World) (g z : Nat) (ts : List Tok) (pos off e : Nat) (x : ByteArray) (h : Rd tokV w g z ts pos off e) (hp : pos ≤ ts.length) :
    Calls Tryz.prog 215 #[.pointer (some ⟨g, 0, none⟩), .string x] w fun en w' => en = .returned (.bool (isB (pkF ts pos e) x)) ∧ Below w.heap.size w w' := by
  have hpk := Lib.hid (fun w' (hb : Below w.heap.size w w') => peek_any w' g z ts pos off e (h.below hb) hp)
  generalize pkF ts pos e = t at *
  clear h
  unfold aggP at *
  by_cases k1 : t.kind = 1
  · have k0 : (t.kind : Int) = 1 := by omega
    go_enter Tryz.func215, Tryz.ntmps215
    go_wp2_with (go_at_call 66; refine (hpk.out _ (by go_grown)).mono ?_; rintro en w2 ⟨rfl, hb2⟩)
    go_returns
    exact ⟨ret_bool (by unfold isB; simp [k1]), by have := hb2.size; go_grown⟩
  · have k0 : ((t.kind : Int) == 1) = false := by simp; omega
    by_cases k3 : t.kind = 3
    · have k2 : (t.kind : Int) = 3 := by omega
      go_enter Tryz.func215, Tryz.ntmps215
      go_wp2_with (go_at_call 66; refine (hpk.out _ (by go_grown)).mono ?_; rintro en w2 ⟨rfl, hb2⟩)
      go_returns
      exact ⟨ret_bool (by unfold isB; simp [k3]), by have := hb2.size; go_grown⟩
    · have k2 : ((t.kind : Int) == 3) = false := by simp; omega
      go_enter Tryz.func215, Tryz.ntmps215
      go_wp2_with (go_at_call 66; refine (hpk.out _ (by go_grown)).mono ?_; rintro en w2 ⟨rfl, hb2⟩)
      go_returns
      exact ⟨ret_bool (by unfold isB; simp [k1, k3]), by have := hb2.size; go_grown⟩

theorem isB_lt {ts : List Tok} {pos e : Nat} {x : ByteArray} (h : isB (pkF ts pos e) x = true) : pos < ts.length ∧ e = 0 :=
  pk_lt (by intro hk; unfold isB at h; simp [hk] at h)

theorem accept_any (w : World) (g z : Nat) (ts : List Tok) (pos off e : Nat) (x : ByteArray) (h : Rd tokV w g z ts pos off e) (hp : pos ≤ ts.length) :
    Calls Tryz.prog 149 #[.pointer (some ⟨g, 0, none⟩), .string x] w fun en w' => en = .returned (.bool (isB (pkF ts pos e) x)) ∧ w.grownBy w' (some g) ∧ Rd tokV w' g z ts (acF ts pos e x) off e := by
  have his := Lib.hid (fun w' (hb : Below w.heap.size w w') => is_any w' g z ts pos off e x (h.below hb) hp)
  have hH := Lib.hid h
  have hgz := h.lt
  have hlt := fun k => (isB_lt (ts := ts) (pos := pos) (e := e) (x := x) k).1
  unfold acF
  generalize isB (pkF ts pos e) x = b at *
  have hcap : ts.length ≤ 9223372036854775807 := by obtain ⟨_, cap, _, h1, h2, _⟩ := h; omega
  clear h
  cases b
  · rw [if_neg (by simp)]
    clear hlt
    go_enter Tryz.func149, Tryz.ntmps149
    go_wp2_with (go_at_call 215; refine (his.out _ (by go_grown)).mono ?_; rintro en w2 ⟨rfl, hb2⟩)
    go_returns
    exact ⟨rfl, hH.out.chain0 (by go_grown)⟩
  · rw [if_pos rfl]
    have hlt := hlt rfl
    have hw : IntKind.i64.wrap ((pos : Int) + 1) = (pos : Int) + 1 := IntWalk.i64_in _ (by omega)
    clear hcap hp hlt
    go_enter Tryz.func149, Tryz.ntmps149
    go_wp2_with fail
    go_at_call 215
    refine (his.out _ (by go_grown)).mono ?_
    rintro en w2 ⟨rfl, hb2⟩
    obtain ⟨ga, gcap, ⟨g0, g1, g2, g3, e0, e1, e2, e3, -⟩, -⟩ := hH.out.below hb2
    go_wp2_with fail
    go_returns
    refine ⟨rfl, ?_⟩
    apply hH.out.chain1 (p := pos + 1) (v := .int .i64 (↑pos + 1)) rfl
    · repeat (first | (with_reducible exact Below.refl _ _) | (with_reducible refine Below.alloc ?_ (by go_size) _) | (with_reducible refine Below.setCell ?_ (by go_size) _))
    · go_grown

theorem fail_any (w : World) (g z : Nat) (ts : List Tok) (pos off e c : Nat) (h : Rd tokV w g z ts pos off e) (hp : pos ≤ ts.length) :
    Calls Tryz.prog 67 #[.pointer (some ⟨g, 0, none⟩), .int .i64 c] w fun en w' => en = .returned (.tuple #[]) ∧ w.grownBy w' (some g) ∧ Rd tokV w' g z ts pos (foF ts pos off e c) (feF e c) := by
  have hok := Lib.hid (fun w' (hb : Below w.heap.size w w') => ok_any tokV w' g z ts pos off e (h.below hb))
  have hof := Lib.hid (fun w' (hb : Below w.heap.size w w') => offset_any w' g z ts pos off e (h.below hb) hp)
  have hH := Lib.hid h
  have hgz := h.lt
  clear h
  unfold foF feF
  by_cases he : e = 0
  · subst he
    by_cases hc : c = 0
    · subst hc
      rw [if_neg (by simp), if_pos rfl]
      go_enter Tryz.func67, Tryz.ntmps67
      go_wp2_with (go_at_call 146; refine (hok.out _ (by go_grown)).mono ?_; rintro en w2 ⟨rfl, rfl⟩; rw [decide_eq_true rfl])
      go_returns
      exact ⟨rfl, hH.out.chain0 (by go_grown)⟩
    · rw [if_pos ⟨rfl, hc⟩, if_pos rfl]
      have hc0 : ((c : Int) == 0) = false := by simpa using hc
      generalize offF ts pos = o at *
      go_enter Tryz.func67, Tryz.ntmps67
      go_wp2_with (go_at_call 146; refine (hok.out _ (by go_grown)).mono ?_; rintro en w2 ⟨rfl, rfl⟩; rw [decide_eq_true rfl])
      go_at_call 148
      refine (hof.out _ (by go_grown)).mono ?_
      rintro en w2 ⟨rfl, hb2⟩
      obtain ⟨ga, gcap, ⟨g0, g1, g2, g3, e0, e1, e2, e3, -⟩, -⟩ := hH.out.below hb2
      go_wp2_with fail
      go_returns
      refine ⟨rfl, ?_⟩
      apply hH.out.chain23
      · repeat (first | (with_reducible exact Below.refl _ _) | (with_reducible refine Below.alloc ?_ (by go_size) _) | (with_reducible refine Below.setCell ?_ (by go_size) _))
      · go_grown
  · have hd : decide (e = 0) = false := decide_eq_false he
    rw [if_neg (by simp [he]), if_neg he]
    go_enter Tryz.func67, Tryz.ntmps67
    go_wp2_with (go_at_call 146; refine (hok.out _ (by go_grown)).mono ?_; rintro en w2 ⟨rfl, rfl⟩; rw [hd])
    go_returns
    exact ⟨rfl, hH.out.chain0 (by go_grown)⟩

/-- Expect: the place, the kept offset and the kept error behind it. -/
def exO (ts : List Tok) (pos off e : Nat) (x : ByteArray) : Nat := if isB (pkF ts pos e) x then off else foF ts pos off e 8
def exE (ts : List Tok) (pos e : Nat) (x : ByteArray) : Nat := if isB (pkF ts pos e) x then e else feF e 8

theorem expect_any (w : World) (g z : Nat) (ts : List Tok) (pos off e : Nat) (x : ByteArray) (h : Rd tokV w g z ts pos off e) (hp : pos ≤ ts.length) :
    Calls Tryz.prog 150 #[.pointer (some ⟨g, 0, none⟩), .string x] w fun en w' => en = .returned (.tuple #[]) ∧ w.grownBy w' (some g) ∧ Rd tokV w' g z ts (acF ts pos e x) (exO ts pos off e x) (exE ts pos e x) := by
  have hac := Lib.hid (accept_any w g z ts pos off e x h hp)
  have hfa := Lib.hid (fun w' (hr : Rd tokV w' g z ts pos off e) => fail_any w' g z ts pos off e 8 hr hp)
  clear h
  unfold acF exO exE at *
  generalize isB (pkF ts pos e) x = b at *
  cases b
  · rw [if_neg (by simp)] at hac
    simp only [Bool.false_eq_true, if_false]
    generalize foF ts pos off e 8 = o' at *
    generalize feF e 8 = e' at *
    go_enter Tryz.func150, Tryz.ntmps150
    go_wp2_with (first
      | (go_at_call 149; refine hac.out.mono ?_; rintro en w2 ⟨rfl, hg2, hr2⟩; replace hg2 := Lib.hid hg2; replace hr2 := Lib.hid hr2)
      | (go_at_call 67; refine (hfa.out _ hr2.out).mono ?_; rintro en w3 ⟨rfl, hg3, hr3⟩; replace hg3 := Lib.hid hg3; replace hr3 := Lib.hid hr3))
    go_returns
    exact ⟨rfl, gb_trans hg2.out hg3.out, hr3.out⟩
  · rw [if_pos rfl] at hac
    simp only [if_true]
    go_enter Tryz.func150, Tryz.ntmps150
    go_wp2_with (go_at_call 149; refine hac.out.mono ?_; rintro en w2 ⟨rfl, hg2, hr2⟩; replace hg2 := Lib.hid hg2; replace hr2 := Lib.hid hr2)
    go_returns
    exact ⟨rfl, hg2.out, hr2.out⟩

/-- Number: is the present token a number in the range; if not, which error. -/
def nuB (t : Tok) (lo hi : Int) : Bool := decide (t.kind = 2) && !(decide ((t.n : Int) < lo) || decide (hi < (t.n : Int)))
def nuC (t : Tok) : Nat := if t.kind = 2 then 2 else 8
def nuP (ts : List Tok) (pos e : Nat) (lo hi : Int) : Nat := if nuB (pkF ts pos e) lo hi then pos + 1 else pos
def nuO (ts : List Tok) (pos off e : Nat) (lo hi : Int) : Nat := if nuB (pkF ts pos e) lo hi then off else foF ts pos off e (nuC (pkF ts pos e))
def nuE (ts : List Tok) (pos e : Nat) (lo hi : Int) : Nat := if nuB (pkF ts pos e) lo hi then e else feF e (nuC (pkF ts pos e))
def nuV (t : Tok) (lo hi : Int) : Nat := if nuB t lo hi then t.n else 0

theorem number_any (w : World) (g z : Nat) (ts : List Tok) (pos off e : Nat) (lo hi : Int) (h : Rd tokV w g z ts pos off e) (hp : pos ≤ ts.length) :
    Calls Tryz.prog 154 #[.pointer (some ⟨g, 0, none⟩), .int .i64 lo, .int .i64 hi] w fun en w' => en = .returned (.int .i64 (nuV (pkF ts pos e) lo hi)) ∧ w.grownBy w' (some g) ∧ Rd tokV w' g z ts (nuP ts pos e lo hi) (nuO ts pos off e lo hi) (nuE ts pos e lo hi) := by
  have hpk := Lib.hid (fun w' (hb : Below w.heap.size w w') => peek_any w' g z ts pos off e (h.below hb) hp)
  have hfa := Lib.hid (fun c w' (hb : Below w.heap.size w w') => fail_any w' g z ts pos off e c (h.below hb) hp)
  have hH := Lib.hid h
  have hgz := h.lt
  have hlt := fun k => (pk_lt (ts := ts) (pos := pos) (e := e) k).1
  have hcap : ts.length ≤ 9223372036854775807 := by obtain ⟨_, cap, _, h1, h2, _⟩ := h; omega
  clear h
  unfold nuV nuP nuO nuE
  generalize pkF ts pos e = t at *
  unfold aggP at *
  by_cases hk : t.kind = 2
  · have k0 : (t.kind : Int) = 2 := by omega
    have hc : nuC t = 2 := if_pos hk
    have hlt := hlt (by omega)
    have hw : IntKind.i64.wrap ((pos : Int) + 1) = (pos : Int) + 1 := IntWalk.i64_in _ (by omega)
    clear hcap hp
    rw [hc]
    by_cases h1 : (t.n : Int) < lo
    · have hB : nuB t lo hi = false := by unfold nuB; simp [h1]
      rw [hB]
      simp only [Bool.false_eq_true, if_false]
      have hfa2 := Lib.hid (hfa.out 2)
      clear hfa
      generalize foF ts pos off e 2 = o' at *
      generalize feF e 2 = e' at *
      go_enter Tryz.func154, Tryz.ntmps154
      go_wp2_with (first
        | (go_at_call 66; refine (hpk.out _ (by go_grown)).mono ?_; rintro en w2 ⟨rfl, hb2⟩; have hz2 := hb2.size)
        | (go_at_call 67; refine (hfa2.out _ (by go_grown)).mono ?_; rintro en w3 ⟨rfl, hg3, hr3⟩; replace hg3 := Lib.hid hg3; replace hr3 := Lib.hid hr3))
      go_returns
      exact ⟨rfl, gb_trans (gb_of_below (by go_grown) _) hg3.out, hr3.out⟩
    · by_cases h2 : hi < (t.n : Int)
      · have hB : nuB t lo hi = false := by unfold nuB; simp [h2]
        rw [hB]
        simp only [Bool.false_eq_true, if_false]
        have hfa2 := Lib.hid (hfa.out 2)
        clear hfa
        generalize foF ts pos off e 2 = o' at *
        generalize feF e 2 = e' at *
        go_enter Tryz.func154, Tryz.ntmps154
        go_wp2_with (first
          | (go_at_call 66; refine (hpk.out _ (by go_grown)).mono ?_; rintro en w2 ⟨rfl, hb2⟩; have hz2 := hb2.size)
          | (go_at_call 67; refine (hfa2.out _ (by go_grown)).mono ?_; rintro en w3 ⟨rfl, hg3, hr3⟩; replace hg3 := Lib.hid hg3; replace hr3 := Lib.hid hr3))
        go_returns
        exact ⟨rfl, gb_trans (gb_of_below (by go_grown) _) hg3.out, hr3.out⟩
      · have hB : nuB t lo hi = true := by unfold nuB; simp [h1, h2, hk]
        rw [hB]
        simp only [if_true]
        clear hfa hlt
        go_enter Tryz.func154, Tryz.ntmps154
        go_wp2_with fail
        go_at_call 66
        refine (hpk.out _ (by go_grown)).mono ?_
        rintro en w2 ⟨rfl, hb2⟩
        obtain ⟨ga, gcap, ⟨g0, g1, g2, g3, e0, e1, e2, e3, -⟩, -⟩ := hH.out.below hb2
        have hz2 := hb2.size
        have l3 : g < w2.heap.size := by omega
        have l4 : (g = w2.heap.size) = False := eq_false (by omega)
        have l5 : (w2.heap.size = g) = False := eq_false (by omega)
        clear g0 g2 g3 e0 e2 e3
        go_wp2_with fail
        go_returns
        refine ⟨rfl, ?_⟩
        apply hH.out.chain1 (p := pos + 1) (v := .int .i64 (↑pos + 1)) rfl
        · repeat (first | (with_reducible exact Below.refl _ _) | (with_reducible refine Below.alloc ?_ (by go_size) _) | (with_reducible refine Below.setCell ?_ (by go_size) _))
        · go_grown
  · have k0 : ((t.kind : Int) == 2) = false := by simp; omega
    have hc : nuC t = 8 := if_neg hk
    have hB : nuB t lo hi = false := by unfold nuB; simp [hk]
    rw [hB, hc]
    simp only [Bool.false_eq_true, if_false]
    have hfa2 := Lib.hid (hfa.out 8)
    clear hfa hlt
    generalize foF ts pos off e 8 = o' at *
    generalize feF e 8 = e' at *
    go_enter Tryz.func154, Tryz.ntmps154
    go_wp2_with (first
      | (go_at_call 66; refine (hpk.out _ (by go_grown)).mono ?_; rintro en w2 ⟨rfl, hb2⟩; have hz2 := hb2.size)
      | (go_at_call 67; refine (hfa2.out _ (by go_grown)).mono ?_; rintro en w3 ⟨rfl, hg3, hr3⟩; replace hg3 := Lib.hid hg3; replace hr3 := Lib.hid hr3))
    go_returns
    exact ⟨rfl, gb_trans (gb_of_below (by go_grown) _) hg3.out, hr3.out⟩
end Go.Proofs.YtfjpbkmnlmecgaaGreatDoor
end

section
/- Contracts: names.Keywords, names.Valid, the reader's Name. -/
namespace Go.Proofs.YtfjpbkmnlmecgaaGreatDoor
open Go.RowKit Go.PlainAid
set_option linter.unusedVariables false
set_option linter.unusedSimpArgs false
set_option maxHeartbeats 1000000

def kwds : List ByteArray := [⟨#[97, 108, 108]⟩, ⟨#[97, 110, 100]⟩, ⟨#[97, 115, 115, 105, 103, 110]⟩, ⟨#[98, 121]⟩, ⟨#[99, 111, 117, 110, 116]⟩, ⟨#[100, 101, 99, 108, 97, 114, 101]⟩, ⟨#[100, 121, 110, 97, 109, 105, 99]⟩, ⟨#[101, 110, 102, 111, 114, 99, 101]⟩, ⟨#[102, 97, 108, 115, 101]⟩, ⟨#[102, 111, 114]⟩, ⟨#[105, 102]⟩, ⟨#[109, 101, 109, 98, 101, 114, 115]⟩, ⟨#[110, 111, 110, 101]⟩, ⟨#[110, 111, 116]⟩, ⟨#[111, 110]⟩, ⟨#[111, 114]⟩, ⟨#[114, 101, 118, 111, 107, 101]⟩, ⟨#[115, 116, 97, 116, 105, 99]⟩, ⟨#[116, 114, 117, 101]⟩, ⟨#[117, 115, 101, 114, 115]⟩]

theorem keywords_any (w : World) :
    Calls Tryz.prog 246 #[] w fun en w' => ∃ b, en = .returned (.slice (some ⟨b, 0, none⟩) 20 20) ∧ Below w.heap.size w w' ∧ w.heap.size ≤ b ∧ b < w'.heap.size ∧
      ∀ j, j < kwds.length → w'.cell? ⟨b, 0 + j, none⟩ = some (.string (kwds.getD j ByteArray.empty)) := by
  go_enter Tryz.func246, Tryz.ntmps246
  go_wp2_with fail
  go_returns
  refine ⟨w.heap.size, rfl, by go_grown, Nat.le_refl _, by simp, fun j hj => ?_⟩
  rw [World.cell?_alloc_at _ _ _ _ rfl]
  rw [Nat.zero_add]
  show (kwds.map Value.string).toArray[j]? = _
  rw [List.getElem?_toArray, List.getElem?_map, List.getD_eq_getElem?_getD, List.getElem?_eq_getElem hj]
  rfl

theorem vletter_any (c : Int) (w : World) : Calls Tryz.prog 247 #[.int .u8 c] w fun en w' => en = .returned (.bool (letB c)) ∧ w = w' := by
  unfold letB
  by_cases h1 : 97 ≤ c
  · go_enter Tryz.func247, Tryz.ntmps247
    go_wp2_with fail
    go_returns
    exact ⟨ret_bool (by simp [h1]), rfl⟩
  · have h2 : decide (97 ≤ c) = false := decide_eq_false h1
    go_enter Tryz.func247, Tryz.ntmps247
    go_wp2_with fail
    go_returns
    exact ⟨ret_bool (by simp [h1]), rfl⟩

theorem vinner_any (c : Int) (w : World) (q : Nat) (hq : w.cell? ⟨q, 0, none⟩ = some (.func (.func 247) #[] #[])) : Calls Tryz.prog 248 #[.int .u8 c, .pointer (some ⟨q, 0, none⟩)] w fun en w' => en = .returned (.bool (innB c)) ∧ w = w' := by
  unfold innB
  have hl := Lib.hid (fun v => vletter_any c v)
  generalize letB c = b at *
  cases b
  · unfold digB
    by_cases h1 : 48 ≤ c
    · by_cases h2 : c ≤ 57
      · go_enter Tryz.func248, Tryz.ntmps248
        go_wp2_with (go_at_call 247; refine (hl.out _).mono ?_; rintro en w2 ⟨rfl, rfl⟩)
        go_returns
        exact ⟨ret_bool (by simp [h1, h2]), rfl⟩
      · have h3 : decide (c ≤ 57) = false := decide_eq_false h2
        go_enter Tryz.func248, Tryz.ntmps248
        go_wp2_with (go_at_call 247; refine (hl.out _).mono ?_; rintro en w2 ⟨rfl, rfl⟩)
        go_returns
        exact ⟨ret_bool (by rw [h3]; by_cases h9 : c = 95 <;> simp [h9]), rfl⟩
    · have h2 : decide (48 ≤ c) = false := decide_eq_false h1
      go_enter Tryz.func248, Tryz.ntmps248
      go_wp2_with (go_at_call 247; refine (hl.out _).mono ?_; rintro en w2 ⟨rfl, rfl⟩)
      go_returns
      exact ⟨ret_bool (by rw [h2]; by_cases h9 : c = 95 <;> simp [h9]), rfl⟩
  · go_enter Tryz.func248, Tryz.ntmps248
    go_wp2_with (go_at_call 247; refine (hl.out _).mono ?_; rintro en w2 ⟨rfl, rfl⟩)
    go_returns
    exact ⟨ret_bool (by simp), rfl⟩

def kwB (s : ByteArray) : Bool := Lib.containsS kwds s
def validB (s : ByteArray) : Bool := decide (1 ≤ s.size) && decide (s.size ≤ 12) && !kwB s && letB (bt s 0) && (List.range s.size).all fun j => innB (bt s j)

theorem contains_kw (b : Nat) (s : ByteArray) (w : World) (hc : ∀ j, j < kwds.length → w.cell? ⟨b, 0 + j, none⟩ = some (.string (kwds.getD j ByteArray.empty))) :
    Calls Tryz.prog 245 #[.slice (some ⟨b, 0, none⟩) 20 20, .string s] w fun en w' => en = .returned (.bool (kwB s)) ∧ w = w' :=
  (Tryz.slices_Contains_string b 0 20 20 kwds s w (by decide) (by omega) hc).mono fun _ _ ⟨h, k⟩ => ⟨h, k.symm⟩

theorem vset {s : ByteArray} (h1 : 1 ≤ s.size) (h2 : s.size ≤ 12) (hk : kwB s = false) : validB s = (letB (bt s 0) && (List.range s.size).all fun j => innB (bt s j)) := by
  unfold validB; simp [h1, h2, hk]

end Go.Proofs.YtfjpbkmnlmecgaaGreatDoor
end

section
/- Contract: names.Valid. -/
namespace Go.Proofs.YtfjpbkmnlmecgaaGreatDoor
open Go.RowKit Go.PlainAid
set_option linter.unusedVariables false
set_option linter.unusedSimpArgs false
set_option maxHeartbeats 1000000

theorem vinner_of (c : Int) (w : World) (q : Nat) (b : Bool) (hq : w.cell? ⟨q, 0, none⟩ = some (.func (.func 247) #[] #[])) (h : innB c = b) :
    Calls Tryz.prog 248 #[.int .u8 c, .pointer (some ⟨q, 0, none⟩)] w fun en w' => en = .returned (.bool b) ∧ w' = w :=
  (vinner_any c w q hq).mono fun _ _ ⟨h1, h2⟩ => ⟨by rw [h1, h], h2.symm⟩
theorem vletter_of (c : Int) (w : World) (b : Bool) (h : letB c = b) :
    Calls Tryz.prog 247 #[.int .u8 c] w fun en w' => en = .returned (.bool b) ∧ w' = w :=
  (vletter_any c w).mono fun _ _ ⟨h1, h2⟩ => ⟨by rw [h1, h], h2.symm⟩
theorem valid_no1 {s : ByteArray} {k : Nat} (h : k < s.size) (hi : innB (bt s k) = false) : (letB (bt s 0) && (List.range s.size).all fun j => innB (bt s j)) = false := by
  rw [Bool.and_eq_false_iff]
  right
  rw [List.all_eq_false]
  exact ⟨k, List.mem_range.2 h, by rw [hi]; simp⟩
theorem valid_yes {s : ByteArray} {k : Nat} (h1 : 0 < s.size) (hk : s.size ≤ k) (h : ∀ j, j < k → innB (bt s j) = true ∧ letB (bt s 0) = true) : (letB (bt s 0) && (List.range s.size).all fun j => innB (bt s j)) = true := by
  rw [Bool.and_eq_true]
  refine ⟨(h 0 (by omega)).2, ?_⟩
  rw [List.all_eq_true]
  intro j hj
  exact (h j (by have := List.mem_range.1 hj; omega)).1

theorem pre_one {s : ByteArray} (hi : innB (bt s 0) = true) (hl : letB (bt s 0) = true) : ∀ j, j < 1 → innB (bt s j) = true ∧ letB (bt s 0) = true := fun j hj => by
  obtain rfl : j = 0 := by omega
  exact ⟨hi, hl⟩
theorem pre_next {s : ByteArray} {k : Nat} (h0 : 0 < k) (h : ∀ j, j < k → innB (bt s j) = true ∧ letB (bt s 0) = true) (hi : innB (bt s k) = true) : ∀ j, j < k + 1 → innB (bt s j) = true ∧ letB (bt s 0) = true := fun j hj => by
  refine ⟨?_, (h 0 h0).2⟩
  by_cases hjk : j < k
  · exact (h j hjk).1
  · obtain rfl : j = k := by omega
    exact hi

set_option maxHeartbeats 2000000 in
theorem valid_any (s : ByteArray) (w : World) :
    Calls Tryz.prog 207 #[.string s] w fun en w' => en = .returned (.bool (validB s)) ∧ Below w.heap.size w w' := by
  by_cases h0 : s.size = 0
  · have hz : Hid (validB s = false) := by show _ = _; unfold validB; simp [h0]
    go_enter Tryz.func207, Tryz.ntmps207
    go_wp2_with fail
    go_returns
    exact ⟨ret_bool hz.out.symm, by go_grown⟩
  by_cases h12 : 12 < s.size
  · have hz : Hid (validB s = false) := by show _ = _; unfold validB; rw [decide_eq_false (show ¬ s.size ≤ 12 by omega)]; simp
    have h13 : (12 : Int) < s.size := by omega
    have h00 : ((s.size : Int) == 0) = false := beq_eq_false_iff_ne.2 (by omega)
    clear h0 h12
    go_enter Tryz.func207, Tryz.ntmps207
    go_wp2_with fail
    go_returns
    exact ⟨ret_bool hz.out.symm, by go_grown⟩
  have h00 : ((s.size : Int) == 0) = false := beq_eq_false_iff_ne.2 (by omega)
  have h1 : 0 < s.size := by omega
  have h2 : s.size ≤ 12 := by omega
  have h3 : ¬ (12 : Int) < s.size := by omega
  clear h0 h12
  cases hk : kwB s
  · have HK := Lib.hid hk
    have hmf : ∀ (fn : Fn) (first cap : Array Value) (w : World), (Instr.makeFunc fn first cap).run Tryz.prog w = .ok (.func fn first cap) w := fun _ _ _ _ => rfl
    have HV := Lib.hid (vset h1 h2 hk)
    clear hk
    go_enter Tryz.func207, Tryz.ntmps207
    go_wp2_with (first
      | (go_at_call 246; refine (keywords_any _).mono ?_; rintro en w2 ⟨b, rfl, hb2, hbl, hbr, hcs⟩; replace hcs := Lib.hid hcs)
      | (go_at_call 245; refine (contains_kw _ _ _ hcs.out).mono ?_; rintro en w3 ⟨rfl, rfl⟩; rw [HK.out]))
    go_loopw [22] (fun v wr => ∃ k : Nat, k ≤ s.size ∧ v = .int .i64 k ∧ Below w.heap.size w wr ∧ wr.cell? ⟨w2.heap.size, 0, none⟩ = some (.func (.func 247) #[] #[]) ∧ Hid (∀ j, j < k → innB (bt s j) = true ∧ letB (bt s 0) = true)) (fun v _ => s.size - (intOf v).toNat)
    case atStart => exact ⟨0, by omega, rfl, by go_grown, by simp, fun j hj => by omega⟩
    case round =>
      obtain ⟨k, hkk, rfl, hbel, hcell, hpre⟩ := hrel
      by_cases hlt : k < s.size
      · have hb := get_bt s
        cases hi : innB (bt s k)
        · have HI := Lib.hid hi
          have HF := Lib.hid (valid_no1 hlt HI.out)
          clear hi
          go_wp2_with fail
          go_quiet ((go_at_call 248; exact Calls.quiet_of_same (vinner_of _ _ _ _ hcell HI.out)))
          go_wp2_with fail
          go_returns
          exact ⟨ret_bool (by rw [HV.out, HF.out]), below_drewN hbel _⟩
        · have HI := Lib.hid hi
          clear hi
          by_cases hk0 : k = 0
          · subst hk0
            cases hl : letB (bt s 0)
            · have HL := Lib.hid hl
              clear hl
              go_wp2_with fail
              go_quiet (first | (go_at_call 248; exact Calls.quiet_of_same (vinner_of _ _ _ _ hcell HI.out)) | (go_at_call 247; exact Calls.quiet_of_same (vletter_of _ _ _ HL.out)))
              go_wp2_with fail
              go_returns
              exact ⟨ret_bool (by rw [HV.out, HL.out]; rfl), below_drewN hbel _⟩
            · have HL := Lib.hid hl
              clear hl
              go_wp2_with fail
              go_quiet (first | (go_at_call 248; exact Calls.quiet_of_same (vinner_of _ _ _ _ hcell HI.out)) | (go_at_call 247; exact Calls.quiet_of_same (vletter_of _ _ _ HL.out)))
              go_wp2_with fail
              go_roundw
              case rel => exact ⟨1, by omega, rfl, below_drewN hbel _, hcell, by first | exact pre_one HI.out HL.out | exact fun j hj => ⟨(pre_one HI.out HL.out j hj).1, trivial⟩⟩
              case measure => simp [intOf]; omega
          · have hk1 : ((k : Int) == 0) = false := beq_eq_false_iff_ne.2 (by omega)
            have hkp : 0 < k := by omega
            clear hk0
            go_wp2_with fail
            go_quiet ((go_at_call 248; exact Calls.quiet_of_same (vinner_of _ _ _ _ hcell HI.out)))
            go_wp2_with fail
            go_roundw
            case rel => exact ⟨k + 1, by omega, by go_num, below_drewN hbel _, hcell, pre_next hkp hpre.out HI.out⟩
            case measure => simp [intOf]; omega
      · have HF := Lib.hid (valid_yes (s := s) h1 (by omega) hpre.out)
        go_wp2_with fail
        go_returns
        exact ⟨ret_bool (by rw [HV.out, HF.out]), by go_grown⟩
  · have HK := Lib.hid hk
    have hz : Hid (validB s = false) := by show _ = _; unfold validB; simp [hk]
    clear hk
    go_enter Tryz.func207, Tryz.ntmps207
    go_wp2_with (first
      | (go_at_call 246; refine (keywords_any _).mono ?_; rintro en w2 ⟨b, rfl, hb2, hbl, hbr, hcs⟩; replace hcs := Lib.hid hcs)
      | (go_at_call 245; refine (contains_kw _ _ _ hcs.out).mono ?_; rintro en w3 ⟨rfl, rfl⟩; rw [HK.out]))
    go_returns
    exact ⟨ret_bool hz.out.symm, hb2⟩
end Go.Proofs.YtfjpbkmnlmecgaaGreatDoor
end

section
/- Contract of the program's reader: Name. -/
namespace Go.Proofs.YtfjpbkmnlmecgaaGreatDoor
open Go.RowKit Go.PlainAid
set_option linter.unusedVariables false
set_option linter.unusedSimpArgs false
set_option maxHeartbeats 1000000

/-- Name: the error of the present token (0: it is a name). -/
def naC (t : Tok) : Nat := if t.kind = 1 ∧ kwB ⟨t.text.toArray⟩ = false then (if validB ⟨t.text.toArray⟩ = true then 0 else 9) else 8
def naP (ts : List Tok) (pos e : Nat) : Nat := if naC (pkF ts pos e) = 0 then pos + 1 else pos
def naO (ts : List Tok) (pos off e : Nat) : Nat := if naC (pkF ts pos e) = 0 then off else foF ts pos off e (naC (pkF ts pos e))
def naE (ts : List Tok) (pos e : Nat) : Nat := if naC (pkF ts pos e) = 0 then e else feF e (naC (pkF ts pos e))
def naV (t : Tok) : ByteArray := if naC t = 0 then ⟨t.text.toArray⟩ else ⟨#[]⟩

theorem naC_8 {t : Tok} (h : t.kind ≠ 1) : naC t = 8 := by unfold naC; simp [h]
theorem naC_kw {t : Tok} (h : kwB ⟨t.text.toArray⟩ = true) : naC t = 8 := by unfold naC; simp [h]
theorem naC_9 {t : Tok} (h : t.kind = 1) (hk : kwB ⟨t.text.toArray⟩ = false) (hv : validB ⟨t.text.toArray⟩ = false) : naC t = 9 := by unfold naC; simp [h, hk, hv]
theorem naC_0 {t : Tok} (h : t.kind = 1) (hk : kwB ⟨t.text.toArray⟩ = false) (hv : validB ⟨t.text.toArray⟩ = true) : naC t = 0 := by unfold naC; simp [h, hk, hv]

theorem go_below1 {w w2 : World} (hb2 : Below w.heap.size w w2) (o : Obj) : Below w.heap.size w (w2.alloc o).drew :=
  below_drewN (hb2.alloc hb2.size o) 1
theorem go_below2 {w w2 w3 : World} {o : Obj} (hb2 : Below w.heap.size w w2) (hb3 : Below (w2.alloc o).drew.heap.size (w2.alloc o).drew w3) : Below w.heap.size w w3 :=
  (go_below1 hb2 o).trans (hb3.mono (by have := hb2.size; simp; omega))

set_option maxHeartbeats 2000000 in
theorem name_any (w : World) (g z : Nat) (ts : List Tok) (pos off e : Nat) (h : Rd tokV w g z ts pos off e) (hp : pos ≤ ts.length) :
    Calls Tryz.prog 217 #[.pointer (some ⟨g, 0, none⟩)] w fun en w' => en = .returned (.string (naV (pkF ts pos e))) ∧ w.grownBy w' (some g) ∧ Rd tokV w' g z ts (naP ts pos e) (naO ts pos off e) (naE ts pos e) := by
  have hpk := Lib.hid (fun w' (hb : Below w.heap.size w w') => peek_any w' g z ts pos off e (h.below hb) hp)
  have hfa := Lib.hid (fun c w' (hb : Below w.heap.size w w') => fail_any w' g z ts pos off e c (h.below hb) hp)
  have hH := Lib.hid h
  have hgz := h.lt
  have hlt := fun k => (pk_lt (ts := ts) (pos := pos) (e := e) k).1
  have hcap : ts.length ≤ 9223372036854775807 := by obtain ⟨_, cap, _, h1, h2, _⟩ := h; omega
  clear h
  unfold naV naP naO naE
  generalize pkF ts pos e = t at *
  unfold aggP at *
  by_cases hk : t.kind = 1
  · obtain ⟨kd, tx, nn, ps⟩ := t
    dsimp only at hk hlt hpk ⊢
    subst hk
    have hlt := hlt (by omega)
    have hw : IntKind.i64.wrap ((pos : Int) + 1) = (pos : Int) + 1 := IntWalk.i64_in _ (by omega)
    clear hcap hp
    cases hkw : kwB ⟨tx.toArray⟩
    · cases hv : validB ⟨tx.toArray⟩
      · rw [naC_9 rfl hkw hv]
        have HKW := Lib.hid hkw
        have HV := Lib.hid hv
        have hfa2 := Lib.hid (hfa.out 9)
        clear hfa hkw hv hlt
        simp only [if_neg (show ¬ (9 : Nat) = 0 by decide)]
        generalize foF ts pos off e 9 = o' at *
        generalize feF e 9 = e' at *
        generalize (⟨tx.toArray⟩ : ByteArray) = x at *
        go_enter Tryz.func217, Tryz.ntmps217
        go_wp2_with (go_at_call 66; refine (hpk.out _ (by go_grown)).mono ?_; rintro en w2 ⟨rfl, hb2⟩)
        go_region_held3 (fun w' => w'.cell? ⟨w2.heap.size, 0, none⟩ = some (.int .u8 1) ∧ w'.cell? ⟨w2.heap.size, 1, none⟩ = some (.string x) ∧ w2.heap.size < w'.heap.size ∧ Below w.heap.size w w') (first | exact ⟨by simp, by simp, by simp, go_below1 hb2 _⟩ | exact ⟨(hb3.cell (p := ⟨w2.heap.size, 0, none⟩) (by simp)).trans (by simp), (hb3.cell (p := ⟨w2.heap.size, 1, none⟩) (by simp)).trans (by simp), by have := hb3.size; simp at this; omega, go_below2 hb2 hb3⟩) (first | (go_at_call 246; refine (keywords_any _).mono ?_; rintro en w3 ⟨b, rfl, hb3, hbl, hbr, hcs⟩; replace hcs := Lib.hid hcs) | (go_at_call 245; refine (contains_kw _ _ _ hcs.out).mono ?_; rintro en w4 ⟨rfl, rfl⟩; rw [HKW.out]))
        rename_i hheld
        obtain ⟨q0, q1, hz3, hb4⟩ := hheld
        clear hcs hbl hbr
        go_wp2_with (go_at_call 207; refine (valid_any _ _).mono ?_; rintro en w5 ⟨rfl, hb5⟩; rw [HV.out]; have hb6 := hb4.trans (hb5.mono hb4.size))
        go_at_call 67
        refine (hfa2.out _ hb6).mono ?_
        rintro en w6 ⟨rfl, hg6, hr6⟩
        replace hg6 := Lib.hid hg6
        replace hr6 := Lib.hid hr6
        go_wp2_with fail
        go_returns
        exact ⟨rfl, gb_trans (gb_of_below hb6 _) hg6.out, hr6.out⟩
      · rw [naC_0 rfl hkw hv]
        have HKW := Lib.hid hkw
        have HV := Lib.hid hv
        clear hfa hkw hv hlt
        simp only [if_true]
        generalize (⟨tx.toArray⟩ : ByteArray) = x at *
        go_enter Tryz.func217, Tryz.ntmps217
        go_wp2_with (go_at_call 66; refine (hpk.out _ (by go_grown)).mono ?_; rintro en w2 ⟨rfl, hb2⟩)
        go_region_held3 (fun w' => w'.cell? ⟨w2.heap.size, 0, none⟩ = some (.int .u8 1) ∧ w'.cell? ⟨w2.heap.size, 1, none⟩ = some (.string x) ∧ w2.heap.size < w'.heap.size ∧ Below w.heap.size w w') (first | exact ⟨by simp, by simp, by simp, go_below1 hb2 _⟩ | exact ⟨(hb3.cell (p := ⟨w2.heap.size, 0, none⟩) (by simp)).trans (by simp), (hb3.cell (p := ⟨w2.heap.size, 1, none⟩) (by simp)).trans (by simp), by have := hb3.size; simp at this; omega, go_below2 hb2 hb3⟩) (first | (go_at_call 246; refine (keywords_any _).mono ?_; rintro en w3 ⟨b, rfl, hb3, hbl, hbr, hcs⟩; replace hcs := Lib.hid hcs) | (go_at_call 245; refine (contains_kw _ _ _ hcs.out).mono ?_; rintro en w4 ⟨rfl, rfl⟩; rw [HKW.out]))
        rename_i hheld
        obtain ⟨q0, q1, hz3, hb4⟩ := hheld
        clear hcs hbl hbr
        go_wp2_with (go_at_call 207; refine (valid_any _ _).mono ?_; rintro en w5 ⟨rfl, hb5⟩; rw [HV.out]; have hb6 := hb4.trans (hb5.mono hb4.size); have q5 := (hb5.cell (p := ⟨w2.heap.size, 1, none⟩) hz3).trans q1; have hz5 := Nat.lt_of_lt_of_le hz3 hb5.size; have hz6 := Nat.lt_of_lt_of_le hgz hb2.size; have l1 : (g = w2.heap.size) = False := eq_false (by omega); have l2 : (w2.heap.size = g) = False := eq_false (by omega); obtain ⟨ga, gcap, ⟨g0, g1, g2, g3, e0, e1, e2, e3, -⟩, -⟩ := hH.out.below hb6; clear g0 g2 g3 e0 e2 e3 q0 q1)
        go_returns
        refine ⟨rfl, ?_⟩
        apply hH.out.chain1 (p := pos + 1) (v := .int .i64 (↑pos + 1)) rfl
        · repeat (first | (with_reducible exact Below.refl _ _) | (with_reducible refine Below.alloc ?_ (by go_size) _) | (with_reducible refine Below.setCell ?_ (by go_size) _))
        · exact hb6
    · rw [naC_kw hkw]
      have HKW := Lib.hid hkw
      have hfa2 := Lib.hid (hfa.out 8)
      clear hfa hkw hlt
      simp only [if_neg (show ¬ (8 : Nat) = 0 by decide)]
      generalize foF ts pos off e 8 = o' at *
      generalize feF e 8 = e' at *
      generalize (⟨tx.toArray⟩ : ByteArray) = x at *
      go_enter Tryz.func217, Tryz.ntmps217
      go_wp2_with (go_at_call 66; refine (hpk.out _ (by go_grown)).mono ?_; rintro en w2 ⟨rfl, hb2⟩)
      go_region_held3 (fun w' => w'.cell? ⟨w2.heap.size, 0, none⟩ = some (.int .u8 1) ∧ w'.cell? ⟨w2.heap.size, 1, none⟩ = some (.string x) ∧ w2.heap.size < w'.heap.size ∧ Below w.heap.size w w') (first | exact ⟨by simp, by simp, by simp, go_below1 hb2 _⟩ | exact ⟨(hb3.cell (p := ⟨w2.heap.size, 0, none⟩) (by simp)).trans (by simp), (hb3.cell (p := ⟨w2.heap.size, 1, none⟩) (by simp)).trans (by simp), by have := hb3.size; simp at this; omega, go_below2 hb2 hb3⟩) (first | (go_at_call 246; refine (keywords_any _).mono ?_; rintro en w3 ⟨b, rfl, hb3, hbl, hbr, hcs⟩; replace hcs := Lib.hid hcs) | (go_at_call 245; refine (contains_kw _ _ _ hcs.out).mono ?_; rintro en w4 ⟨rfl, rfl⟩; rw [HKW.out]))
      rename_i hheld
      obtain ⟨q0, q1, hz3, hb4⟩ := hheld
      clear hcs hbl hbr
      go_wp2_with fail
      go_at_call 67
      refine (hfa2.out _ hb4).mono ?_
      rintro en w6 ⟨rfl, hg6, hr6⟩
      replace hg6 := Lib.hid hg6
      replace hr6 := Lib.hid hr6
      go_wp2_with fail
      go_returns
      exact ⟨rfl, gb_trans (gb_of_below hb4 _) hg6.out, hr6.out⟩
  · have k0 : ¬ (t.kind : Int) = 1 := by omega
    have k1 : ((t.kind : Int) != 1) = true := by simp; omega
    rw [naC_8 hk]
    have hfa2 := Lib.hid (hfa.out 8)
    clear hfa hlt hk
    simp only [if_neg (show ¬ (8 : Nat) = 0 by decide)]
    generalize foF ts pos off e 8 = o' at *
    generalize feF e 8 = e' at *
    go_enter Tryz.func217, Tryz.ntmps217
    go_wp2_with (go_at_call 66; refine (hpk.out _ (by go_grown)).mono ?_; rintro en w2 ⟨rfl, hb2⟩)
    go_quiet (fail)
    have hb4 : Below w.heap.size w ((w2.alloc (.cells #[.int .u8 t.kind, .string ⟨t.text.toArray⟩, .int .i64 t.n, .int .i64 t.pos] 139)).drewN nq) := below_drewN (hb2.alloc hb2.size _) _
    go_wp2_with fail
    go_at_call 67
    refine (hfa2.out _ hb4).mono ?_
    rintro en w6 ⟨rfl, hg6, hr6⟩
    replace hg6 := Lib.hid hg6
    replace hr6 := Lib.hid hr6
    go_wp2_with fail
    go_returns
    exact ⟨rfl, gb_trans (gb_of_below hb4 _) hg6.out, hr6.out⟩
end Go.Proofs.YtfjpbkmnlmecgaaGreatDoor
end
