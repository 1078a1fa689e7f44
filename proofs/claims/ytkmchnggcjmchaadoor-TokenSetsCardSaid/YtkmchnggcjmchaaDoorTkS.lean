/- Contracts of the program's reader that write: Next, Is, Accept, Fail, Expect, Number. -/
import Derived.Test.YtkmchnggcjmchaaDoorTkR
namespace Go.Proofs.YtkmchnggcjmchaaDoor
open Go.RowKit Go.PlainAid
set_option linter.unusedVariables false
set_option linter.unusedSimpArgs false
set_option maxHeartbeats 600000

def nxF (ts : List Tok) (pos e : Nat) : Nat := if (pkF ts pos e).kind = 0 then pos else pos + 1
def isB (t : Tok) (x : ByteArray) : Bool := (decide (t.kind = 1) || decide (t.kind = 3)) && (t.text == x.toList)
def acF (ts : List Tok) (pos e : Nat) (x : ByteArray) : Nat := if isB (pkF ts pos e) x then pos + 1 else pos
def foF (ts : List Tok) (pos off e c : Nat) : Nat := if e = 0 ∧ c ≠ 0 then offF ts pos else off
def feF (e c : Nat) : Nat := if e = 0 then c else e

theorem pk_lt {ts : List Tok} {pos e : Nat} (h : (pkF ts pos e).kind ≠ 0) : pos < ts.length ∧ e = 0 := by
  unfold pkF at h
  split at h
  · refine ⟨?_, by assumption⟩
    by_cases hl : pos < ts.length
    · exact hl
    · rw [List.getD_eq_getElem?_getD, List.getElem?_eq_none (by omega)] at h; exact absurd rfl h
  · exact absurd rfl h

theorem Blk4.set1 {w : World} {g : Nat} {a b c d : Value} (h : Blk4 w g a b c d) (b' : Value) : Blk4 (w.setCell ⟨g, 1, none⟩ b') g a b' c d := by
  obtain ⟨h0, h1, h2, h3, f0, f1, f2, f3, hs⟩ := h
  refine ⟨?_, World.cell?_setCell_same _ _ _ h1, ?_, ?_, ?_, ?_, ?_, ?_, by simpa using hs⟩
  · rw [World.cell?_setCell_other _ _ _ _ (by simp)]; exact h0
  · rw [World.cell?_setCell_other _ _ _ _ (by simp)]; exact h2
  · rw [World.cell?_setCell_other _ _ _ _ (by simp)]; exact h3
  · rw [World.frozen?_setCell]; exact f0
  · rw [World.frozen?_setCell]; exact f1
  · rw [World.frozen?_setCell]; exact f2
  · rw [World.frozen?_setCell]; exact f3
theorem Blk4.set3 {w : World} {g : Nat} {a b c d : Value} (h : Blk4 w g a b c d) (d' : Value) : Blk4 (w.setCell ⟨g, 3, none⟩ d') g a b c d' := by
  obtain ⟨h0, h1, h2, h3, f0, f1, f2, f3, hs⟩ := h
  refine ⟨?_, ?_, ?_, World.cell?_setCell_same _ _ _ h3, ?_, ?_, ?_, ?_, by simpa using hs⟩
  · rw [World.cell?_setCell_other _ _ _ _ (by simp)]; exact h0
  · rw [World.cell?_setCell_other _ _ _ _ (by simp)]; exact h1
  · rw [World.cell?_setCell_other _ _ _ _ (by simp)]; exact h2
  · rw [World.frozen?_setCell]; exact f0
  · rw [World.frozen?_setCell]; exact f1
  · rw [World.frozen?_setCell]; exact f2
  · rw [World.frozen?_setCell]; exact f3

section
variable {f : Tok → List Value} {w wA wB : World} {g z : Nat} {ts : List Tok} {pos off e p o' e' : Nat}
theorem Rd.upd (h : Rd f w g z ts pos off e) (hg : w.grownBy wB (some g))
    (hb : ∀ sv, Blk4 w g sv (.int .i64 pos) (.int .i64 off) (.int .i64 e) → Blk4 wB g sv (.int .i64 p) (.int .i64 o') (.int .i64 e')) : Rd f wB g z ts p o' e' := by
  obtain ⟨a, cap, hb4, hc, hm, hx⟩ := h
  refine ⟨a, cap, hb _ hb4, hc, hm, ?_⟩
  rcases hx with hx | ⟨b, o, ha, n1, n2, hbl, hcell⟩
  · exact .inl hx
  · refine .inr ⟨b, o, ha, n1, n2, Nat.lt_of_lt_of_le hbl hg.size, fun j hj => ?_⟩
    rw [World.cell?_of_block (w := w) (hg.block b hbl (fun e => n1 (Option.some.inj e)))]; exact hcell j hj
theorem gb_mid (v : World) (j : Nat) (u : Value) {N : Nat} (hN : w.heap.size = N) (h1 : Below N w v) : w.grownBy (v.setCell ⟨g, j, none⟩ u) (some g) :=
  ⟨h1.os, h1.tape, h1.output, by simpa [World.setCell] using h1.size, fun k hk hr => (Below.heap_setCell _ _ _ _ (fun e => hr (by rw [e]))).trans (h1.block k (by omega))⟩
theorem gb_tail {u v : World} {N : Nat} (h : w.grownBy u (some g)) (hN : w.heap.size = N) (h1 : Below N u v) : w.grownBy v (some g) :=
  ⟨h1.os.trans h.os, h1.tape.trans h.tape, h1.output.trans h.output, Nat.le_trans h.size h1.size, fun k hk hr => (h1.block k (by omega)).trans (h.block k hk hr)⟩
/-- A store to the place of the present token, with other memory before and behind. -/
theorem Rd.chain1 {v : Value} (h : Rd f w g z ts pos off e) (hv : v = .int .i64 p) (h2 : Below w.heap.size (wA.setCell ⟨g, 1, none⟩ v) wB) (h1 : Below w.heap.size w wA) : w.grownBy wB (some g) ∧ Rd f wB g z ts p off e := by
  subst hv
  have hg := gb_tail (gb_mid (g := g) wA 1 (.int .i64 p) rfl h1) rfl h2
  exact ⟨hg, h.upd hg fun sv hb => ((hb.below h1 h.lt).set1 _).below h2 h.lt⟩
theorem Rd.chain23 (h : Rd f w g z ts pos off e) (h2 : Below w.heap.size ((wA.setCell ⟨g, 2, none⟩ (.int .i64 p)).setCell ⟨g, 3, none⟩ (.int .i64 o')) wB) (h1 : Below w.heap.size w wA) : w.grownBy wB (some g) ∧ Rd f wB g z ts pos p o' := by
  have hg1 := gb_mid (g := g) wA 2 (.int .i64 p) rfl h1
  have hg2 : w.grownBy ((wA.setCell ⟨g, 2, none⟩ (.int .i64 p)).setCell ⟨g, 3, none⟩ (.int .i64 o')) (some g) := gb_trans hg1 (gb_set _ _ _)
  have hg := gb_tail hg2 rfl h2
  exact ⟨hg, h.upd hg fun sv hb => (((hb.below h1 h.lt).set2 _).set3 _).below h2 h.lt⟩
theorem Rd.chain0 (h : Rd f w g z ts pos off e) (h1 : Below w.heap.size w wB) : w.grownBy wB (some g) ∧ Rd f wB g z ts pos off e :=
  ⟨⟨h1.os, h1.tape, h1.output, h1.size, fun k hk _ => h1.block k hk⟩, h.below h1⟩
end

theorem rd_after {w w2 : World} {o : Obj} {g : Nat} (hg : g < w.heap.size) (hb2 : Below (w.alloc o).heap.size (w.alloc o) w2) :
    Below w.heap.size w w2 ∧ w.heap.size < w2.heap.size ∧ (w.heap.size = w2.heap.size) = False ∧ g < w2.heap.size ∧ (g = w2.heap.size) = False ∧ (g = w.heap.size) = False ∧ (w.heap.size = g) = False ∧ (w2.heap.size = g) = False := by
  have hs := hb2.size
  simp at hs
  exact ⟨((Below.refl _ _).alloc (Nat.le_refl _) _).trans (hb2.mono (by simp)), by omega, eq_false (by omega), by omega, eq_false (by omega), eq_false (by omega), eq_false (by omega), eq_false (by omega)⟩
theorem is_any (w : World) (g z : Nat) (ts : List Tok) (pos off e : Nat) (x : ByteArray) (h : Rd tokV w g z ts pos off e) (hp : pos ≤ ts.length) :
    Calls Tryd.prog 51 #[.pointer (some ⟨g, 0, none⟩), .string x] w fun en w' => en = .returned (.bool (isB (pkF ts pos e) x)) ∧ Below w.heap.size w w' := by
  have hpk := Lib.hid (fun w' (hb : Below w.heap.size w w') => peek_any w' g z ts pos off e (h.below hb) hp)
  generalize pkF ts pos e = t at *
  clear h
  unfold aggP at *
  by_cases k1 : t.kind = 1
  · have k0 : (t.kind : Int) = 1 := by omega
    go_enter Tryd.func51, Tryd.ntmps51
    go_wp2_with (go_at_call 16; refine (hpk.out _ (by go_grown)).mono ?_; rintro en w2 ⟨rfl, hb2⟩)
    go_returns
    exact ⟨ret_bool (by unfold isB; simp [k1]), by have := hb2.size; go_grown⟩
  · have k0 : ((t.kind : Int) == 1) = false := by simp; omega
    by_cases k3 : t.kind = 3
    · have k2 : (t.kind : Int) = 3 := by omega
      go_enter Tryd.func51, Tryd.ntmps51
      go_wp2_with (go_at_call 16; refine (hpk.out _ (by go_grown)).mono ?_; rintro en w2 ⟨rfl, hb2⟩)
      go_returns
      exact ⟨ret_bool (by unfold isB; simp [k3]), by have := hb2.size; go_grown⟩
    · have k2 : ((t.kind : Int) == 3) = false := by simp; omega
      go_enter Tryd.func51, Tryd.ntmps51
      go_wp2_with (go_at_call 16; refine (hpk.out _ (by go_grown)).mono ?_; rintro en w2 ⟨rfl, hb2⟩)
      go_returns
      exact ⟨ret_bool (by unfold isB; simp [k1, k3]), by have := hb2.size; go_grown⟩

theorem isB_lt {ts : List Tok} {pos e : Nat} {x : ByteArray} (h : isB (pkF ts pos e) x = true) : pos < ts.length ∧ e = 0 :=
  pk_lt (by intro hk; unfold isB at h; simp [hk] at h)

theorem accept_any (w : World) (g z : Nat) (ts : List Tok) (pos off e : Nat) (x : ByteArray) (h : Rd tokV w g z ts pos off e) (hp : pos ≤ ts.length) :
    Calls Tryd.prog 18 #[.pointer (some ⟨g, 0, none⟩), .string x] w fun en w' => en = .returned (.bool (isB (pkF ts pos e) x)) ∧ w.grownBy w' (some g) ∧ Rd tokV w' g z ts (acF ts pos e x) off e := by
  have his := Lib.hid (fun w' (hb : Below w.heap.size w w') => is_any w' g z ts pos off e x (h.below hb) hp)
  have hH := Lib.hid h
  have hgz := h.lt
  have hlt := fun k => (isB_lt (ts := ts) (pos := pos) (e := e) (x := x) k).1
  unfold acF
  generalize isB (pkF ts pos e) x = b at *
  have hcap : ts.length ≤ 9223372036854775807 := by obtain ⟨_, cap, _, h1, h2, _⟩ := h; omega
  clear h
  cases b
  · rw [if_neg (by simp)]
    clear hlt
    go_enter Tryd.func18, Tryd.ntmps18
    go_wp2_with (go_at_call 51; refine (his.out _ (by go_grown)).mono ?_; rintro en w2 ⟨rfl, hb2⟩)
    go_returns
    exact ⟨rfl, hH.out.chain0 (by go_grown)⟩
  · rw [if_pos rfl]
    have hlt := hlt rfl
    have hw : IntKind.i64.wrap ((pos : Int) + 1) = (pos : Int) + 1 := IntWalk.i64_in _ (by omega)
    clear hcap hp hlt
    go_enter Tryd.func18, Tryd.ntmps18
    go_wp2_with fail
    go_at_call 51
    refine (his.out _ (by go_grown)).mono ?_
    rintro en w2 ⟨rfl, hb2⟩
    obtain ⟨ga, gcap, ⟨g0, g1, g2, g3, e0, e1, e2, e3, -⟩, -⟩ := hH.out.below hb2
    go_wp2_with fail
    go_returns
    refine ⟨rfl, ?_⟩
    apply hH.out.chain1 (p := pos + 1) (v := .int .i64 (↑pos + 1)) rfl
    · repeat (first | (with_reducible exact Below.refl _ _) | (with_reducible refine Below.alloc ?_ (by go_size) _) | (with_reducible refine Below.setCell ?_ (by go_size) _))
    · go_grown

theorem fail_any (w : World) (g z : Nat) (ts : List Tok) (pos off e c : Nat) (h : Rd tokV w g z ts pos off e) (hp : pos ≤ ts.length) :
    Calls Tryd.prog 50 #[.pointer (some ⟨g, 0, none⟩), .int .i64 c] w fun en w' => en = .returned (.tuple #[]) ∧ w.grownBy w' (some g) ∧ Rd tokV w' g z ts pos (foF ts pos off e c) (feF e c) := by
  have hok := Lib.hid (fun w' (hb : Below w.heap.size w w') => ok_any tokV w' g z ts pos off e (h.below hb))
  have hof := Lib.hid (fun w' (hb : Below w.heap.size w w') => offset_any w' g z ts pos off e (h.below hb) hp)
  have hH := Lib.hid h
  have hgz := h.lt
  clear h
  unfold foF feF
  by_cases he : e = 0
  · subst he
    by_cases hc : c = 0
    · subst hc
      rw [if_neg (by simp), if_pos rfl]
      go_enter Tryd.func50, Tryd.ntmps50
      go_wp2_with (go_at_call 48; refine (hok.out _ (by go_grown)).mono ?_; rintro en w2 ⟨rfl, rfl⟩; rw [decide_eq_true rfl])
      go_returns
      exact ⟨rfl, hH.out.chain0 (by go_grown)⟩
    · rw [if_pos ⟨rfl, hc⟩, if_pos rfl]
      have hc0 : ((c : Int) == 0) = false := by simpa using hc
      generalize offF ts pos = o at *
      go_enter Tryd.func50, Tryd.ntmps50
      go_wp2_with (go_at_call 48; refine (hok.out _ (by go_grown)).mono ?_; rintro en w2 ⟨rfl, rfl⟩; rw [decide_eq_true rfl])
      go_at_call 69
      refine (hof.out _ (by go_grown)).mono ?_
      rintro en w2 ⟨rfl, hb2⟩
      obtain ⟨ga, gcap, ⟨g0, g1, g2, g3, e0, e1, e2, e3, -⟩, -⟩ := hH.out.below hb2
      go_wp2_with fail
      go_returns
      refine ⟨rfl, ?_⟩
      apply hH.out.chain23
      · repeat (first | (with_reducible exact Below.refl _ _) | (with_reducible refine Below.alloc ?_ (by go_size) _) | (with_reducible refine Below.setCell ?_ (by go_size) _))
      · go_grown
  · have hd : decide (e = 0) = false := decide_eq_false he
    rw [if_neg (by simp [he]), if_neg he]
    go_enter Tryd.func50, Tryd.ntmps50
    go_wp2_with (go_at_call 48; refine (hok.out _ (by go_grown)).mono ?_; rintro en w2 ⟨rfl, rfl⟩; rw [hd])
    go_returns
    exact ⟨rfl, hH.out.chain0 (by go_grown)⟩

/-- Number: is the present token a number in the range; if not, which error. -/
def nuB (t : Tok) (lo hi : Int) : Bool := decide (t.kind = 2) && !(decide ((t.n : Int) < lo) || decide (hi < (t.n : Int)))
def nuC (t : Tok) : Nat := if t.kind = 2 then 2 else 8
def nuP (ts : List Tok) (pos e : Nat) (lo hi : Int) : Nat := if nuB (pkF ts pos e) lo hi then pos + 1 else pos
def nuO (ts : List Tok) (pos off e : Nat) (lo hi : Int) : Nat := if nuB (pkF ts pos e) lo hi then off else foF ts pos off e (nuC (pkF ts pos e))
def nuE (ts : List Tok) (pos e : Nat) (lo hi : Int) : Nat := if nuB (pkF ts pos e) lo hi then e else feF e (nuC (pkF ts pos e))
def nuV (t : Tok) (lo hi : Int) : Nat := if nuB t lo hi then t.n else 0

theorem number_any (w : World) (g z : Nat) (ts : List Tok) (pos off e : Nat) (lo hi : Int) (h : Rd tokV w g z ts pos off e) (hp : pos ≤ ts.length) :
    Calls Tryd.prog 17 #[.pointer (some ⟨g, 0, none⟩), .int .i64 lo, .int .i64 hi] w fun en w' => en = .returned (.int .i64 (nuV (pkF ts pos e) lo hi)) ∧ w.grownBy w' (some g) ∧ Rd tokV w' g z ts (nuP ts pos e lo hi) (nuO ts pos off e lo hi) (nuE ts pos e lo hi) := by
  have hpk := Lib.hid (fun w' (hb : Below w.heap.size w w') => peek_any w' g z ts pos off e (h.below hb) hp)
  have hfa := Lib.hid (fun c w' (hb : Below w.heap.size w w') => fail_any w' g z ts pos off e c (h.below hb) hp)
  have hH := Lib.hid h
  have hgz := h.lt
  have hlt := fun k => (pk_lt (ts := ts) (pos := pos) (e := e) k).1
  have hcap : ts.length ≤ 9223372036854775807 := by obtain ⟨_, cap, _, h1, h2, _⟩ := h; omega
  clear h
  unfold nuV nuP nuO nuE
  generalize pkF ts pos e = t at *
  unfold aggP at *
  by_cases hk : t.kind = 2
  · have k0 : (t.kind : Int) = 2 := by omega
    have hc : nuC t = 2 := if_pos hk
    have hlt := hlt (by omega)
    have hw : IntKind.i64.wrap ((pos : Int) + 1) = (pos : Int) + 1 := IntWalk.i64_in _ (by omega)
    clear hcap hp
    rw [hc]
    by_cases h1 : (t.n : Int) < lo
    · have hB : nuB t lo hi = false := by unfold nuB; simp [h1]
      rw [hB]
      simp only [Bool.false_eq_true, if_false]
      have hfa2 := Lib.hid (hfa.out 2)
      clear hfa
      generalize foF ts pos off e 2 = o' at *
      generalize feF e 2 = e' at *
      go_enter Tryd.func17, Tryd.ntmps17
      go_wp2_with (first
        | (go_at_call 16; refine (hpk.out _ (by go_grown)).mono ?_; rintro en w2 ⟨rfl, hb2⟩; have hz2 := hb2.size)
        | (go_at_call 50; refine (hfa2.out _ (by go_grown)).mono ?_; rintro en w3 ⟨rfl, hg3, hr3⟩; replace hg3 := Lib.hid hg3; replace hr3 := Lib.hid hr3))
      go_returns
      exact ⟨rfl, gb_trans (gb_of_below (by go_grown) _) hg3.out, hr3.out⟩
    · by_cases h2 : hi < (t.n : Int)
      · have hB : nuB t lo hi = false := by unfold nuB; simp [h2]
        rw [hB]
        simp only [Bool.false_eq_true, if_false]
        have hfa2 := Lib.hid (hfa.out 2)
        clear hfa
        generalize foF ts pos off e 2 = o' at *
        generalize feF e 2 = e' at *
        go_enter Tryd.func17, Tryd.ntmps17
        go_wp2_with (first
          | (go_at_call 16; refine (hpk.out _ (by go_grown)).mono ?_; rintro en w2 ⟨rfl, hb2⟩; have hz2 := hb2.size)
          | (go_at_call 50; refine (hfa2.out _ (by go_grown)).mono ?_; rintro en w3 ⟨rfl, hg3, hr3⟩; replace hg3 := Lib.hid hg3; replace hr3 := Lib.hid hr3))
        go_returns
        exact ⟨rfl, gb_trans (gb_of_below (by go_grown) _) hg3.out, hr3.out⟩
      · have hB : nuB t lo hi = true := by unfold nuB; simp [h1, h2, hk]
        rw [hB]
        simp only [if_true]
        clear hfa hlt
        go_enter Tryd.func17, Tryd.ntmps17
        go_wp2_with fail
        go_at_call 16
        refine (hpk.out _ (by go_grown)).mono ?_
        rintro en w2 ⟨rfl, hb2⟩
        obtain ⟨ga, gcap, ⟨g0, g1, g2, g3, e0, e1, e2, e3, -⟩, -⟩ := hH.out.below hb2
        have hz2 := hb2.size
        have l3 : g < w2.heap.size := by omega
        have l4 : (g = w2.heap.size) = False := eq_false (by omega)
        have l5 : (w2.heap.size = g) = False := eq_false (by omega)
        clear g0 g2 g3 e0 e2 e3
        go_wp2_with fail
        go_returns
        refine ⟨rfl, ?_⟩
        apply hH.out.chain1 (p := pos + 1) (v := .int .i64 (↑pos + 1)) rfl
        · repeat (first | (with_reducible exact Below.refl _ _) | (with_reducible refine Below.alloc ?_ (by go_size) _) | (with_reducible refine Below.setCell ?_ (by go_size) _))
        · go_grown
  · have k0 : ((t.kind : Int) == 2) = false := by simp; omega
    have hc : nuC t = 8 := if_neg hk
    have hB : nuB t lo hi = false := by unfold nuB; simp [hk]
    rw [hB, hc]
    simp only [Bool.false_eq_true, if_false]
    have hfa2 := Lib.hid (hfa.out 8)
    clear hfa hlt
    generalize foF ts pos off e 8 = o' at *
    generalize feF e 8 = e' at *
    go_enter Tryd.func17, Tryd.ntmps17
    go_wp2_with (first
      | (go_at_call 16; refine (hpk.out _ (by go_grown)).mono ?_; rintro en w2 ⟨rfl, hb2⟩; have hz2 := hb2.size)
      | (go_at_call 50; refine (hfa2.out _ (by go_grown)).mono ?_; rintro en w3 ⟨rfl, hg3, hr3⟩; replace hg3 := Lib.hid hg3; replace hr3 := Lib.hid hr3))
    go_returns
    exact ⟨rfl, gb_trans (gb_of_below (by go_grown) _) hg3.out, hr3.out⟩
end Go.Proofs.YtkmchnggcjmchaaDoor
