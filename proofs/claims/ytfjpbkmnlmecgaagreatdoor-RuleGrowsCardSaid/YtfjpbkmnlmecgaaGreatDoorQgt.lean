/- Several of the texts below, joined: RvE RvF. -/
import Derived.Test.YtfjpbkmnlmecgaaGreatDoorQgs
import Derived.Test.YtfjpbkmnlmecgaaGreatDoorQgr
import Derived.Test.YtfjpbkmnlmecgaaGreatDoorQge
import Derived.Test.YtfjpbkmnlmecgaaGreatDoorQgn
import Derived.Deep.DeepCutAuto
import Derived.Deep.CutRange
import Derived.Test.YtfjpbkmnlmecgaaGreatDoorQgj
section
/- rule.line. -/
namespace Go.Proofs.YtfjpbkmnlmecgaaGreatDoor.Ru
open Go.RowKit Go.PlainAid Go.Maps Go.Shelf Go.Proofs.YtfjpbkmnlmecgaaGreatDoor Go.Proofs.YtfjpbkmnlmecgaaGreatDoor.Bz
attribute [local go_sem] Oper.semAt_some
set_option linter.unusedVariables false
set_option linter.unusedSimpArgs false
set_option maxHeartbeats 4000000
set_option maxRecDepth 20000

def bAssign : ByteArray := ⟨#[97, 115, 115, 105, 103, 110, 32]⟩
def bRevoke : ByteArray := ⟨#[114, 101, 118, 111, 107, 101, 32]⟩
def bBy : ByteArray := ⟨#[32, 98, 121, 32]⟩
def bIf : ByteArray := ⟨#[32, 105, 102, 32]⟩
def bNot : ByteArray := ⟨#[110, 111, 116, 32]⟩
def bAnd : ByteArray := ⟨#[32, 97, 110, 100, 32]⟩
def bOn : ByteArray := ⟨#[32, 111, 110, 32]⟩
def bFor : ByteArray := ⟨#[32, 102, 111, 114, 32]⟩
def bEnd : ByteArray := ⟨#[59, 10]⟩
def stepL (ns : List ByteArray) (no : List Nat) (st : Bool × ByteArray × ByteArray) (x : Nat) : Bool × ByteArray × ByteArray :=
  (st.1 && nmB ns x, (if hasB no x then (st.2.1 ++ st.2.2) ++ bNot else st.2.1 ++ st.2.2) ++ nmS ns x, bAnd)
def headL (ns : List ByteArray) (r : Rl) : ByteArray := (((if r.revoke then bRevoke else bAssign) ++ nmS ns r.target) ++ bBy) ++ nmS ns r.admin
def okL (ns : List ByteArray) (r : Rl) : Bool := nmB ns r.target && nmB ns r.admin
def litsL (ns : List ByteArray) (r : Rl) : Bool × ByteArray :=
  match r.revoke with
  | true => (okL ns r, headL ns r)
  | false => let z := (orL r.yes r.no).foldl (stepL ns r.no) (okL ns r && !emptyC (r.yes, r.no), headL ns r, bIf); (z.1, z.2.1)
def daysL (ns : List ByteArray) (r : Rl) : ByteArray := if r.days = allD then (litsL ns r).2 else (litsL ns r).2 ++ (bOn ++ ⟨(Dy.textL r.days).toArray⟩)
def longL (ns : List ByteArray) (r : Rl) : ByteArray := if !r.revoke && decide (r.longest ≠ 0) then daysL ns r ++ (bFor ++ ⟨(Lib.decDigits r.longest.toNat).toArray⟩) else daysL ns r
/-- The line of a rule; false: it has none. -/
def lineP (ns : List ByteArray) (r : Rl) : ByteArray × Bool := (longL ns r ++ bEnd, (litsL ns r).1)
/-- What line's boxes hold: ok in block OK, out behind it. -/
structure LJ (w : World) (t OK : Nat) (vs : Array Value) (ok : Bool) (out : ByteArray) (W : World) : Prop where
  hx : W.heap[w.heap.size]? = some (.cells vs 46 (0, 0))
  hr : W.heap[w.heap.size + 1]? = some (.cells #[.pointer (some ⟨t, 0, none⟩)] 48 (0, 0))
  ho : W.heap[OK]? = some (.cells #[.bool ok] 4 (0, 0))
  hu : W.heap[OK + 1]? = some (.cells #[.string out] 9 (0, 0))
  hb : Below w.heap.size w W
  hk : w.heap.size + 2 ≤ OK
section
variable {w W W' : World} {t OK : Nat} {vs : Array Value} {ok : Bool} {out : ByteArray}
theorem heap_lt {W : World} {k : Nat} {o : Obj} (h : W.heap[k]? = some o) : k < W.heap.size := (Array.getElem?_eq_some_iff.1 h).1
theorem LJ.size (h : LJ w t OK vs ok out W) : OK + 1 < W.heap.size := heap_lt h.hu
theorem LJ.below (h : LJ w t OK vs ok out W) (b : Below W.heap.size W W') : LJ w t OK vs ok out W' :=
  ⟨(b.block _ (heap_lt h.hx)).trans h.hx, (b.block _ (heap_lt h.hr)).trans h.hr, (b.block _ (heap_lt h.ho)).trans h.ho, (b.block _ (heap_lt h.hu)).trans h.hu, h.hb.trans (b.mono h.hb.size), h.hk⟩
theorem LJ.setOk (h : LJ w t OK vs ok out W) (b : Bool) : LJ w t OK vs b out (W.setCell ⟨OK, 0, none⟩ (.bool b)) := by
  have hk := h.hk
  exact ⟨(Below.heap_setCell _ _ _ _ (by dsimp only; omega)).trans h.hx, (Below.heap_setCell _ _ _ _ (by dsimp only; omega)).trans h.hr, heap_setCell_same _ _ 0 _ _ (.bool b) h.ho, (Below.heap_setCell _ _ _ _ (by dsimp only; omega)).trans h.hu, h.hb.setCell (p := ⟨OK, 0, none⟩) (by dsimp only; omega) _, hk⟩
theorem LJ.setOut (h : LJ w t OK vs ok out W) (b : ByteArray) : LJ w t OK vs ok b (W.setCell ⟨OK + 1, 0, none⟩ (.string b)) := by
  have hk := h.hk
  exact ⟨(Below.heap_setCell _ _ _ _ (by dsimp only; omega)).trans h.hx, (Below.heap_setCell _ _ _ _ (by dsimp only; omega)).trans h.hr, (Below.heap_setCell _ _ _ _ (by dsimp only; omega)).trans h.ho, heap_setCell_same _ _ 0 _ _ (.string b) h.hu, h.hb.setCell (p := ⟨OK + 1, 0, none⟩) (by dsimp only; omega) _, hk⟩
theorem LJ.setAt (h : LJ w t OK vs ok out W) (B : Nat) (hB : OK + 2 ≤ B) (v : Value) : LJ w t OK vs ok out (W.setCell ⟨B, 0, none⟩ v) := by
  have hk := h.hk
  exact ⟨(Below.heap_setCell _ _ _ _ (by dsimp only; omega)).trans h.hx, (Below.heap_setCell _ _ _ _ (by dsimp only; omega)).trans h.hr, (Below.heap_setCell _ _ _ _ (by dsimp only; omega)).trans h.ho, (Below.heap_setCell _ _ _ _ (by dsimp only; omega)).trans h.hu, h.hb.setCell (p := ⟨B, 0, none⟩) (by dsimp only; omega) _, hk⟩
theorem grown_keep {W W' : World} {row : Option Nat} {k : Nat} {cs : Array Value} {T : TypeId} {fz : Nat × Nat} (hg : W.grownBy W' row) (hr : ∀ r, row = some r → ∃ o : Obj, W.heap[r]? = some o ∧ o.isCells = false) (h : W.heap[k]? = some (.cells cs T fz)) : W'.heap[k]? = W.heap[k]? :=
  hg.block k (heap_lt h) fun e => by
    obtain ⟨o, h1, h2⟩ := hr k e.symm
    rw [h] at h1; injection h1 with h1; subst h1; cases h2
theorem LJ.kept {row : Option Nat} (h : LJ w t OK vs ok out W) (hg : W.grownBy W' row) (hr : ∀ r, row = some r → ∃ o : Obj, W.heap[r]? = some o ∧ o.isCells = false) (hN : ∀ r, row = some r → w.heap.size ≤ r) : LJ w t OK vs ok out W' :=
  ⟨(grown_keep hg hr h.hx).trans h.hx, (grown_keep hg hr h.hr).trans h.hr, (grown_keep hg hr h.ho).trans h.ho, (grown_keep hg hr h.hu).trans h.hu, h.hb.trans (bel_new hg hN h.hb.size), h.hk⟩
theorem LJ.fo (h : LJ w t OK vs ok out W) : W.cell? ⟨OK, 0, none⟩ = some (.bool ok) ∧ W.frozen? ⟨OK, 0, none⟩ = false := cell1 h.ho
theorem LJ.fu (h : LJ w t OK vs ok out W) : W.cell? ⟨OK + 1, 0, none⟩ = some (.string out) ∧ W.frozen? ⟨OK + 1, 0, none⟩ = false := cell1 h.hu
theorem LJ.fr (h : LJ w t OK vs ok out W) : W.cell? ⟨w.heap.size + 1, 0, none⟩ = some (.pointer (some ⟨t, 0, none⟩)) := (cell1 h.hr).1
/-- What a step within the loop over the literals keeps: a3 is where the set's words lie. -/
def KW (N : Nat) (a3 : Option Addr) (A B : World) : Prop := Below N A B ∧ ∀ p, a3 = some p → B.heap[p.block]? = A.heap[p.block]?
theorem KW.refl (N : Nat) (a3 : Option Addr) (A : World) : KW N a3 A A := ⟨Below.refl _ _, fun _ _ => rfl⟩
theorem KW.trans {N : Nat} {a3 : Option Addr} {A B C : World} (h : KW N a3 A B) (k : KW N a3 B C) : KW N a3 A C := ⟨h.1.trans k.1, fun p hp => (k.2 p hp).trans (h.2 p hp)⟩
theorem KW.below {N : Nat} {a3 : Option Addr} {A B : World} (h : Below A.heap.size A B) (hN : N ≤ A.heap.size) (ha : ∀ p, a3 = some p → p.block < A.heap.size) : KW N a3 A B := ⟨h.mono hN, fun p hp => h.block _ (ha p hp)⟩
theorem KW.set {N : Nat} {a3 : Option Addr} {A : World} {k : Nat} {v : Value} (hN : N ≤ k) (ha : ∀ p, a3 = some p → p.block ≠ k) : KW N a3 A (A.setCell ⟨k, 0, none⟩ v) :=
  ⟨(Below.refl _ _).setCell (p := ⟨k, 0, none⟩) hN _, fun p hp => Below.heap_setCell _ _ _ _ (ha p hp)⟩
theorem KW.putObj {N : Nat} {a3 : Option Addr} {A : World} {l : Nat} (o : Obj) (hN : N ≤ l) (ha : ∀ p, a3 = some p → p.block < l) : KW N a3 A (A.putObj l o) :=
  ⟨⟨rfl, rfl, rfl, by simp [World.putObj], fun k hk => World.putObj_heap_other (by omega)⟩, fun p hp => World.putObj_heap_other (by have := ha p hp; omega)⟩
theorem KW.tzn {N n₀ : Nat} {a3 : Option Addr} {A B : World} (h : KW N a3 A B) (hN : 1 < N) (hT : Tzn n₀ A) : Tzn n₀ B := ⟨hT.1, fun j hj => (h.1.cell (p := ⟨_, j, none⟩) hN).trans (hT.2 j hj)⟩
/-- The state within the loop over the literals. -/
def LnI (w : World) (t OK BT : Nat) (vs : Array Value) (ns : List ByteArray) (no : List Nat) (st0 : Bool × ByteArray × ByteArray) (a3 : Option Addr) (w8 : World) (l : List Nat) (W : World) : Prop :=
  LJ w t OK vs (l.foldl (stepL ns no) st0).1 (l.foldl (stepL ns no) st0).2.1 W ∧ W.heap[BT]? = some (.cells #[.string (l.foldl (stepL ns no) st0).2.2] 9 (0, 0)) ∧ KW w.heap.size a3 w8 W ∧ (l.foldl (stepL ns no) st0).2.1.size ≤ 3000 + 1100 * l.length ∧ (l.foldl (stepL ns no) st0).2.2.size ≤ 5 ∧ w8.heap.size ≤ W.heap.size
end
theorem nm_size (ns : List ByteArray) (n : Int) (hs : ∀ s ∈ ns, s.size ≤ 1000) : (nmS ns n).size ≤ 1000 := by
  unfold nmS
  split
  · rename_i h
    unfold nmB at h
    simp only [Bool.and_eq_true, decide_eq_true_eq] at h
    have hlt : n.toNat - 1 < ns.length := by omega
    rw [List.getD_eq_getElem?_getD, List.getElem?_eq_getElem hlt]
    exact hs _ (List.getElem_mem hlt)
  · exact Nat.zero_le _
theorem lj_mk {w w3 : World} {t : Nat} {v0 v1 v2 v3 v4 v5 v6 : Value} {ok : Bool} {o : ByteArray} (hd : Below (w.heap.size + 2) ((w.alloc (.cells #[v0, v1, v2, v3, v4, v5, v6] 46)).alloc (.cells #[.pointer (some ⟨t, 0, none⟩)] 48)) w3) (hz : w.heap.size + 2 ≤ w3.heap.size) :
    LJ w t w3.heap.size #[v0, v1, v2, v3, v4, v5, v6] ok o ((w3.alloc (.cells #[.bool ok] 4)).alloc (.cells #[.string o] 9)) := by
  have hd5 := (hd.alloc hz (.cells #[.bool ok] 4)).alloc (by rw [World.size_alloc]; omega) (.cells #[.string o] 9)
  have e2 : ((w.alloc (.cells #[v0, v1, v2, v3, v4, v5, v6] 46)).alloc (.cells #[.pointer (some ⟨t, 0, none⟩)] 48)).heap[w.heap.size + 1]? = some (.cells #[.pointer (some ⟨t, 0, none⟩)] 48 (0, 0)) := by
    have := heap_alloc_new (w.alloc (.cells #[v0, v1, v2, v3, v4, v5, v6] 46)) (.cells #[.pointer (some ⟨t, 0, none⟩)] 48)
    rwa [World.size_alloc] at this
  refine ⟨(hd5.block _ (by omega)).trans ((Below.heap_alloc _ _ _ (by simp)).trans (heap_alloc_new _ _)), (hd5.block _ (by omega)).trans e2, (Below.heap_alloc _ _ _ (by simp)).trans (heap_alloc_new _ _), ?_, (box71 hd5).2.2, hz⟩
  have := heap_alloc_new (w3.alloc (.cells #[.bool ok] 4)) (.cells #[.string o] 9)
  rwa [World.size_alloc] at this
/-- The boxes, and the record of a loop over a function. -/
def LD (w : World) (t OK : Nat) (vs : Array Value) (ok : Bool) (out : ByteArray) (D : Option Nat) (W : World) : Prop :=
  LJ w t OK vs ok out W ∧ ∀ d, D = some d → W.heap[d]? = some (.deferred (some [])) ∧ OK + 1 < d
theorem LD.lj {w W : World} {t OK : Nat} {vs : Array Value} {ok : Bool} {out : ByteArray} {D : Option Nat} (h : LD w t OK vs ok out D W) : LJ w t OK vs ok out W := h.1
theorem LD.below {w W W' : World} {t OK : Nat} {vs : Array Value} {ok : Bool} {out : ByteArray} {D : Option Nat} (h : LD w t OK vs ok out D W) (b : Below W.heap.size W W') : LD w t OK vs ok out D W' :=
  ⟨h.1.below b, fun d e => ⟨(b.block _ (heap_lt (h.2 d e).1)).trans (h.2 d e).1, (h.2 d e).2⟩⟩
theorem LD.setOut {w W : World} {t OK : Nat} {vs : Array Value} {ok : Bool} {out : ByteArray} {D : Option Nat} (h : LD w t OK vs ok out D W) (b : ByteArray) : LD w t OK vs ok b D (W.setCell ⟨OK + 1, 0, none⟩ (.string b)) :=
  ⟨h.1.setOut b, fun d e => ⟨(Below.heap_setCell _ _ _ _ (by have := (h.2 d e).2; dsimp only; omega)).trans (h.2 d e).1, (h.2 d e).2⟩⟩
theorem ret_sb {a b : ByteArray} {x y : Bool} (h : a = b) (k : x = y) : Ending.returned (.tuple #[.string a, .bool x]) = .returned (.tuple #[.string b, .bool y]) := by rw [h, k]
theorem text_size {l : List (Int × Int)} (h : Dy.Can l) : (⟨(Dy.textL l).toArray⟩ : ByteArray).size ≤ 400000 := by
  rw [size_mk]; exact Nat.le_trans (Dy.textL_len h) (by omega)
theorem kept_bel {W W' : World} (h : Below W.heap.size W W') : KeepsOthers W W' := ⟨h.size, fun k o hk _ => (h.block k (Array.getElem?_eq_some_iff.1 hk).1).trans hk⟩
theorem lni_own {w w8 : World} {t OK BT : Nat} {vs : Array Value} {ns : List ByteArray} {no : List Nat} {st0 : Bool × ByteArray × ByteArray} {a3 : Option Addr} (hb : Below w.heap.size w w8) (ha : ∀ p, a3 = some p → p.block < w8.heap.size) : OwnFrom w8.heap.size (fun (pre : List {x : Nat // x < 4096}) W => LnI w t OK BT vs ns no st0 a3 w8 (pre.map (·.1)) W) := by
  intro pre W W' row h hg hr
  obtain ⟨h1, h2, h3, h4, h5, h6⟩ := h
  have hr2 : ∀ r, row = some r → ∃ o : Obj, W.heap[r]? = some o ∧ o.isCells = false := fun r e => ⟨(hr r e).2.choose, (hr r e).2.choose_spec⟩
  have hbs := hb.size
  refine ⟨h1.kept hg hr2 (fun r e => by have := (hr r e).1; omega), (grown_keep hg hr2 h2).trans h2, ⟨h3.1.trans (bel_new hg (fun r e => by have := (hr r e).1; omega) h1.hb.size), fun p hp => (hg.block _ (Nat.lt_of_lt_of_le (ha p hp) h6) (fun e => ?_)).trans (h3.2 p hp)⟩, h4, h5, Nat.le_trans h6 hg.size⟩
  have := (hr _ e.symm).1
  have := ha p hp
  omega
def LnP (w : World) (ns : List ByteArray) (r : Rl) (e : Ending) (w' : World) : Prop := e = .returned (.tuple #[.string (lineP ns r).1, .bool (lineP ns r).2]) ∧ Below w.heap.size w w'
theorem line_f {N : Nat} (ad tg : Int) (p1 : Option Addr) (q1 z1 : Nat) (p2 : Option Addr) (q2 z2 : Nat) (p3 : Option Addr) (q3 z3 : Nat) (lg : Int) (yes no : List Nat) (days : List (Int × Int)) (t : Nat) (ns : List ByteArray) (w : World) (h3 : Bq N w p1 q1 z1 yes) (h4 : Bq N w p2 q2 z2 no) (h5 : Dy.Dn N w p3 q3 z3 days) (h7 : Dy.Can days) (hT : Tb w t ns) (hl : ns.length ≤ 1000) (hs : ∀ s ∈ ns, s.size ≤ 1000) (hlg : 0 ≤ lg ∧ lg < 9223372036854775808) (hTz : Tz w) (hP : Dy.Pow10 w) :
    Calls Tryz.prog 55 #[.agg #[.bool false, .int .i64 ad, .int .i64 tg, .slice p1 q1 z1, .slice p2 q2 z2, .slice p3 q3 z3, .int .i64 lg], .pointer (some ⟨t, 0, none⟩)] w (LnP w ns ⟨false, ad, tg, yes, no, days, lg⟩) := by
  have HNM := Lib.hid (fun w' n (hb : Below w.heap.size w w') => tname_any t ns n w' (hT.below hb) hl)
  have hb0 := Lib.hid (((Below.refl w.heap.size w).alloc (Nat.le_refl _) (.cells #[.bool false, .int .i64 ad, .int .i64 tg, .slice p1 q1 z1, .slice p2 q2 z2, .slice p3 q3 z3, .int .i64 lg] 46)).alloc (by simp) (.cells #[.pointer (some ⟨t, 0, none⟩)] 48))
  have hs1 := nm_size ns tg hs
  have hs2 := nm_size ns ad hs
  have HOK : Hid (okL ns ⟨false, ad, tg, yes, no, days, lg⟩ = (nmB ns tg && nmB ns ad)) := rfl
  have HHD : Hid (headL ns ⟨false, ad, tg, yes, no, days, lg⟩ = ((bAssign ++ nmS ns tg) ++ bBy) ++ nmS ns ad) := rfl
  refine (callsIn_wide (n := 3)).1 ?_
  refine callsIn_of_wp_marks Tryz.func55 rfl trivial ?_ rfl
  simp only [Tryz.ntmps55, List.size_toArray, List.length_cons, List.length_nil, Nat.reduceAdd, Nat.reduceSub, Array.replicate_succ, Array.replicate_zero, List.push_toArray, List.append_toArray, List.nil_append, List.cons_append]
  refine wpIn_wide.2 ?_
  go_upto_region 3 with (first
    | (go_at_call 131; (with_reducible refine (HNM.out _ _ hb0.out).mono ?_); rintro en w2 ⟨rfl, hb2⟩; obtain ⟨⟨-, c21, -, -, -, -, -⟩, y2, hB2⟩ := box71 (hb2.mono (by simp)))
    | (go_at_call 131; (with_reducible refine (HNM.out _ _ hB2).mono ?_); rintro en w3 ⟨rfl, hb3⟩; have hd3 := hb2.trans (hb3.mono hb2.size)))
  go_cut [7, 10] from 17 to 112 (fun s7 s10 wx => s7 = .bool (nmB ns tg) ∧ s10 = .pointer (some ⟨w3.heap.size, 0, none⟩) ∧ wx = w3.alloc (.cells #[.bool (nmB ns tg && nmB ns ad)] 4))
  case first =>
    cases hb : nmB ns tg
    all_goals
      go_wp2_with fail
      go_meet
      exact ⟨by rw [hb], rfl, by rw [hb]; rfl⟩
  case rest =>
    obtain ⟨rfl, rfl, rfl⟩ := hcut
    rw [← HOK.out]
    generalize hokl : okL ns ⟨false, ad, tg, yes, no, days, lg⟩ = ok0 at *
    have HOKL := Lib.hid hokl
    clear hokl
    generalize hn1 : nmS ns tg = n1 at *
    generalize hn2 : nmS ns ad = n2 at *
    have HN1 := Lib.hid hn1
    have HN2 := Lib.hid hn2
    clear hn1 hn2
    have hz3 : w.heap.size + 2 ≤ w3.heap.size := by have h := hd3.size; simp only [World.size_alloc] at h; omega
    replace hd3 := hd3.mono (show w.heap.size + 2 ≤ _ by simp)
    have hd4 := hd3.alloc hz3 (.cells #[.bool ok0] 4)
    obtain ⟨⟨x0, x1, x2, x3, x4, x5, x6⟩, y4, hB4⟩ := box71 hd4
    have hk4 := new1 w3 (.bool ok0) 4
    go_upto_region 8 with fail
    obtain ⟨o0, ho0⟩ : ∃ o, o = ((bAssign ++ n1) ++ bBy) ++ n2 := ⟨_, rfl⟩
    have hos : o0.size ≤ 3000 := by
      rw [ho0, ByteArray.size_append, ByteArray.size_append, ByteArray.size_append]
      show 7 + n1.size + 4 + n2.size ≤ 3000
      omega
    rw [show (⟨#[97, 115, 115, 105, 103, 110, 32]⟩ : ByteArray) ++ n1 ++ ⟨#[32, 98, 121, 32]⟩ ++ n2 = o0 from ho0.symm]
    have HO0 := Lib.hid (HHD.out.trans ho0.symm)
    clear ho0 HHD
    obtain ⟨W5, hW5⟩ : ∃ W5, W5 = (w3.alloc (.cells #[.bool ok0] 4)).alloc (.cells #[.string o0] 9) := ⟨_, rfl⟩
    have hz5 : W5.heap.size = w3.heap.size + 2 := by rw [hW5]; simp
    have hJ5 : LJ w t w3.heap.size #[.bool false, .int .i64 ad, .int .i64 tg, .slice p1 q1 z1, .slice p2 q2 z2, .slice p3 q3 z3, .int .i64 lg] ok0 o0 W5 := by
      rw [hW5]
      exact lj_mk hd3 hz3
    rw [← hW5]
    clear hW5 x0 x1 x2 x3 x4 x5 x6 y4 hk4 hd4 hd3 hb2 hb3
    obtain ⟨⟨x0, x1, x2, x3, x4, x5, x6⟩, -⟩ := cell7 hJ5.hx
    have HEM := Lib.hid (emptyC_any p1 p2 q1 z1 q2 z2 (yes, no) W5 ⟨h3.1.below hJ5.hb, h4.1.below hJ5.hb⟩)
    go_upto_region 9 with fail
    go_cut [] from 17 to 112 (fun wx => LJ w t w3.heap.size #[.bool false, .int .i64 ad, .int .i64 tg, .slice p1 q1 z1, .slice p2 q2 z2, .slice p3 q3 z3, .int .i64 lg] (ok0 && !emptyC (yes, no)) o0 wx)
    case first =>
      obtain ⟨k0, f0⟩ := hJ5.fo
      cases ok0
      · go_wp2_with fail
        go_meet
        exact hJ5.setOk false
      · go_wp2_with (go_at_call 84; refine HEM.out.mono ?_; rintro en wE ⟨rfl, hbE⟩; have hJE := hJ5.below hbE; obtain ⟨kE, fE⟩ := hJE.fo)
        go_meet
        exact hJE.setOk _
    case rest =>
      have hJ6 := hcut
      clear hcut HEM hJ5 x0 x1 x2 x3 x4 x5 x6
      obtain ⟨⟨x0, x1, x2, x3, x4, x5, x6⟩, -⟩ := cell7 hJ6.hx
      obtain ⟨ok1, hok1⟩ : ∃ b, b = (ok0 && !emptyC (yes, no)) := ⟨_, rfl⟩
      rw [← hok1] at hJ6
      have HOK1 := Lib.hid hok1
      clear hok1
      have hzc : w3.heap.size + 1 < wc.heap.size := hJ6.size
      have hJ7 : LJ w t w3.heap.size #[.bool false, .int .i64 ad, .int .i64 tg, .slice p1 q1 z1, .slice p2 q2 z2, .slice p3 q3 z3, .int .i64 lg] ok1 o0 (wc.alloc (.cells #[.string ⟨#[32, 105, 102, 32]⟩] 9)) := hJ6.below ((Below.refl _ wc).alloc (Nat.le_refl _) _)
      have hbt7 : (wc.alloc (.cells #[.string ⟨#[32, 105, 102, 32]⟩] 9)).heap[wc.heap.size]? = some (.cells #[.string ⟨#[32, 105, 102, 32]⟩] 9 (0, 0)) := heap_alloc_new _ _
      obtain ⟨⟨u0, u1, u2, u3, u4, u5, u6⟩, -⟩ := cell7 hJ7.hx
      have HOR := Lib.hid (or_any p1 p2 q1 q2 z1 z2 yes no (wc.alloc (.cells #[.string ⟨#[32, 105, 102, 32]⟩] 9)) (h3.1.below hJ7.hb) (h4.1.below hJ7.hb))
      go_wp2_with (first
        | (go_at_call 24; refine HOR.out.mono ?_; rintro en w7 ⟨a3, n3, k3, rfl, hs3, hb7⟩)
        | (go_at_call 96; refine ((callsIn_wide.1 (all_in 2 _ _ _ _))).mono ?_; rintro en wA ⟨rfl, rfl⟩))
      have hz7 := hb7.size
      rw [World.size_alloc] at hz7
      have hal : Below w7.heap.size w7 (w7.alloc (.cells #[.slice a3 n3 k3] 39)) := (Below.refl _ _).alloc (Nat.le_refl _) _
      have hJ7' := hJ7.below hb7
      have hbt7' := (hb7.block _ (heap_lt hbt7)).trans hbt7
      have hJ8 : LJ w t w3.heap.size #[.bool false, .int .i64 ad, .int .i64 tg, .slice p1 q1 z1, .slice p2 q2 z2, .slice p3 q3 z3, .int .i64 lg] ok1 o0 (w7.alloc (.cells #[.slice a3 n3 k3] 39)) := hJ7'.below hal
      have hbt8 := (hal.block _ (heap_lt hbt7')).trans hbt7'
      have hs8 := hs3.below hal
      have ha3 : ∀ p, a3 = some p → p.block < w7.heap.size ∧ p.block ≠ w3.heap.size ∧ p.block ≠ w3.heap.size + 1 ∧ p.block ≠ wc.heap.size := by
        intro p hp
        obtain ⟨ws, ⟨_, _, _, h4'⟩, _⟩ := hs3
        rcases h4' with ⟨h4', _⟩ | ⟨b, o, h4', ⟨hb, cs, fz, ht⟩, _⟩
        · rw [h4'] at hp; cases hp
        · rw [h4'] at hp; injection hp with hp; subst hp
          refine ⟨hb, ?_, ?_, ?_⟩ <;> intro e <;> dsimp only at e <;> subst e
          · have := hJ7'.ho; rw [ht] at this; injection this with this; injection this with _ this _; exact absurd this (by decide)
          · have := hJ7'.hu; rw [ht] at this; injection this with this; injection this with _ this _; exact absurd this (by decide)
          · rw [ht] at hbt7'; injection hbt7' with this; injection this with _ this _; exact absurd this (by decide)
      have hT8 : Tzn (w7.heap.size + 1) (w7.alloc (.cells #[.slice a3 n3 k3] 39)) := by
        have h := hTz.below hJ8.hb
        have h2 : Tzn (World.heap (w7.alloc (.cells #[.slice a3 n3 k3] 39))).size (w7.alloc (.cells #[.slice a3 n3 k3] 39)) := h
        rwa [World.size_alloc] at h2
      have hTl : 1 < w.heap.size := hTz.1
      have hk3 := hJ8.hk
      have hNw : w.heap.size ≤ w7.heap.size := by omega
      have bN := new1 w7 (.slice a3 n3 k3) 39
      have HHS := Lib.hid (fun w' (x : Nat) (hb : Below w.heap.size w w') => has_any p2 q2 z2 no (x : Int) w' (h4.1.below hb))
      have hasc : (orL yes no).length ≤ 4096 := by unfold orL; exact Nat.le_trans (List.length_filter_le ..) (by simp)
      refine (wpIn_wide (n := 3)).1 ?_
      refine' wpIn_rangeFunc_ownG (F := Fence.wide) (n := 3) rfl (show 1 ≤ 3 by omega) (gf := 179) (lb := #[.pointer (some ⟨w7.heap.size, 0, none⟩)]) rfl trivial (enters_of Tryz.func179 (by kernel_rfl) rfl)
        (all_stopsK (3 - 1) (by omega) w7.heap.size (w7.heap.size + 1) a3 n3 k3 (orL yes no) _ (by simp) (by simp) hT8 bN.1 hs8 (KW w.heap.size a3) (KW.refl _ _) KW.trans (fun h => h.tzn hTl) (fun p hp A B h j => (World.cell?_of_block (a := ⟨p.block, j, none⟩) (h.2 p hp)).symm))
        KW.trans (fun W l o o' hl _ _ _ => KW.putObj o' (by simp at hl; omega) (fun p hp => by have := (ha3 p hp).1; simp at hl; omega)) (Below.refl _ _) (fun _ => rfl)
        (fun pre W => LnI w t w3.heap.size wc.heap.size #[.bool false, .int .i64 ad, .int .i64 tg, .slice p1 q1 z1, .slice p2 q2 z2, .slice p3 q3 z3, .int .i64 lg] ns no (ok1, o0, ⟨#[32, 105, 102, 32]⟩) a3 (w7.alloc (.cells #[.slice a3 n3 k3] 39)) (pre.map (·.1)) W)
        (fun _ _ _ => False)
        (lni_own hJ8.hb (fun p hp => by have := (ha3 p hp).1; simp; omega))
        (fun _ _ _ _ _ hs _ _ => hs)
        ⟨hJ8, hbt8, KW.refl _ _ _, by show o0.size ≤ 3000 + 1100 * 0; omega, by show (4 : Nat) ≤ 5; omega, Nat.le_refl _⟩
        _ ?assign ?body ?done ?stop
      case assign =>
        intro lk x W K hK
        gi_wp2
        exact hK
      case stop =>
        rintro D c pre W _ _ h _
        exact h.elim
      case body =>
        rintro lk pre x W hI hlt
        obtain ⟨hJ, hbt, hK, hso, hsb, hsw⟩ := hI
        have HV : Hid (((pre ++ [x]).map (·.1)).foldl (stepL ns no) (ok1, o0, ⟨#[32, 105, 102, 32]⟩) = stepL ns no ((pre.map (·.1)).foldl (stepL ns no) (ok1, o0, ⟨#[32, 105, 102, 32]⟩)) x.1) := by
          show _ = _
          rw [List.map_append, List.foldl_append]; rfl
        have hln4 : (pre.map (·.1)).length ≤ 4096 := by rw [List.length_map]; omega
        have HLN : Hid (((pre ++ [x]).map (·.1)).length = (pre.map (·.1)).length + 1) := by
          show _ = _
          simp
        generalize (pre.map (·.1)).foldl (stepL ns no) (ok1, o0, ⟨#[32, 105, 102, 32]⟩) = st at *
        generalize (pre.map (·.1)).length = ln at *
        obtain ⟨okv, outv, btv⟩ := st
        dsimp only at hJ hbt hso hsb
        have hnm := nm_size ns (x.1 : Int) hs
        have hJs := hJ.size
        have haW : ∀ p, a3 = some p → p.block < W.heap.size := fun p hp => by have := (ha3 p hp).1; simp at hsw; omega
        have HNX := Lib.hid (HNM.out W (x.1 : Int) hJ.hb)
        have HHX := Lib.hid (fun w' (hb : Below w.heap.size w w') => HHS.out w' x.1 hb)
        have HV2 : Hid (((pre ++ [x]).map (·.1)).foldl (stepL ns no) (ok1, o0, ⟨#[32, 105, 102, 32]⟩) = (okv && nmB ns (x.1 : Int), (if hasB no (x.1 : Int) then (outv ++ btv) ++ bNot else outv ++ btv) ++ nmS ns (x.1 : Int), bAnd)) := HV.out
        clear HV HHS hlt
        generalize hn9 : nmS ns (x.1 : Int) = nx at *
        generalize hb9 : nmB ns (x.1 : Int) = bx at *
        clear hn9 hb9
        have hrb := hJ.fr
        cases hh : hasB no (x.1 : Int)
        · rw [hh] at HHX HV2
          cases okv
          · have hzJ := hJ.hk
            have hq1 : ¬ 9223372036854775807 < outv.size + btv.size := by omega
            have hq2 : ¬ 9223372036854775807 < outv.size + btv.size + nx.size := by omega
            have hq3 : ¬ 9223372036854775807 < outv.size + btv.size + 4 := by omega
            have hq4 : ¬ 9223372036854775807 < outv.size + btv.size + 4 + nx.size := by omega
            gi_wp2_with (first
              | ((first | refine ⟨trivial, ?_⟩ | skip); gi_at_call 131; (with_reducible refine (CallsIn.inRound lk (callsIn_wide.2 HNX.out)).mono ?_); rintro e w9 ⟨rfl, hb9⟩; have hJ9 := hJ.below hb9; have hbt9 := (hb9.block _ (heap_lt hbt)).trans hbt; obtain ⟨k9, f9⟩ := hJ9.fo; have hJa := hJ9.setOk false; have hbta := (Below.heap_setCell w9 ⟨w3.heap.size, 0, none⟩ (.bool false) wc.heap.size (by dsimp only; omega)).trans hbt9; obtain ⟨ka, fa⟩ := hJa.fu; obtain ⟨kba, fba⟩ := cell1 hbta; have hJb := hJa.setOut (outv ++ btv); have hbtb := (Below.heap_setCell _ ⟨w3.heap.size + 1, 0, none⟩ (.string (outv ++ btv)) wc.heap.size (by dsimp only; omega)).trans hbta; obtain ⟨⟨-, -, -, -, cb4, -, -⟩, -⟩ := cell7 hJb.hx)
              | ((first | refine ⟨trivial, ?_⟩ | skip); gi_at_call 77; (with_reducible refine (CallsIn.inRound lk (callsIn_wide.2 (HHX.out _ hJb.hb))).mono ?_); rintro e w10 ⟨rfl, hb10⟩; have hJc := hJb.below hb10; have hbtc := (hb10.block _ (heap_lt hbtb)).trans hbtb; obtain ⟨kc, fc⟩ := hJc.fu; have hJe := hJc.setOut ((outv ++ btv) ++ nx); have hbte := (Below.heap_setCell _ ⟨w3.heap.size + 1, 0, none⟩ (.string ((outv ++ btv) ++ nx)) wc.heap.size (by dsimp only; omega)).trans hbtc; obtain ⟨ke, fe⟩ := cell1 hbte)
              | (refine ⟨trivial, ?_⟩))
            have hbtf := heap_setCell_same _ _ 0 _ _ (.string ⟨#[32, 97, 110, 100, 32]⟩) hbte
            have kq := (((((KW.below hb9 hJ.hb.size haW).trans (KW.set (k := w3.heap.size) (v := .bool false) (by omega) (fun p hp => (ha3 p hp).2.1))).trans (KW.set (k := w3.heap.size + 1) (v := .string (outv ++ btv)) (by omega) (fun p hp => (ha3 p hp).2.2.1))).trans (KW.below hb10 hJb.hb.size (fun p hp => by have := haW p hp; have := hb9.size; simp only [World.size_setCell]; omega))).trans (KW.set (k := w3.heap.size + 1) (v := .string ((outv ++ btv) ++ nx)) (by omega) (fun p hp => (ha3 p hp).2.2.1))).trans (KW.set (k := wc.heap.size) (v := .string ⟨#[32, 97, 110, 100, 32]⟩) (by omega) (fun p hp => (ha3 p hp).2.2.2))
            have hsE : ((outv ++ btv) ++ nx).size ≤ 3000 + 1100 * (ln + 1) := by
              rw [ByteArray.size_append, ByteArray.size_append]
              show outv.size + btv.size + nx.size ≤ _
              omega
            refine ⟨(show KeepsOthers W _ from ((((((kept_bel hb9).trans (KeepsOthers.setCell _ _ _)).trans (KeepsOthers.setCell _ _ _)).trans (kept_bel hb10)).trans (KeepsOthers.setCell _ _ _)).trans (KeepsOthers.setCell _ _ _))).from _, kq, ?_⟩
            show LnI _ _ _ _ _ _ _ _ _ _ ((pre ++ [x]).map (·.1)) _
            unfold LnI
            rw [HV2.out, HLN.out]
            exact ⟨hJe.setAt wc.heap.size (by omega) _, hbtf, hK.trans kq, hsE, by show (5 : Nat) ≤ 5; omega, Nat.le_trans hsw kq.1.size⟩
          · have hzJ := hJ.hk
            have hq1 : ¬ 9223372036854775807 < outv.size + btv.size := by omega
            have hq2 : ¬ 9223372036854775807 < outv.size + btv.size + nx.size := by omega
            have hq3 : ¬ 9223372036854775807 < outv.size + btv.size + 4 := by omega
            have hq4 : ¬ 9223372036854775807 < outv.size + btv.size + 4 + nx.size := by omega
            gi_wp2_with (first
              | ((first | refine ⟨trivial, ?_⟩ | skip); gi_at_call 131; (with_reducible refine (CallsIn.inRound lk (callsIn_wide.2 HNX.out)).mono ?_); rintro e w9 ⟨rfl, hb9⟩; have hJ9 := hJ.below hb9; have hbt9 := (hb9.block _ (heap_lt hbt)).trans hbt; obtain ⟨k9, f9⟩ := hJ9.fo; have hJa := hJ9.setOk bx; have hbta := (Below.heap_setCell w9 ⟨w3.heap.size, 0, none⟩ (.bool bx) wc.heap.size (by dsimp only; omega)).trans hbt9; obtain ⟨ka, fa⟩ := hJa.fu; obtain ⟨kba, fba⟩ := cell1 hbta; have hJb := hJa.setOut (outv ++ btv); have hbtb := (Below.heap_setCell _ ⟨w3.heap.size + 1, 0, none⟩ (.string (outv ++ btv)) wc.heap.size (by dsimp only; omega)).trans hbta; obtain ⟨⟨-, -, -, -, cb4, -, -⟩, -⟩ := cell7 hJb.hx)
              | ((first | refine ⟨trivial, ?_⟩ | skip); gi_at_call 77; (with_reducible refine (CallsIn.inRound lk (callsIn_wide.2 (HHX.out _ hJb.hb))).mono ?_); rintro e w10 ⟨rfl, hb10⟩; have hJc := hJb.below hb10; have hbtc := (hb10.block _ (heap_lt hbtb)).trans hbtb; obtain ⟨kc, fc⟩ := hJc.fu; have hJe := hJc.setOut ((outv ++ btv) ++ nx); have hbte := (Below.heap_setCell _ ⟨w3.heap.size + 1, 0, none⟩ (.string ((outv ++ btv) ++ nx)) wc.heap.size (by dsimp only; omega)).trans hbtc; obtain ⟨ke, fe⟩ := cell1 hbte)
              | (refine ⟨trivial, ?_⟩))
            have hbtf := heap_setCell_same _ _ 0 _ _ (.string ⟨#[32, 97, 110, 100, 32]⟩) hbte
            have kq := (((((KW.below hb9 hJ.hb.size haW).trans (KW.set (k := w3.heap.size) (v := .bool bx) (by omega) (fun p hp => (ha3 p hp).2.1))).trans (KW.set (k := w3.heap.size + 1) (v := .string (outv ++ btv)) (by omega) (fun p hp => (ha3 p hp).2.2.1))).trans (KW.below hb10 hJb.hb.size (fun p hp => by have := haW p hp; have := hb9.size; simp only [World.size_setCell]; omega))).trans (KW.set (k := w3.heap.size + 1) (v := .string ((outv ++ btv) ++ nx)) (by omega) (fun p hp => (ha3 p hp).2.2.1))).trans (KW.set (k := wc.heap.size) (v := .string ⟨#[32, 97, 110, 100, 32]⟩) (by omega) (fun p hp => (ha3 p hp).2.2.2))
            have hsE : ((outv ++ btv) ++ nx).size ≤ 3000 + 1100 * (ln + 1) := by
              rw [ByteArray.size_append, ByteArray.size_append]
              show outv.size + btv.size + nx.size ≤ _
              omega
            refine ⟨(show KeepsOthers W _ from ((((((kept_bel hb9).trans (KeepsOthers.setCell _ _ _)).trans (KeepsOthers.setCell _ _ _)).trans (kept_bel hb10)).trans (KeepsOthers.setCell _ _ _)).trans (KeepsOthers.setCell _ _ _))).from _, kq, ?_⟩
            show LnI _ _ _ _ _ _ _ _ _ _ ((pre ++ [x]).map (·.1)) _
            unfold LnI
            rw [HV2.out, HLN.out]
            exact ⟨hJe.setAt wc.heap.size (by omega) _, hbtf, hK.trans kq, hsE, by show (5 : Nat) ≤ 5; omega, Nat.le_trans hsw kq.1.size⟩
        · rw [hh] at HHX HV2
          cases okv
          · have hzJ := hJ.hk
            have hq1 : ¬ 9223372036854775807 < outv.size + btv.size := by omega
            have hq2 : ¬ 9223372036854775807 < outv.size + btv.size + nx.size := by omega
            have hq3 : ¬ 9223372036854775807 < outv.size + btv.size + 4 := by omega
            have hq4 : ¬ 9223372036854775807 < outv.size + btv.size + 4 + nx.size := by omega
            gi_wp2_with (first
              | ((first | refine ⟨trivial, ?_⟩ | skip); gi_at_call 131; (with_reducible refine (CallsIn.inRound lk (callsIn_wide.2 HNX.out)).mono ?_); rintro e w9 ⟨rfl, hb9⟩; have hJ9 := hJ.below hb9; have hbt9 := (hb9.block _ (heap_lt hbt)).trans hbt; obtain ⟨k9, f9⟩ := hJ9.fo; have hJa := hJ9.setOk false; have hbta := (Below.heap_setCell w9 ⟨w3.heap.size, 0, none⟩ (.bool false) wc.heap.size (by dsimp only; omega)).trans hbt9; obtain ⟨ka, fa⟩ := hJa.fu; obtain ⟨kba, fba⟩ := cell1 hbta; have hJb := hJa.setOut (outv ++ btv); have hbtb := (Below.heap_setCell _ ⟨w3.heap.size + 1, 0, none⟩ (.string (outv ++ btv)) wc.heap.size (by dsimp only; omega)).trans hbta; obtain ⟨⟨-, -, -, -, cb4, -, -⟩, -⟩ := cell7 hJb.hx)
              | ((first | refine ⟨trivial, ?_⟩ | skip); gi_at_call 77; (with_reducible refine (CallsIn.inRound lk (callsIn_wide.2 (HHX.out _ hJb.hb))).mono ?_); rintro e w10 ⟨rfl, hb10⟩; have hJc := hJb.below hb10; have hbtc := (hb10.block _ (heap_lt hbtb)).trans hbtb; obtain ⟨kc, fc⟩ := hJc.fu; have hJd := hJc.setOut ((outv ++ btv) ++ ⟨#[110, 111, 116, 32]⟩); have hbtd := (Below.heap_setCell _ ⟨w3.heap.size + 1, 0, none⟩ (.string ((outv ++ btv) ++ ⟨#[110, 111, 116, 32]⟩)) wc.heap.size (by dsimp only; omega)).trans hbtc; obtain ⟨kd, fd⟩ := hJd.fu; have hJe := hJd.setOut (((outv ++ btv) ++ ⟨#[110, 111, 116, 32]⟩) ++ nx); have hbte := (Below.heap_setCell _ ⟨w3.heap.size + 1, 0, none⟩ (.string (((outv ++ btv) ++ ⟨#[110, 111, 116, 32]⟩) ++ nx)) wc.heap.size (by dsimp only; omega)).trans hbtd; obtain ⟨ke, fe⟩ := cell1 hbte)
              | (refine ⟨trivial, ?_⟩))
            have hbtf := heap_setCell_same _ _ 0 _ _ (.string ⟨#[32, 97, 110, 100, 32]⟩) hbte
            have kq := ((((((KW.below hb9 hJ.hb.size haW).trans (KW.set (k := w3.heap.size) (v := .bool false) (by omega) (fun p hp => (ha3 p hp).2.1))).trans (KW.set (k := w3.heap.size + 1) (v := .string (outv ++ btv)) (by omega) (fun p hp => (ha3 p hp).2.2.1))).trans (KW.below hb10 hJb.hb.size (fun p hp => by have := haW p hp; have := hb9.size; simp only [World.size_setCell]; omega))).trans (KW.set (k := w3.heap.size + 1) (v := .string ((outv ++ btv) ++ ⟨#[110, 111, 116, 32]⟩)) (by omega) (fun p hp => (ha3 p hp).2.2.1))).trans (KW.set (k := w3.heap.size + 1) (v := .string (((outv ++ btv) ++ ⟨#[110, 111, 116, 32]⟩) ++ nx)) (by omega) (fun p hp => (ha3 p hp).2.2.1))).trans (KW.set (k := wc.heap.size) (v := .string ⟨#[32, 97, 110, 100, 32]⟩) (by omega) (fun p hp => (ha3 p hp).2.2.2))
            have hsE : (((outv ++ btv) ++ ⟨#[110, 111, 116, 32]⟩) ++ nx).size ≤ 3000 + 1100 * (ln + 1) := by
              rw [ByteArray.size_append, ByteArray.size_append, ByteArray.size_append]
              show outv.size + btv.size + 4 + nx.size ≤ _
              omega
            refine ⟨(show KeepsOthers W _ from (((((((kept_bel hb9).trans (KeepsOthers.setCell _ _ _)).trans (KeepsOthers.setCell _ _ _)).trans (kept_bel hb10)).trans (KeepsOthers.setCell _ _ _)).trans (KeepsOthers.setCell _ _ _)).trans (KeepsOthers.setCell _ _ _))).from _, kq, ?_⟩
            show LnI _ _ _ _ _ _ _ _ _ _ ((pre ++ [x]).map (·.1)) _
            unfold LnI
            rw [HV2.out, HLN.out]
            exact ⟨hJe.setAt wc.heap.size (by omega) _, hbtf, hK.trans kq, hsE, by show (5 : Nat) ≤ 5; omega, Nat.le_trans hsw kq.1.size⟩
          · have hzJ := hJ.hk
            have hq1 : ¬ 9223372036854775807 < outv.size + btv.size := by omega
            have hq2 : ¬ 9223372036854775807 < outv.size + btv.size + nx.size := by omega
            have hq3 : ¬ 9223372036854775807 < outv.size + btv.size + 4 := by omega
            have hq4 : ¬ 9223372036854775807 < outv.size + btv.size + 4 + nx.size := by omega
            gi_wp2_with (first
              | ((first | refine ⟨trivial, ?_⟩ | skip); gi_at_call 131; (with_reducible refine (CallsIn.inRound lk (callsIn_wide.2 HNX.out)).mono ?_); rintro e w9 ⟨rfl, hb9⟩; have hJ9 := hJ.below hb9; have hbt9 := (hb9.block _ (heap_lt hbt)).trans hbt; obtain ⟨k9, f9⟩ := hJ9.fo; have hJa := hJ9.setOk bx; have hbta := (Below.heap_setCell w9 ⟨w3.heap.size, 0, none⟩ (.bool bx) wc.heap.size (by dsimp only; omega)).trans hbt9; obtain ⟨ka, fa⟩ := hJa.fu; obtain ⟨kba, fba⟩ := cell1 hbta; have hJb := hJa.setOut (outv ++ btv); have hbtb := (Below.heap_setCell _ ⟨w3.heap.size + 1, 0, none⟩ (.string (outv ++ btv)) wc.heap.size (by dsimp only; omega)).trans hbta; obtain ⟨⟨-, -, -, -, cb4, -, -⟩, -⟩ := cell7 hJb.hx)
              | ((first | refine ⟨trivial, ?_⟩ | skip); gi_at_call 77; (with_reducible refine (CallsIn.inRound lk (callsIn_wide.2 (HHX.out _ hJb.hb))).mono ?_); rintro e w10 ⟨rfl, hb10⟩; have hJc := hJb.below hb10; have hbtc := (hb10.block _ (heap_lt hbtb)).trans hbtb; obtain ⟨kc, fc⟩ := hJc.fu; have hJd := hJc.setOut ((outv ++ btv) ++ ⟨#[110, 111, 116, 32]⟩); have hbtd := (Below.heap_setCell _ ⟨w3.heap.size + 1, 0, none⟩ (.string ((outv ++ btv) ++ ⟨#[110, 111, 116, 32]⟩)) wc.heap.size (by dsimp only; omega)).trans hbtc; obtain ⟨kd, fd⟩ := hJd.fu; have hJe := hJd.setOut (((outv ++ btv) ++ ⟨#[110, 111, 116, 32]⟩) ++ nx); have hbte := (Below.heap_setCell _ ⟨w3.heap.size + 1, 0, none⟩ (.string (((outv ++ btv) ++ ⟨#[110, 111, 116, 32]⟩) ++ nx)) wc.heap.size (by dsimp only; omega)).trans hbtd; obtain ⟨ke, fe⟩ := cell1 hbte)
              | (refine ⟨trivial, ?_⟩))
            have hbtf := heap_setCell_same _ _ 0 _ _ (.string ⟨#[32, 97, 110, 100, 32]⟩) hbte
            have kq := ((((((KW.below hb9 hJ.hb.size haW).trans (KW.set (k := w3.heap.size) (v := .bool bx) (by omega) (fun p hp => (ha3 p hp).2.1))).trans (KW.set (k := w3.heap.size + 1) (v := .string (outv ++ btv)) (by omega) (fun p hp => (ha3 p hp).2.2.1))).trans (KW.below hb10 hJb.hb.size (fun p hp => by have := haW p hp; have := hb9.size; simp only [World.size_setCell]; omega))).trans (KW.set (k := w3.heap.size + 1) (v := .string ((outv ++ btv) ++ ⟨#[110, 111, 116, 32]⟩)) (by omega) (fun p hp => (ha3 p hp).2.2.1))).trans (KW.set (k := w3.heap.size + 1) (v := .string (((outv ++ btv) ++ ⟨#[110, 111, 116, 32]⟩) ++ nx)) (by omega) (fun p hp => (ha3 p hp).2.2.1))).trans (KW.set (k := wc.heap.size) (v := .string ⟨#[32, 97, 110, 100, 32]⟩) (by omega) (fun p hp => (ha3 p hp).2.2.2))
            have hsE : (((outv ++ btv) ++ ⟨#[110, 111, 116, 32]⟩) ++ nx).size ≤ 3000 + 1100 * (ln + 1) := by
              rw [ByteArray.size_append, ByteArray.size_append, ByteArray.size_append]
              show outv.size + btv.size + 4 + nx.size ≤ _
              omega
            refine ⟨(show KeepsOthers W _ from (((((((kept_bel hb9).trans (KeepsOthers.setCell _ _ _)).trans (KeepsOthers.setCell _ _ _)).trans (kept_bel hb10)).trans (KeepsOthers.setCell _ _ _)).trans (KeepsOthers.setCell _ _ _)).trans (KeepsOthers.setCell _ _ _))).from _, kq, ?_⟩
            show LnI _ _ _ _ _ _ _ _ _ _ ((pre ++ [x]).map (·.1)) _
            unfold LnI
            rw [HV2.out, HLN.out]
            exact ⟨hJe.setAt wc.heap.size (by omega) _, hbtf, hK.trans kq, hsE, by show (5 : Nat) ≤ 5; omega, Nat.le_trans hsw kq.1.size⟩
      case done =>
        rintro D ys W1 hD hys hI hKD
        obtain ⟨hJ, -, -, ho, -, hsw⟩ := hI
        rw [show ys.map (·.1) = orL yes no from hys] at hJ ho
        have HLL : Hid (litsL ns ⟨false, ad, tg, yes, no, days, lg⟩ = (((orL yes no).foldl (stepL ns no) (ok1, o0, ⟨#[32, 105, 102, 32]⟩)).1, ((orL yes no).foldl (stepL ns no) (ok1, o0, ⟨#[32, 105, 102, 32]⟩)).2.1)) := by
          show _ = _
          unfold litsL
          dsimp only
          rw [HOKL.out, HO0.out, ← HOK1.out]
          rfl
        generalize ((orL yes no).foldl (stepL ns no) (ok1, o0, ⟨#[32, 105, 102, 32]⟩)).1 = okF at *
        generalize ((orL yes no).foldl (stepL ns no) (ok1, o0, ⟨#[32, 105, 102, 32]⟩)).2.1 = outF at *
        have hoF : outF.size ≤ 5000000 := by omega
        have hL0 : LD w t w3.heap.size #[.bool false, .int .i64 ad, .int .i64 tg, .slice p1 q1 z1, .slice p2 q2 z2, .slice p3 q3 z3, .int .i64 lg] okF outF (some D) W1 := ⟨hJ, fun d e => by injection e with e; subst e; exact ⟨hKD, by simp at hD; omega⟩⟩
        clear hJ hKD HOR hs3 hs8 ha3 hT8 bN
        obtain ⟨⟨x0, x1, x2, x3, x4, x5, x6⟩, -⟩ := cell7 hL0.1.hx
        have HTX := Lib.hid (fun w' (hb : Below w.heap.size w w') => Dy.text_any p3 q3 z3 days w' (h5.1.below hb (Nat.le_refl _)) h7 (hP.below hb))
        go_upto_region 20 with fail
        have hLd := hL0.below (Below.refl _ _).drew
        refine wp_region_noPanic ?_
        refine region_ord (S := fun w' => w'.cell? ⟨w.heap.size, 5, none⟩ = some (.slice p3 q3 z3)) [0, 1, 2, 3, 4] (by kernel_rfl) (by decide +kernel) (fun _ _ _ _ _ h => h) (x5) (fun _ => ?_)
        repeat (first
          | (refine ord_skip rfl rfl rfl ?_; (try simp only [Act.put, List.setIfInBounds_toArray, List.set_cons_zero, List.set_cons_succ]))
          | (refine' ord_light (v := _) rfl rfl rfl (fun w' hSw => ?_) ?_; rotate_left; (focus ((try dsimp only at hSw); go_simp <;> (with_reducible rfl))); (try simp only [Act.put, List.setIfInBounds_toArray, List.set_cons_zero, List.set_cons_succ]))
          | (refine ord_heavy rfl rfl (fun K hK => ?_); go_simp; (go_at_call 132; refine (Dy.all_anyF _).mono ?_; rintro en w11 ⟨a11, n11, c11, rfl, hd11, hb11⟩; have hLA := hLd.below hb11; have y5 := (cell7 hLA.1.hx).1.2.2.2.2.2.1); (try go_wp2_with fail); refine hK.out _ _ (by first | exact x5 | exact y5 | exact z5) ?_; clear hK K; (try simp only [Act.put, List.setIfInBounds_toArray, List.set_cons_zero, List.set_cons_succ]))
          | (refine ord_heavy rfl rfl (fun K hK => ?_); go_simp; (go_at_call 87; refine (Dy.setEqual_any _ _ _ _ _ _ days allD _ (h5.1.below hLA.1.hb (Nat.le_refl _)) hd11.1).mono ?_; rintro en w12 ⟨rfl, hb12⟩; have hLB := hLA.below hb12; have z5 := (cell7 hLB.1.hx).1.2.2.2.2.2.1); (try go_wp2_with fail); refine hK.out _ _ (by first | exact x5 | exact y5 | exact z5) ?_; clear hK K; (try simp only [Act.put, List.setIfInBounds_toArray, List.set_cons_zero, List.set_cons_succ]))
          | (refine ord_heavy rfl rfl (fun K hK => ?_); go_simp; (try go_wp2_with fail); refine hK.out _ _ (by first | exact x5 | exact y5 | exact z5) ?_; clear hK K; (try simp only [Act.put, List.setIfInBounds_toArray, List.set_cons_zero, List.set_cons_succ])))
        refine ord_nil (NoPanic.normal ?_)
        go_upto_if 89 with fail
        obtain ⟨bd, hbd⟩ : ∃ b, b = decide (days = allD) := ⟨_, rfl⟩
        rw [← hbd]
        have HBD := Lib.hid hbd
        clear hbd
        generalize hTXb : (⟨(Dy.textL days).toArray⟩ : ByteArray) = tx at HTX
        have htx : tx.size ≤ 400000 := by rw [← hTXb]; exact text_size h7
        have HTXB := Lib.hid hTXb
        clear hTXb
        go_cut [] from 17 to 112 (fun wx => LD w t w3.heap.size #[.bool false, .int .i64 ad, .int .i64 tg, .slice p1 q1 z1, .slice p2 q2 z2, .slice p3 q3 z3, .int .i64 lg] okF (if days = allD then outF else outF ++ (bOn ++ tx)) (some D) wx)
        case first =>
          cases bd
          · have HD : Hid (¬ days = allD) := of_decide_eq_false (p := days = allD) HBD.out.symm
            have hq1 : ¬ 9223372036854775807 < 4 + tx.size := by omega
            have hq2 : ¬ 9223372036854775807 < outF.size + (4 + tx.size) := by omega
            have hq3 : ¬ 9223372036854775807 < outF.size + 4 + tx.size := by omega
            clear x0 x1 x2 x3 x4 x5 x6
            replace hLd := hLB
            obtain ⟨⟨x0, x1, x2, x3, x4, x5, x6⟩, -⟩ := cell7 hLd.1.hx
            obtain ⟨ku, fu⟩ := hLd.1.fu
            go_upto_region 21 with fail
            replace hLd := hLd.below (Below.refl _ _).drew
            refine wp_region_noPanic ?_
            refine wp_region_held_drew (S := fun _ => True) (by kernel_rfl) trivial (fun _ => ?_)
            refine' wpAnyH_take (i := 1) (v := _) rfl (by kernel_rfl) (by kernel_rfl) (by kernel_rfl) (fun _ _ _ h => h) (Or.inl ⟨by rfl, fun w' _ => ?_⟩) trivial ?_; rotate_left; (focus (go_simp <;> (with_reducible rfl))); (try simp only [Act.put, List.setIfInBounds_toArray, List.set_cons_zero, List.set_cons_succ])
            refine wpAnyH_ready (rs := [0, 2]) (by kernel_rfl) (by simp) ?_
            refine AllReadyH.cons rfl (fun K hK => ?_) (AllReadyH.cons rfl (fun K hK => ?_) AllReadyH.nil)
            · go_simp; (try go_wp2_with fail); refine hK.out _ _ trivial (fun _ => ?_); clear hK K; (try simp only [Act.put, List.setIfInBounds_toArray, List.set_cons_zero, List.set_cons_succ])
              refine wpAnyH_ready (rs := [2]) (by kernel_rfl) (by simp) ?_
              refine AllReadyH.cons rfl (fun K hK => ?_) AllReadyH.nil
              · go_simp; (try go_wp2_with fail); refine hK.out _ _ trivial (fun _ => ?_); clear hK K; (try simp only [Act.put, List.setIfInBounds_toArray, List.set_cons_zero, List.set_cons_succ])
                refine wpAnyH_ready (rs := [3]) (by kernel_rfl) (by simp) ?_
                refine AllReadyH.cons rfl (fun K hK => ?_) AllReadyH.nil
                · go_simp; go_at_call 110; (with_reducible refine (HTX.out _ hLd.lj.hb).mono ?_); rintro e w20 ⟨rfl, hb20⟩; have hLt := hLd.below hb20; obtain ⟨ku, fu⟩ := hLt.1.fu; (try go_wp2_with fail); refine hK.out _ _ trivial (fun _ => ?_); clear hK K; (try simp only [Act.put, List.setIfInBounds_toArray, List.set_cons_zero, List.set_cons_succ])
                  refine' wpAnyH_take (i := 4) (v := _) rfl (by kernel_rfl) (by kernel_rfl) (by kernel_rfl) (fun _ _ _ h => h) (Or.inl ⟨by rfl, fun w' _ => ?_⟩) trivial ?_; rotate_left; (focus (go_simp <;> (with_reducible rfl))); (try simp only [Act.put, List.setIfInBounds_toArray, List.set_cons_zero, List.set_cons_succ])
                  refine' wpAnyH_take (i := 5) (v := _) rfl (by kernel_rfl) (by kernel_rfl) (by kernel_rfl) (fun _ _ _ h => h) (Or.inl ⟨by rfl, fun w' _ => ?_⟩) trivial ?_; rotate_left; (focus (go_simp <;> (with_reducible rfl))); (try simp only [Act.put, List.setIfInBounds_toArray, List.set_cons_zero, List.set_cons_succ])
                  refine wpAnyH_ready (rs := [6]) (by kernel_rfl) (by simp) ?_
                  refine AllReadyH.cons rfl (fun K hK => ?_) AllReadyH.nil
                  · go_simp; (try go_wp2_with fail); refine hK.out _ _ trivial (fun _ => ?_); clear hK K; (try simp only [Act.put, List.setIfInBounds_toArray, List.set_cons_zero, List.set_cons_succ])
                    refine wpAnyH_done (by kernel_rfl) (NoPanic.normal ?_) _
                    go_wp2_with fail
                    go_meet
                    rw [if_neg HD.out]
                    exact hLt.setOut _
            · go_simp; (try go_wp2_with fail); refine hK.out _ _ trivial (fun _ => ?_); clear hK K; (try simp only [Act.put, List.setIfInBounds_toArray, List.set_cons_zero, List.set_cons_succ])
              refine wpAnyH_ready (rs := [0, 3]) (by kernel_rfl) (by simp) ?_
              refine AllReadyH.cons rfl (fun K hK => ?_) (AllReadyH.cons rfl (fun K hK => ?_) AllReadyH.nil)
              · go_simp; (try go_wp2_with fail); refine hK.out _ _ trivial (fun _ => ?_); clear hK K; (try simp only [Act.put, List.setIfInBounds_toArray, List.set_cons_zero, List.set_cons_succ])
                refine wpAnyH_ready (rs := [3]) (by kernel_rfl) (by simp) ?_
                refine AllReadyH.cons rfl (fun K hK => ?_) AllReadyH.nil
                · go_simp; go_at_call 110; (with_reducible refine (HTX.out _ hLd.lj.hb).mono ?_); rintro e w20 ⟨rfl, hb20⟩; have hLt := hLd.below hb20; obtain ⟨ku, fu⟩ := hLt.1.fu; (try go_wp2_with fail); refine hK.out _ _ trivial (fun _ => ?_); clear hK K; (try simp only [Act.put, List.setIfInBounds_toArray, List.set_cons_zero, List.set_cons_succ])
                  refine' wpAnyH_take (i := 4) (v := _) rfl (by kernel_rfl) (by kernel_rfl) (by kernel_rfl) (fun _ _ _ h => h) (Or.inl ⟨by rfl, fun w' _ => ?_⟩) trivial ?_; rotate_left; (focus (go_simp <;> (with_reducible rfl))); (try simp only [Act.put, List.setIfInBounds_toArray, List.set_cons_zero, List.set_cons_succ])
                  refine' wpAnyH_take (i := 5) (v := _) rfl (by kernel_rfl) (by kernel_rfl) (by kernel_rfl) (fun _ _ _ h => h) (Or.inl ⟨by rfl, fun w' _ => ?_⟩) trivial ?_; rotate_left; (focus (go_simp <;> (with_reducible rfl))); (try simp only [Act.put, List.setIfInBounds_toArray, List.set_cons_zero, List.set_cons_succ])
                  refine wpAnyH_ready (rs := [6]) (by kernel_rfl) (by simp) ?_
                  refine AllReadyH.cons rfl (fun K hK => ?_) AllReadyH.nil
                  · go_simp; (try go_wp2_with fail); refine hK.out _ _ trivial (fun _ => ?_); clear hK K; (try simp only [Act.put, List.setIfInBounds_toArray, List.set_cons_zero, List.set_cons_succ])
                    refine wpAnyH_done (by kernel_rfl) (NoPanic.normal ?_) _
                    go_wp2_with fail
                    go_meet
                    rw [if_neg HD.out]
                    exact hLt.setOut _
              · go_simp; go_at_call 110; (with_reducible refine (HTX.out _ hLd.lj.hb).mono ?_); rintro e w20 ⟨rfl, hb20⟩; have hLt := hLd.below hb20; obtain ⟨ku, fu⟩ := hLt.1.fu; (try go_wp2_with fail); refine hK.out _ _ trivial (fun _ => ?_); clear hK K; (try simp only [Act.put, List.setIfInBounds_toArray, List.set_cons_zero, List.set_cons_succ])
                refine' wpAnyH_take (i := 4) (v := _) rfl (by kernel_rfl) (by kernel_rfl) (by kernel_rfl) (fun _ _ _ h => h) (Or.inl ⟨by rfl, fun w' _ => ?_⟩) trivial ?_; rotate_left; (focus (go_simp <;> (with_reducible rfl))); (try simp only [Act.put, List.setIfInBounds_toArray, List.set_cons_zero, List.set_cons_succ])
                refine wpAnyH_ready (rs := [0]) (by kernel_rfl) (by simp) ?_
                refine AllReadyH.cons rfl (fun K hK => ?_) AllReadyH.nil
                · go_simp; (try go_wp2_with fail); refine hK.out _ _ trivial (fun _ => ?_); clear hK K; (try simp only [Act.put, List.setIfInBounds_toArray, List.set_cons_zero, List.set_cons_succ])
                  refine' wpAnyH_take (i := 5) (v := _) rfl (by kernel_rfl) (by kernel_rfl) (by kernel_rfl) (fun _ _ _ h => h) (Or.inl ⟨by rfl, fun w' _ => ?_⟩) trivial ?_; rotate_left; (focus (go_simp <;> (with_reducible rfl))); (try simp only [Act.put, List.setIfInBounds_toArray, List.set_cons_zero, List.set_cons_succ])
                  refine wpAnyH_ready (rs := [6]) (by kernel_rfl) (by simp) ?_
                  refine AllReadyH.cons rfl (fun K hK => ?_) AllReadyH.nil
                  · go_simp; (try go_wp2_with fail); refine hK.out _ _ trivial (fun _ => ?_); clear hK K; (try simp only [Act.put, List.setIfInBounds_toArray, List.set_cons_zero, List.set_cons_succ])
                    refine wpAnyH_done (by kernel_rfl) (NoPanic.normal ?_) _
                    go_wp2_with fail
                    go_meet
                    rw [if_neg HD.out]
                    exact hLt.setOut _
          · have HD : Hid (days = allD) := of_decide_eq_true (p := days = allD) HBD.out.symm
            go_wp2_with fail
            go_meet
            rw [if_pos HD.out]
            exact hLB
        case rest =>
          have hL1 := hcut
          clear hcut hLd hLB hLA x0 x1 x2 x3 x4 x5 x6 y5 z5 hd11
          have HDL : Hid (daysL ns ⟨false, ad, tg, yes, no, days, lg⟩ = if days = allD then outF else outF ++ (bOn ++ tx)) := by
            show _ = _
            unfold daysL
            rw [HLL.out, HTXB.out]
          generalize hdo : (if days = allD then outF else outF ++ (bOn ++ tx)) = dO at hL1 HDL
          have hdO : dO.size ≤ 6000000 := by
            rw [← hdo]
            split
            · omega
            · rw [ByteArray.size_append, ByteArray.size_append]
              show outF.size + (4 + tx.size) ≤ _
              omega
          clear hdo
          obtain ⟨⟨x0, x1, x2, x3, x4, x5, x6⟩, -⟩ := cell7 hL1.1.hx
          have HDEC := Lib.hid (fun w' => decimal_any lg.toNat lg w' (by omega) (by omega))
          generalize hdx : (⟨(Lib.decDigits lg.toNat).toArray⟩ : ByteArray) = dx at HDEC
          have hdxs : dx.size ≤ 19 := by rw [← hdx, size_mk]; exact dec_len (by omega)
          have HDX := Lib.hid hdx
          clear hdx
          go_upto_if 103 with fail
          go_cut [] from 17 to 112 (fun wx => LD w t w3.heap.size #[.bool false, .int .i64 ad, .int .i64 tg, .slice p1 q1 z1, .slice p2 q2 z2, .slice p3 q3 z3, .int .i64 lg] okF (if lg = 0 then dO else dO ++ (bFor ++ dx)) (some D) wx)
          case first =>
            have hLd := hL1
            obtain ⟨ku, fu⟩ := hLd.1.fu
            by_cases hg0 : lg = 0
            · have HG0 := Lib.hid hg0
              have hg1 : (lg != 0) = false := by rw [hg0]; rfl
              clear hg0
              go_wp2_with fail
              go_meet
              rw [if_pos HG0.out]
              exact hL1
            · have HG0 := Lib.hid hg0
              have hg1 : (lg != 0) = true := by simpa using hg0
              clear hg0
              have hq1 : ¬ 9223372036854775807 < 5 + dx.size := by omega
              have hq2 : ¬ 9223372036854775807 < dO.size + (5 + dx.size) := by omega
              go_upto_region 23 with fail
              replace hLd := hLd.below (Below.refl _ _).drew
              refine wp_region_noPanic ?_
              refine wp_region_held_drew (S := fun _ => True) (by kernel_rfl) trivial (fun _ => ?_)
              refine' wpAnyH_take (i := 1) (v := _) rfl (by kernel_rfl) (by kernel_rfl) (by kernel_rfl) (fun _ _ _ h => h) (Or.inl ⟨by rfl, fun w' _ => ?_⟩) trivial ?_; rotate_left; (focus (go_simp <;> (with_reducible rfl))); (try simp only [Act.put, List.setIfInBounds_toArray, List.set_cons_zero, List.set_cons_succ])
              refine wpAnyH_ready (rs := [0, 2]) (by kernel_rfl) (by simp) ?_
              refine AllReadyH.cons rfl (fun K hK => ?_) (AllReadyH.cons rfl (fun K hK => ?_) AllReadyH.nil)
              · go_simp; (try go_wp2_with fail); refine hK.out _ _ trivial (fun _ => ?_); clear hK K; (try simp only [Act.put, List.setIfInBounds_toArray, List.set_cons_zero, List.set_cons_succ])
                refine wpAnyH_ready (rs := [2]) (by kernel_rfl) (by simp) ?_
                refine AllReadyH.cons rfl (fun K hK => ?_) AllReadyH.nil
                · go_simp; (try go_wp2_with fail); refine hK.out _ _ trivial (fun _ => ?_); clear hK K; (try simp only [Act.put, List.setIfInBounds_toArray, List.set_cons_zero, List.set_cons_succ])
                  refine wpAnyH_ready (rs := [3]) (by kernel_rfl) (by simp) ?_
                  refine AllReadyH.cons rfl (fun K hK => ?_) AllReadyH.nil
                  · go_simp; go_at_call 133; refine (HDEC.out _).mono ?_; rintro e w20 ⟨rfl, hw⟩; rw [hw]; clear hw; (try go_wp2_with fail); refine hK.out _ _ trivial (fun _ => ?_); clear hK K; (try simp only [Act.put, List.setIfInBounds_toArray, List.set_cons_zero, List.set_cons_succ])
                    refine' wpAnyH_take (i := 4) (v := _) rfl (by kernel_rfl) (by kernel_rfl) (by kernel_rfl) (fun _ _ _ h => h) (Or.inl ⟨by rfl, fun w' _ => ?_⟩) trivial ?_; rotate_left; (focus (go_simp <;> (with_reducible rfl))); (try simp only [Act.put, List.setIfInBounds_toArray, List.set_cons_zero, List.set_cons_succ])
                    refine' wpAnyH_take (i := 5) (v := _) rfl (by kernel_rfl) (by kernel_rfl) (by kernel_rfl) (fun _ _ _ h => h) (Or.inl ⟨by rfl, fun w' _ => ?_⟩) trivial ?_; rotate_left; (focus (go_simp <;> (with_reducible rfl))); (try simp only [Act.put, List.setIfInBounds_toArray, List.set_cons_zero, List.set_cons_succ])
                    refine wpAnyH_ready (rs := [6]) (by kernel_rfl) (by simp) ?_
                    refine AllReadyH.cons rfl (fun K hK => ?_) AllReadyH.nil
                    · go_simp; (try go_wp2_with fail); refine hK.out _ _ trivial (fun _ => ?_); clear hK K; (try simp only [Act.put, List.setIfInBounds_toArray, List.set_cons_zero, List.set_cons_succ])
                      refine wpAnyH_done (by kernel_rfl) (NoPanic.normal ?_) _
                      go_wp2_with fail
                      go_meet
                      rw [if_neg HG0.out]
                      exact hLd.setOut _
              · go_simp; (try go_wp2_with fail); refine hK.out _ _ trivial (fun _ => ?_); clear hK K; (try simp only [Act.put, List.setIfInBounds_toArray, List.set_cons_zero, List.set_cons_succ])
                refine wpAnyH_ready (rs := [0, 3]) (by kernel_rfl) (by simp) ?_
                refine AllReadyH.cons rfl (fun K hK => ?_) (AllReadyH.cons rfl (fun K hK => ?_) AllReadyH.nil)
                · go_simp; (try go_wp2_with fail); refine hK.out _ _ trivial (fun _ => ?_); clear hK K; (try simp only [Act.put, List.setIfInBounds_toArray, List.set_cons_zero, List.set_cons_succ])
                  refine wpAnyH_ready (rs := [3]) (by kernel_rfl) (by simp) ?_
                  refine AllReadyH.cons rfl (fun K hK => ?_) AllReadyH.nil
                  · go_simp; go_at_call 133; refine (HDEC.out _).mono ?_; rintro e w20 ⟨rfl, hw⟩; rw [hw]; clear hw; (try go_wp2_with fail); refine hK.out _ _ trivial (fun _ => ?_); clear hK K; (try simp only [Act.put, List.setIfInBounds_toArray, List.set_cons_zero, List.set_cons_succ])
                    refine' wpAnyH_take (i := 4) (v := _) rfl (by kernel_rfl) (by kernel_rfl) (by kernel_rfl) (fun _ _ _ h => h) (Or.inl ⟨by rfl, fun w' _ => ?_⟩) trivial ?_; rotate_left; (focus (go_simp <;> (with_reducible rfl))); (try simp only [Act.put, List.setIfInBounds_toArray, List.set_cons_zero, List.set_cons_succ])
                    refine' wpAnyH_take (i := 5) (v := _) rfl (by kernel_rfl) (by kernel_rfl) (by kernel_rfl) (fun _ _ _ h => h) (Or.inl ⟨by rfl, fun w' _ => ?_⟩) trivial ?_; rotate_left; (focus (go_simp <;> (with_reducible rfl))); (try simp only [Act.put, List.setIfInBounds_toArray, List.set_cons_zero, List.set_cons_succ])
                    refine wpAnyH_ready (rs := [6]) (by kernel_rfl) (by simp) ?_
                    refine AllReadyH.cons rfl (fun K hK => ?_) AllReadyH.nil
                    · go_simp; (try go_wp2_with fail); refine hK.out _ _ trivial (fun _ => ?_); clear hK K; (try simp only [Act.put, List.setIfInBounds_toArray, List.set_cons_zero, List.set_cons_succ])
                      refine wpAnyH_done (by kernel_rfl) (NoPanic.normal ?_) _
                      go_wp2_with fail
                      go_meet
                      rw [if_neg HG0.out]
                      exact hLd.setOut _
                · go_simp; go_at_call 133; refine (HDEC.out _).mono ?_; rintro e w20 ⟨rfl, hw⟩; rw [hw]; clear hw; (try go_wp2_with fail); refine hK.out _ _ trivial (fun _ => ?_); clear hK K; (try simp only [Act.put, List.setIfInBounds_toArray, List.set_cons_zero, List.set_cons_succ])
                  refine' wpAnyH_take (i := 4) (v := _) rfl (by kernel_rfl) (by kernel_rfl) (by kernel_rfl) (fun _ _ _ h => h) (Or.inl ⟨by rfl, fun w' _ => ?_⟩) trivial ?_; rotate_left; (focus (go_simp <;> (with_reducible rfl))); (try simp only [Act.put, List.setIfInBounds_toArray, List.set_cons_zero, List.set_cons_succ])
                  refine wpAnyH_ready (rs := [0]) (by kernel_rfl) (by simp) ?_
                  refine AllReadyH.cons rfl (fun K hK => ?_) AllReadyH.nil
                  · go_simp; (try go_wp2_with fail); refine hK.out _ _ trivial (fun _ => ?_); clear hK K; (try simp only [Act.put, List.setIfInBounds_toArray, List.set_cons_zero, List.set_cons_succ])
                    refine' wpAnyH_take (i := 5) (v := _) rfl (by kernel_rfl) (by kernel_rfl) (by kernel_rfl) (fun _ _ _ h => h) (Or.inl ⟨by rfl, fun w' _ => ?_⟩) trivial ?_; rotate_left; (focus (go_simp <;> (with_reducible rfl))); (try simp only [Act.put, List.setIfInBounds_toArray, List.set_cons_zero, List.set_cons_succ])
                    refine wpAnyH_ready (rs := [6]) (by kernel_rfl) (by simp) ?_
                    refine AllReadyH.cons rfl (fun K hK => ?_) AllReadyH.nil
                    · go_simp; (try go_wp2_with fail); refine hK.out _ _ trivial (fun _ => ?_); clear hK K; (try simp only [Act.put, List.setIfInBounds_toArray, List.set_cons_zero, List.set_cons_succ])
                      refine wpAnyH_done (by kernel_rfl) (NoPanic.normal ?_) _
                      go_wp2_with fail
                      go_meet
                      rw [if_neg HG0.out]
                      exact hLd.setOut _
          case rest =>
            have hL2 := hcut
            clear hcut hL1 x0 x1 x2 x3 x4 x5 x6
            have HLO : Hid (longL ns ⟨false, ad, tg, yes, no, days, lg⟩ = if lg = 0 then dO else dO ++ (bFor ++ dx)) := by
              show _ = _
              unfold longL
              rw [HDL.out, HDX.out]
              by_cases h : lg = 0
              · rw [if_pos h]; simp [h]
              · rw [if_neg h]; simp [h]
            generalize hlo : (if lg = 0 then dO else dO ++ (bFor ++ dx)) = lO at hL2 HLO
            have hlO : lO.size ≤ 7000000 := by
              rw [← hlo]
              split
              · omega
              · rw [ByteArray.size_append, ByteArray.size_append]
                show dO.size + (5 + dx.size) ≤ _
                omega
            clear hlo
            have hLd := hL2.below (Below.refl _ _).drew
            obtain ⟨ku, fu⟩ := hL2.1.fu
            obtain ⟨ko, fo⟩ := hL2.1.fo
            have hq3 : ¬ 9223372036854775807 < lO.size + 2 := by omega
            go_upto_region 24 with fail
            refine wp_region_noPanic ?_
            refine region_ord (S := fun w' => w'.cell? ⟨w3.heap.size + 1, 0, none⟩ = some (.string lO) ∧ w'.cell? ⟨w3.heap.size, 0, none⟩ = some (.bool okF)) [0, 1, 2, 3, 4] (by kernel_rfl) (by decide +kernel) (fun _ _ _ _ _ h => h) (⟨ku, ko⟩) (fun _ => ?_)
            repeat (first
              | (refine ord_skip rfl rfl rfl ?_; (try simp only [Act.put, List.setIfInBounds_toArray, List.set_cons_zero, List.set_cons_succ]))
              | (refine' ord_light (v := _) rfl rfl rfl (fun w' hSw => ?_) ?_; rotate_left; (focus ((try dsimp only at hSw); go_simp <;> (with_reducible rfl))); (try simp only [Act.put, List.setIfInBounds_toArray, List.set_cons_zero, List.set_cons_succ]))
              | (refine ord_heavy rfl rfl (fun K hK => ?_); go_simp; (try go_wp2_with fail); refine hK.out _ _ (⟨ku, ko⟩) ?_; clear hK K; (try simp only [Act.put, List.setIfInBounds_toArray, List.set_cons_zero, List.set_cons_succ])))
            refine ord_nil (NoPanic.normal ?_)
            go_wp2_with fail
            have hDk := (hLd.2 D rfl).2
            have hJk := hLd.lj.hk
            refine ⟨by simp, .inl ⟨_, _, rfl, run_takeDeferred (hLd.2 D rfl).1, ?_⟩⟩
            refine ⟨.tuple #[.string (lO ++ ⟨#[59, 10]⟩), .bool okF], by simp [results, Tryz.results55, go_sem], ret_sb (congrArg (· ++ bEnd) HLO.out.symm) (by show okF = (litsL ns _).1; rw [HLL.out]), hLd.lj.hb.trans ⟨rfl, rfl, rfl, by simp [World.putObj], fun k hk => World.putObj_heap_other (by omega)⟩⟩
theorem line_t {N : Nat} (ad tg : Int) (p1 : Option Addr) (q1 z1 : Nat) (p2 : Option Addr) (q2 z2 : Nat) (p3 : Option Addr) (q3 z3 : Nat) (lg : Int) (yes no : List Nat) (days : List (Int × Int)) (t : Nat) (ns : List ByteArray) (w : World) (h3 : Bq N w p1 q1 z1 yes) (h4 : Bq N w p2 q2 z2 no) (h5 : Dy.Dn N w p3 q3 z3 days) (h7 : Dy.Can days) (hT : Tb w t ns) (hl : ns.length ≤ 1000) (hs : ∀ s ∈ ns, s.size ≤ 1000) (hlg : 0 ≤ lg ∧ lg < 9223372036854775808) (hTz : Tz w) (hP : Dy.Pow10 w) :
    Calls Tryz.prog 55 #[.agg #[.bool true, .int .i64 ad, .int .i64 tg, .slice p1 q1 z1, .slice p2 q2 z2, .slice p3 q3 z3, .int .i64 lg], .pointer (some ⟨t, 0, none⟩)] w (LnP w ns ⟨true, ad, tg, yes, no, days, lg⟩) := by
  have HNM := Lib.hid (fun w' n (hb : Below w.heap.size w w') => tname_any t ns n w' (hT.below hb) hl)
  have hb0 := Lib.hid (((Below.refl w.heap.size w).alloc (Nat.le_refl _) (.cells #[.bool true, .int .i64 ad, .int .i64 tg, .slice p1 q1 z1, .slice p2 q2 z2, .slice p3 q3 z3, .int .i64 lg] 46)).alloc (by simp) (.cells #[.pointer (some ⟨t, 0, none⟩)] 48))
  have hs1 := nm_size ns tg hs
  have hs2 := nm_size ns ad hs
  have HOK : Hid (okL ns ⟨true, ad, tg, yes, no, days, lg⟩ = (nmB ns tg && nmB ns ad)) := rfl
  have HHD : Hid (headL ns ⟨true, ad, tg, yes, no, days, lg⟩ = ((bRevoke ++ nmS ns tg) ++ bBy) ++ nmS ns ad) := rfl
  go_enter Tryz.func55, Tryz.ntmps55
  go_upto_region 3 with (first
    | (go_at_call 131; (with_reducible refine (HNM.out _ _ hb0.out).mono ?_); rintro en w2 ⟨rfl, hb2⟩; obtain ⟨⟨-, c21, -, -, -, -, -⟩, y2, hB2⟩ := box71 (hb2.mono (by simp)))
    | (go_at_call 131; (with_reducible refine (HNM.out _ _ hB2).mono ?_); rintro en w3 ⟨rfl, hb3⟩; have hd3 := hb2.trans (hb3.mono hb2.size)))
  go_cut [7, 10] (fun s7 s10 wx => s7 = .bool (nmB ns tg) ∧ s10 = .pointer (some ⟨w3.heap.size, 0, none⟩) ∧ wx = w3.alloc (.cells #[.bool (nmB ns tg && nmB ns ad)] 4))
  case first =>
    cases hb : nmB ns tg
    all_goals
      go_wp2_with fail
      go_meet
      exact ⟨by rw [hb], rfl, by rw [hb]; rfl⟩
  case rest =>
    obtain ⟨rfl, rfl, rfl⟩ := hcut
    rw [← HOK.out]
    generalize hokl : okL ns ⟨true, ad, tg, yes, no, days, lg⟩ = ok0 at *
    have HOKL := Lib.hid hokl
    clear hokl
    generalize hn1 : nmS ns tg = n1 at *
    generalize hn2 : nmS ns ad = n2 at *
    have HN1 := Lib.hid hn1
    have HN2 := Lib.hid hn2
    clear hn1 hn2
    have hz3 : w.heap.size + 2 ≤ w3.heap.size := by have h := hd3.size; simp only [World.size_alloc] at h; omega
    replace hd3 := hd3.mono (show w.heap.size + 2 ≤ _ by simp)
    have hd4 := hd3.alloc hz3 (.cells #[.bool ok0] 4)
    obtain ⟨⟨x0, x1, x2, x3, x4, x5, x6⟩, y4, hB4⟩ := box71 hd4
    have hk4 := new1 w3 (.bool ok0) 4
    go_upto_region 8 with fail
    obtain ⟨o0, ho0⟩ : ∃ o, o = ((bRevoke ++ n1) ++ bBy) ++ n2 := ⟨_, rfl⟩
    have hos : o0.size ≤ 3000 := by
      rw [ho0, ByteArray.size_append, ByteArray.size_append, ByteArray.size_append]
      show 7 + n1.size + 4 + n2.size ≤ 3000
      omega
    rw [show (⟨#[114, 101, 118, 111, 107, 101, 32]⟩ : ByteArray) ++ n1 ++ ⟨#[32, 98, 121, 32]⟩ ++ n2 = o0 from ho0.symm]
    have HO0 := Lib.hid (HHD.out.trans ho0.symm)
    clear ho0 HHD
    obtain ⟨W5, hW5⟩ : ∃ W5, W5 = (w3.alloc (.cells #[.bool ok0] 4)).alloc (.cells #[.string o0] 9) := ⟨_, rfl⟩
    have hz5 : W5.heap.size = w3.heap.size + 2 := by rw [hW5]; simp
    have hJ5 : LJ w t w3.heap.size #[.bool true, .int .i64 ad, .int .i64 tg, .slice p1 q1 z1, .slice p2 q2 z2, .slice p3 q3 z3, .int .i64 lg] ok0 o0 W5 := by
      rw [hW5]
      exact lj_mk hd3 hz3
    rw [← hW5]
    clear hW5 x0 x1 x2 x3 x4 x5 x6 y4 hk4 hd4 hd3 hb2 hb3
    obtain ⟨⟨x0, x1, x2, x3, x4, x5, x6⟩, -⟩ := cell7 hJ5.hx
    have HLL : Hid (litsL ns ⟨true, ad, tg, yes, no, days, lg⟩ = (ok0, o0)) := by
      show _ = _
      unfold litsL
      dsimp only
      rw [HOKL.out, HO0.out]
    have hoF : o0.size ≤ 5000000 := by omega
    have hL0 : LD w t w3.heap.size #[.bool true, .int .i64 ad, .int .i64 tg, .slice p1 q1 z1, .slice p2 q2 z2, .slice p3 q3 z3, .int .i64 lg] ok0 o0 none W5 := ⟨hJ5, fun d e => by cases e⟩
    generalize ok0 = okF at *
    generalize o0 = outF at *
    clear hJ5 x0 x1 x2 x3 x4 x5 x6
    obtain ⟨⟨x0, x1, x2, x3, x4, x5, x6⟩, -⟩ := cell7 hL0.1.hx
    have HTX := Lib.hid (fun w' (hb : Below w.heap.size w w') => Dy.text_any p3 q3 z3 days w' (h5.1.below hb (Nat.le_refl _)) h7 (hP.below hb))
    go_upto_region 20 with fail
    have hLd := hL0.below (Below.refl _ _).drew
    refine wp_region_noPanic ?_
    refine region_ord (S := fun w' => w'.cell? ⟨w.heap.size, 5, none⟩ = some (.slice p3 q3 z3)) [0, 1, 2, 3, 4] (by kernel_rfl) (by decide +kernel) (fun _ _ _ _ _ h => h) (x5) (fun _ => ?_)
    repeat (first
      | (refine ord_skip rfl rfl rfl ?_; (try simp only [Act.put, List.setIfInBounds_toArray, List.set_cons_zero, List.set_cons_succ]))
      | (refine' ord_light (v := _) rfl rfl rfl (fun w' hSw => ?_) ?_; rotate_left; (focus ((try dsimp only at hSw); go_simp <;> (with_reducible rfl))); (try simp only [Act.put, List.setIfInBounds_toArray, List.set_cons_zero, List.set_cons_succ]))
      | (refine ord_heavy rfl rfl (fun K hK => ?_); go_simp; (go_at_call 132; refine (Dy.all_anyF _).mono ?_; rintro en w11 ⟨a11, n11, c11, rfl, hd11, hb11⟩; have hLA := hLd.below hb11; have y5 := (cell7 hLA.1.hx).1.2.2.2.2.2.1); (try go_wp2_with fail); refine hK.out _ _ (by first | exact x5 | exact y5 | exact z5) ?_; clear hK K; (try simp only [Act.put, List.setIfInBounds_toArray, List.set_cons_zero, List.set_cons_succ]))
      | (refine ord_heavy rfl rfl (fun K hK => ?_); go_simp; (go_at_call 87; refine (Dy.setEqual_any _ _ _ _ _ _ days allD _ (h5.1.below hLA.1.hb (Nat.le_refl _)) hd11.1).mono ?_; rintro en w12 ⟨rfl, hb12⟩; have hLB := hLA.below hb12; have z5 := (cell7 hLB.1.hx).1.2.2.2.2.2.1); (try go_wp2_with fail); refine hK.out _ _ (by first | exact x5 | exact y5 | exact z5) ?_; clear hK K; (try simp only [Act.put, List.setIfInBounds_toArray, List.set_cons_zero, List.set_cons_succ]))
      | (refine ord_heavy rfl rfl (fun K hK => ?_); go_simp; (try go_wp2_with fail); refine hK.out _ _ (by first | exact x5 | exact y5 | exact z5) ?_; clear hK K; (try simp only [Act.put, List.setIfInBounds_toArray, List.set_cons_zero, List.set_cons_succ])))
    refine ord_nil (NoPanic.normal ?_)
    go_upto_if 89 with fail
    obtain ⟨bd, hbd⟩ : ∃ b, b = decide (days = allD) := ⟨_, rfl⟩
    rw [← hbd]
    have HBD := Lib.hid hbd
    clear hbd
    generalize hTXb : (⟨(Dy.textL days).toArray⟩ : ByteArray) = tx at HTX
    have htx : tx.size ≤ 400000 := by rw [← hTXb]; exact text_size h7
    have HTXB := Lib.hid hTXb
    clear hTXb
    go_cut [] (fun wx => LD w t w3.heap.size #[.bool true, .int .i64 ad, .int .i64 tg, .slice p1 q1 z1, .slice p2 q2 z2, .slice p3 q3 z3, .int .i64 lg] okF (if days = allD then outF else outF ++ (bOn ++ tx)) none wx)
    case first =>
      cases bd
      · have HD : Hid (¬ days = allD) := of_decide_eq_false (p := days = allD) HBD.out.symm
        have hq1 : ¬ 9223372036854775807 < 4 + tx.size := by omega
        have hq2 : ¬ 9223372036854775807 < outF.size + (4 + tx.size) := by omega
        have hq3 : ¬ 9223372036854775807 < outF.size + 4 + tx.size := by omega
        clear x0 x1 x2 x3 x4 x5 x6
        replace hLd := hLB
        obtain ⟨⟨x0, x1, x2, x3, x4, x5, x6⟩, -⟩ := cell7 hLd.1.hx
        obtain ⟨ku, fu⟩ := hLd.1.fu
        go_upto_region 21 with fail
        replace hLd := hLd.below (Below.refl _ _).drew
        refine wp_region_noPanic ?_
        refine wp_region_held_drew (S := fun _ => True) (by kernel_rfl) trivial (fun _ => ?_)
        refine' wpAnyH_take (i := 1) (v := _) rfl (by kernel_rfl) (by kernel_rfl) (by kernel_rfl) (fun _ _ _ h => h) (Or.inl ⟨by rfl, fun w' _ => ?_⟩) trivial ?_; rotate_left; (focus (go_simp <;> (with_reducible rfl))); (try simp only [Act.put, List.setIfInBounds_toArray, List.set_cons_zero, List.set_cons_succ])
        refine wpAnyH_ready (rs := [0, 2]) (by kernel_rfl) (by simp) ?_
        refine AllReadyH.cons rfl (fun K hK => ?_) (AllReadyH.cons rfl (fun K hK => ?_) AllReadyH.nil)
        · go_simp; (try go_wp2_with fail); refine hK.out _ _ trivial (fun _ => ?_); clear hK K; (try simp only [Act.put, List.setIfInBounds_toArray, List.set_cons_zero, List.set_cons_succ])
          refine wpAnyH_ready (rs := [2]) (by kernel_rfl) (by simp) ?_
          refine AllReadyH.cons rfl (fun K hK => ?_) AllReadyH.nil
          · go_simp; (try go_wp2_with fail); refine hK.out _ _ trivial (fun _ => ?_); clear hK K; (try simp only [Act.put, List.setIfInBounds_toArray, List.set_cons_zero, List.set_cons_succ])
            refine wpAnyH_ready (rs := [3]) (by kernel_rfl) (by simp) ?_
            refine AllReadyH.cons rfl (fun K hK => ?_) AllReadyH.nil
            · go_simp; go_at_call 110; (with_reducible refine (HTX.out _ hLd.lj.hb).mono ?_); rintro e w20 ⟨rfl, hb20⟩; have hLt := hLd.below hb20; obtain ⟨ku, fu⟩ := hLt.1.fu; (try go_wp2_with fail); refine hK.out _ _ trivial (fun _ => ?_); clear hK K; (try simp only [Act.put, List.setIfInBounds_toArray, List.set_cons_zero, List.set_cons_succ])
              refine' wpAnyH_take (i := 4) (v := _) rfl (by kernel_rfl) (by kernel_rfl) (by kernel_rfl) (fun _ _ _ h => h) (Or.inl ⟨by rfl, fun w' _ => ?_⟩) trivial ?_; rotate_left; (focus (go_simp <;> (with_reducible rfl))); (try simp only [Act.put, List.setIfInBounds_toArray, List.set_cons_zero, List.set_cons_succ])
              refine' wpAnyH_take (i := 5) (v := _) rfl (by kernel_rfl) (by kernel_rfl) (by kernel_rfl) (fun _ _ _ h => h) (Or.inl ⟨by rfl, fun w' _ => ?_⟩) trivial ?_; rotate_left; (focus (go_simp <;> (with_reducible rfl))); (try simp only [Act.put, List.setIfInBounds_toArray, List.set_cons_zero, List.set_cons_succ])
              refine wpAnyH_ready (rs := [6]) (by kernel_rfl) (by simp) ?_
              refine AllReadyH.cons rfl (fun K hK => ?_) AllReadyH.nil
              · go_simp; (try go_wp2_with fail); refine hK.out _ _ trivial (fun _ => ?_); clear hK K; (try simp only [Act.put, List.setIfInBounds_toArray, List.set_cons_zero, List.set_cons_succ])
                refine wpAnyH_done (by kernel_rfl) (NoPanic.normal ?_) _
                go_wp2_with fail
                go_meet
                rw [if_neg HD.out]
                exact hLt.setOut _
        · go_simp; (try go_wp2_with fail); refine hK.out _ _ trivial (fun _ => ?_); clear hK K; (try simp only [Act.put, List.setIfInBounds_toArray, List.set_cons_zero, List.set_cons_succ])
          refine wpAnyH_ready (rs := [0, 3]) (by kernel_rfl) (by simp) ?_
          refine AllReadyH.cons rfl (fun K hK => ?_) (AllReadyH.cons rfl (fun K hK => ?_) AllReadyH.nil)
          · go_simp; (try go_wp2_with fail); refine hK.out _ _ trivial (fun _ => ?_); clear hK K; (try simp only [Act.put, List.setIfInBounds_toArray, List.set_cons_zero, List.set_cons_succ])
            refine wpAnyH_ready (rs := [3]) (by kernel_rfl) (by simp) ?_
            refine AllReadyH.cons rfl (fun K hK => ?_) AllReadyH.nil
            · go_simp; go_at_call 110; (with_reducible refine (HTX.out _ hLd.lj.hb).mono ?_); rintro e w20 ⟨rfl, hb20⟩; have hLt := hLd.below hb20; obtain ⟨ku, fu⟩ := hLt.1.fu; (try go_wp2_with fail); refine hK.out _ _ trivial (fun _ => ?_); clear hK K; (try simp only [Act.put, List.setIfInBounds_toArray, List.set_cons_zero, List.set_cons_succ])
              refine' wpAnyH_take (i := 4) (v := _) rfl (by kernel_rfl) (by kernel_rfl) (by kernel_rfl) (fun _ _ _ h => h) (Or.inl ⟨by rfl, fun w' _ => ?_⟩) trivial ?_; rotate_left; (focus (go_simp <;> (with_reducible rfl))); (try simp only [Act.put, List.setIfInBounds_toArray, List.set_cons_zero, List.set_cons_succ])
              refine' wpAnyH_take (i := 5) (v := _) rfl (by kernel_rfl) (by kernel_rfl) (by kernel_rfl) (fun _ _ _ h => h) (Or.inl ⟨by rfl, fun w' _ => ?_⟩) trivial ?_; rotate_left; (focus (go_simp <;> (with_reducible rfl))); (try simp only [Act.put, List.setIfInBounds_toArray, List.set_cons_zero, List.set_cons_succ])
              refine wpAnyH_ready (rs := [6]) (by kernel_rfl) (by simp) ?_
              refine AllReadyH.cons rfl (fun K hK => ?_) AllReadyH.nil
              · go_simp; (try go_wp2_with fail); refine hK.out _ _ trivial (fun _ => ?_); clear hK K; (try simp only [Act.put, List.setIfInBounds_toArray, List.set_cons_zero, List.set_cons_succ])
                refine wpAnyH_done (by kernel_rfl) (NoPanic.normal ?_) _
                go_wp2_with fail
                go_meet
                rw [if_neg HD.out]
                exact hLt.setOut _
          · go_simp; go_at_call 110; (with_reducible refine (HTX.out _ hLd.lj.hb).mono ?_); rintro e w20 ⟨rfl, hb20⟩; have hLt := hLd.below hb20; obtain ⟨ku, fu⟩ := hLt.1.fu; (try go_wp2_with fail); refine hK.out _ _ trivial (fun _ => ?_); clear hK K; (try simp only [Act.put, List.setIfInBounds_toArray, List.set_cons_zero, List.set_cons_succ])
            refine' wpAnyH_take (i := 4) (v := _) rfl (by kernel_rfl) (by kernel_rfl) (by kernel_rfl) (fun _ _ _ h => h) (Or.inl ⟨by rfl, fun w' _ => ?_⟩) trivial ?_; rotate_left; (focus (go_simp <;> (with_reducible rfl))); (try simp only [Act.put, List.setIfInBounds_toArray, List.set_cons_zero, List.set_cons_succ])
            refine wpAnyH_ready (rs := [0]) (by kernel_rfl) (by simp) ?_
            refine AllReadyH.cons rfl (fun K hK => ?_) AllReadyH.nil
            · go_simp; (try go_wp2_with fail); refine hK.out _ _ trivial (fun _ => ?_); clear hK K; (try simp only [Act.put, List.setIfInBounds_toArray, List.set_cons_zero, List.set_cons_succ])
              refine' wpAnyH_take (i := 5) (v := _) rfl (by kernel_rfl) (by kernel_rfl) (by kernel_rfl) (fun _ _ _ h => h) (Or.inl ⟨by rfl, fun w' _ => ?_⟩) trivial ?_; rotate_left; (focus (go_simp <;> (with_reducible rfl))); (try simp only [Act.put, List.setIfInBounds_toArray, List.set_cons_zero, List.set_cons_succ])
              refine wpAnyH_ready (rs := [6]) (by kernel_rfl) (by simp) ?_
              refine AllReadyH.cons rfl (fun K hK => ?_) AllReadyH.nil
              · go_simp; (try go_wp2_with fail); refine hK.out _ _ trivial (fun _ => ?_); clear hK K; (try simp only [Act.put, List.setIfInBounds_toArray, List.set_cons_zero, List.set_cons_succ])
                refine wpAnyH_done (by kernel_rfl) (NoPanic.normal ?_) _
                go_wp2_with fail
                go_meet
                rw [if_neg HD.out]
                exact hLt.setOut _
      · have HD : Hid (days = allD) := of_decide_eq_true (p := days = allD) HBD.out.symm
        go_wp2_with fail
        go_meet
        rw [if_pos HD.out]
        exact hLB
    case rest =>
      have hL1 := hcut
      clear hcut hLd hLB hLA x0 x1 x2 x3 x4 x5 x6 y5 z5 hd11
      have HDL : Hid (daysL ns ⟨true, ad, tg, yes, no, days, lg⟩ = if days = allD then outF else outF ++ (bOn ++ tx)) := by
        show _ = _
        unfold daysL
        rw [HLL.out, HTXB.out]
      generalize hdo : (if days = allD then outF else outF ++ (bOn ++ tx)) = dO at hL1 HDL
      have hdO : dO.size ≤ 6000000 := by
        rw [← hdo]
        split
        · omega
        · rw [ByteArray.size_append, ByteArray.size_append]
          show outF.size + (4 + tx.size) ≤ _
          omega
      clear hdo
      obtain ⟨⟨x0, x1, x2, x3, x4, x5, x6⟩, -⟩ := cell7 hL1.1.hx
      have hL2 := hL1
      clear hL1
      have HLO : Hid (longL ns ⟨true, ad, tg, yes, no, days, lg⟩ = dO) := by
        show _ = _
        unfold longL
        rw [HDL.out]; rfl
      generalize dO = lO at *
      have hlO : lO.size ≤ 7000000 := by omega
      have hLd := hL2.below (Below.refl _ _).drew
      obtain ⟨ku, fu⟩ := hL2.1.fu
      obtain ⟨ko, fo⟩ := hL2.1.fo
      have hq3 : ¬ 9223372036854775807 < lO.size + 2 := by omega
      go_upto_region 24 with fail
      refine wp_region_noPanic ?_
      refine region_ord (S := fun w' => w'.cell? ⟨w3.heap.size + 1, 0, none⟩ = some (.string lO) ∧ w'.cell? ⟨w3.heap.size, 0, none⟩ = some (.bool okF)) [0, 1, 2, 3, 4] (by kernel_rfl) (by decide +kernel) (fun _ _ _ _ _ h => h) (⟨ku, ko⟩) (fun _ => ?_)
      repeat (first
        | (refine ord_skip rfl rfl rfl ?_; (try simp only [Act.put, List.setIfInBounds_toArray, List.set_cons_zero, List.set_cons_succ]))
        | (refine' ord_light (v := _) rfl rfl rfl (fun w' hSw => ?_) ?_; rotate_left; (focus ((try dsimp only at hSw); go_simp <;> (with_reducible rfl))); (try simp only [Act.put, List.setIfInBounds_toArray, List.set_cons_zero, List.set_cons_succ]))
        | (refine ord_heavy rfl rfl (fun K hK => ?_); go_simp; (try go_wp2_with fail); refine hK.out _ _ (⟨ku, ko⟩) ?_; clear hK K; (try simp only [Act.put, List.setIfInBounds_toArray, List.set_cons_zero, List.set_cons_succ])))
      refine ord_nil (NoPanic.normal ?_)
      go_wp2_with fail
      go_returns
      exact ⟨ret_sb (congrArg (· ++ bEnd) HLO.out.symm) (by show okF = (litsL ns _).1; rw [HLL.out]), hLd.lj.hb⟩
theorem line_any {N : Nat} (h : Hr) (r : Rl) (t : Nat) (ns : List ByteArray) (w : World) (hr : Rw N w h r) (hT : Tb w t ns) (hl : ns.length ≤ 1000) (hs : ∀ s ∈ ns, s.size ≤ 1000) (hlg : 0 ≤ r.longest ∧ r.longest < 9223372036854775808) (hTz : Tz w) (hP : Dy.Pow10 w) :
    Calls Tryz.prog 55 #[.agg (hrL h).toArray, .pointer (some ⟨t, 0, none⟩)] w (LnP w ns r) := by
  obtain ⟨rv, ad, tg, p1, q1, z1, p2, q2, z2, p3, q3, z3, lg⟩ := h
  obtain ⟨rv', ad', tg', yes, no, days, lg'⟩ := r
  obtain ⟨h0, h1, h2, h3, h4, h5, h6, h7⟩ := hr
  dsimp only at h0 h1 h2 h3 h4 h5 h6 h7 hlg
  subst h0 h1 h2 h6
  cases rv
  · exact line_f ad tg p1 q1 z1 p2 q2 z2 p3 q3 z3 lg yes no days t ns w h3 h4 h5 h7 hT hl hs hlg hTz hP
  · exact line_t ad tg p1 q1 z1 p2 q2 z2 p3 q3 z3 lg yes no days t ns w h3 h4 h5 h7 hT hl hs hlg hTz hP
end Go.Proofs.YtfjpbkmnlmecgaaGreatDoor.Ru
end

section
/- rule.Print. -/
namespace Go.Proofs.YtfjpbkmnlmecgaaGreatDoor.Ru
open Go.RowKit Go.PlainAid Go.Maps Go.Shelf Go.Proofs.YtfjpbkmnlmecgaaGreatDoor Go.Proofs.YtfjpbkmnlmecgaaGreatDoor.Bz
set_option linter.unusedVariables false
set_option linter.unusedSimpArgs false
set_option maxHeartbeats 4000000
set_option maxRecDepth 20000

theorem fold_size (ns : List ByteArray) (no : List Nat) (hs : ∀ s ∈ ns, s.size ≤ 1000) : ∀ (l : List Nat) (st : Bool × ByteArray × ByteArray), st.2.2.size ≤ 5 → (l.foldl (stepL ns no) st).2.1.size ≤ st.2.1.size + 1100 * l.length
  | [], st, _ => by simp
  | x :: l, st, h => by
    rw [List.foldl_cons]
    have h1 := fold_size ns no hs l (stepL ns no st x) (by show (5 : Nat) ≤ 5; omega)
    have h2 : (stepL ns no st x).2.1.size ≤ st.2.1.size + 1100 := by
      have hn := nm_size ns (x : Int) hs
      unfold stepL
      dsimp only
      split
      · rw [ByteArray.size_append, ByteArray.size_append, ByteArray.size_append]
        show st.2.1.size + st.2.2.size + 4 + _ ≤ _
        omega
      · rw [ByteArray.size_append, ByteArray.size_append]
        omega
    rw [List.length_cons]
    omega
theorem line_size (ns : List ByteArray) (r : Rl) (hs : ∀ s ∈ ns, s.size ≤ 1000) (hc : Dy.Can r.days) (hl : (0 ≤ r.longest ∧ r.longest < 9223372036854775808)) : (lineP ns r).1.size ≤ 8000000 := by
  have h1 := nm_size ns r.target hs
  have h2 := nm_size ns r.admin hs
  have hh : (headL ns r).size ≤ 3000 := by
    unfold headL
    rw [ByteArray.size_append, ByteArray.size_append, ByteArray.size_append]
    have : (if r.revoke = true then bRevoke else bAssign).size = 7 := by split <;> rfl
    rw [this]
    show 7 + _ + 4 + _ ≤ _
    omega
  have hb : (litsL ns r).2.size ≤ 5000000 := by
    unfold litsL
    cases r.revoke
    · dsimp only
      have := fold_size ns r.no hs (orL r.yes r.no) (okL ns r && !emptyC (r.yes, r.no), headL ns r, bIf) (by show (4 : Nat) ≤ 5; omega)
      have h4 : (orL r.yes r.no).length ≤ 4096 := by unfold orL; exact Nat.le_trans (List.length_filter_le ..) (by simp)
      dsimp only at this
      omega
    · dsimp only
      omega
  have hd : (daysL ns r).size ≤ 6000000 := by
    have ht := text_size hc
    unfold daysL
    split
    · omega
    · rw [ByteArray.size_append, ByteArray.size_append]
      show _ + (4 + _) ≤ _
      omega
  have hg : (longL ns r).size ≤ 7000000 := by
    have hd2 := dec_len (n := r.longest.toNat) (by omega)
    unfold longL
    split
    · rw [ByteArray.size_append, ByteArray.size_append, size_mk (Lib.decDigits _)]
      show _ + (5 + _) ≤ _
      omega
    · omega
  show (longL ns r ++ bEnd).size ≤ _
  rw [ByteArray.size_append]
  show _ + 2 ≤ _
  omega
theorem bAt_kept {B b : Nat} {p : Value} {l : List Value} {w w' : World} {row : Option Nat} (h : Lib.BuilderAt 116 5 B b p l w) (hg : w.grownBy w' row) (hr : ∀ r, row = some r → ∃ o : Obj, w.heap[r]? = some o ∧ o.isCells = false) : Lib.BuilderAt 116 5 B b p l w' := by
  obtain ⟨hB, v, hbk, hown, hne⟩ := h
  have hlt : b < w.heap.size := (Array.getElem?_eq_some_iff.1 hbk).1
  refine ⟨hB, v, (hg.block b hlt (fun e => ?_)).trans hbk, hown.kept hg ?_, hne⟩
  · obtain ⟨o, ho, hc⟩ := hr b e.symm
    rw [hbk] at ho; cases ho; cases hc
  · cases hv : v.ownBlock with
    | none => exact .inl rfl
    | some g =>
      refine .inr fun e => ?_
      obtain ⟨o, ho, hc⟩ := hr g e.symm
      have := row_cells hown g o hv ho
      rw [hc] at this; cases this
theorem isB_kept {B b : Nat} {l : List Value} {w w' : World} {row : Option Nat} (h : IsB w B b l) (hg : w.grownBy w' row) (hr : ∀ r, row = some r → ∃ o : Obj, w.heap[r]? = some o ∧ o.isCells = false) : IsB w' B b l :=
  h.elim (fun x => .inl (bAt_kept x hg hr)) (fun x => .inr (bAt_kept x hg hr))
theorem isB_below {B b : Nat} {l : List Value} {w w' : World} (h : IsB w B b l) (hb : Below w.heap.size w w') : IsB w' B b l :=
  isB_kept h (row := none) ⟨hb.os, hb.tape, hb.output, hb.size, fun j hj _ => hb.block j hj⟩ (fun r e => by cases e)
/-- The text of rules, as long as each has a line. -/
def flatL (ns : List ByteArray) (l : List Rl) : List UInt8 := l.flatMap fun r => (lineP ns r).1.data.toList
def okAll (ns : List ByteArray) (l : List Rl) : Bool := l.all fun r => (lineP ns r).2
def printP (ns : List ByteArray) (l : List Rl) : List UInt8 := if okAll ns l then flatL ns l else []
theorem flat_size (ns : List ByteArray) (l : List Rl) (h : ∀ r ∈ l, (lineP ns r).1.size ≤ 8000000) : (flatL ns l).length ≤ 8000000 * l.length := by
  induction l with
  | nil => simp [flatL]
  | cons r l ih =>
    have h1 := h r (by simp)
    have h2 := ih (fun q hq => h q (by simp [hq]))
    unfold flatL at h2 ⊢
    rw [List.flatMap_cons, List.length_append, List.length_cons]
    have : (lineP ns r).1.data.toList.length = (lineP ns r).1.size := Array.length_toList
    omega
theorem Rs.at {N : Nat} {w : World} {a : Option Addr} {n cap j : Nat} {l : List Rl} {r : Rl} (h : Rs N w a n cap l) (hr : l[j]? = some r) : ∃ b o hj, a = some ⟨b, o, none⟩ ∧ b < w.heap.size ∧ Rw N w hj r ∧ (∀ c v, (hrL hj)[c]? = some v → w.cell? ⟨b, o + j * 7 + c, none⟩ = some v) := by
  obtain ⟨hs, h1, h2⟩ := h
  have hj : j < hs.length := by rw [h2.1]; exact (List.getElem?_eq_some_iff.1 hr).1
  obtain ⟨b, o, ha, hb, hc⟩ := h1.at (List.getElem?_eq_getElem hj)
  exact ⟨b, o, hs[j], ha, hb, h2.2 j _ _ (List.getElem?_eq_getElem hj) hr, fun c v hv => by rw [Nat.add_assoc]; exact hc c v hv⟩
theorem print_nil (a : Option Addr) (n c : Nat) (w : World) :
    Calls Tryz.prog 17 #[.slice a n c, .pointer none] w fun e w' => e = .returned (.string ⟨#[]⟩) ∧ Below w.heap.size w w' := by
  go_enter Tryz.func17, Tryz.ntmps17
  go_wp2_with fail
  go_ret
  exact ⟨rfl, Below.refl _ _⟩
theorem print_any {N : Nat} (a : Option Addr) (n c t : Nat) (l : List Rl) (ns : List ByteArray) (w : World) (hR : Rs N w a n c l) (hT : Tb w t ns) (hl : ns.length ≤ 1000) (hs : ∀ s ∈ ns, s.size ≤ 1000) (hlg : ∀ r ∈ l, 0 ≤ r.longest ∧ r.longest < 9223372036854775808) (hTz : Tz w) (hP : Dy.Pow10 w) (hn : l.length ≤ 1000000) :
    Calls Tryz.prog 17 #[.slice a n c, .pointer (some ⟨t, 0, none⟩)] w fun e w' => e = .returned (.string ⟨(printP ns l).toArray⟩) ∧ Below w.heap.size w w' := by
  have hnl := hR.len
  have HR := Lib.hid hR
  have HLN := Lib.hid (fun (h : Hr) (r : Rl) (w' : World) (hb : Below w.heap.size w w') (hr : Rw N w' h r) (hm : r ∈ l) => line_any h r t ns w' hr (hT.below hb) hl hs (hlg r hm) (hTz.below hb) (hP.below hb))
  have hB0 := Lib.fresh_isBuilder 116 5 w
  have hb0 := (Below.refl w.heap.size w).alloc (Nat.le_refl _) (.cells #[.pointer none, .slice none 0 0] 116)
  have HSZ : Hid (∀ r ∈ l, (lineP ns r).1.size ≤ 8000000) := fun r hr => by
    obtain ⟨j, hj, rfl⟩ := List.getElem_of_mem hr
    obtain ⟨b, o, hh, _, _, hrw, _⟩ := hR.at (List.getElem?_eq_getElem hj)
    exact line_size ns _ hs hrw.2.2.2.2.2.2.2 (hlg _ hr)
  clear hR
  have HNL := Lib.hid hnl
  clear hnl
  go_enter Tryz.func17, Tryz.ntmps17
  go_wp2_with fail
  go_loopw [14] (fun v wr => ∃ j : Nat, j ≤ n ∧ v = .int .i64 j ∧ Hid (okAll ns (l.take j) = true) ∧ IsB wr w.heap.size w.heap.size (Lib.byteCells (flatL ns (l.take j))) ∧ Below w.heap.size w wr) (fun v _ => n - (intOf v).toNat)
  case atStart => exact ⟨0, by omega, rfl, rfl, hB0, hb0⟩
  case round =>
    obtain ⟨j, hj, rfl, hok, hIB, hbw⟩ := hrel
    by_cases hjn : j < n
    · obtain ⟨r, hr⟩ : ∃ r, l[j]? = some r := ⟨_, List.getElem?_eq_getElem (show j < l.length from (show n = l.length from HNL.out) ▸ hjn)⟩
      obtain ⟨b, o, ⟨rv, ad, tg, p1, q1, z1, p2, q2, z2, p3, q3, z3, lg⟩, rfl, hb, hrw, hcell⟩ := (HR.out.below hbw).at hr
      have c0 := hcell 0 _ rfl
      have c1 := hcell 1 _ rfl
      have c2 := hcell 2 _ rfl
      have c3 := hcell 3 _ rfl
      have c4 := hcell 4 _ rfl
      have c5 := hcell 5 _ rfl
      have c6 := hcell 6 _ rfl
      simp only [Nat.add_zero] at c0
      have hj0 : (0 : Int) ≤ (j : Int) := Int.natCast_nonneg _
      have hj1 : (j : Int) < (n : Int) := by omega
      have hmem : r ∈ l := List.mem_of_getElem? hr
      have hjl : j < l.length := (List.getElem?_eq_some_iff.1 hr).1
      have htk : l.take (j + 1) = l.take j ++ [r] := Dy.take_snoc' hr
      have hBx : Below w.heap.size w (wr.alloc (.cells #[.bool rv, .int .i64 ad, .int .i64 tg, .slice p1 q1 z1, .slice p2 q2 z2, .slice p3 q3 z3, .int .i64 lg] 46)) := hbw.alloc hbw.size _
      have hIx := isB_below hIB ((Below.refl _ wr).alloc (Nat.le_refl _) (.cells #[.bool rv, .int .i64 ad, .int .i64 tg, .slice p1 q1 z1, .slice p2 q2 z2, .slice p3 q3 z3, .int .i64 lg] 46))
      have HLX := Lib.hid (HLN.out ⟨rv, ad, tg, p1, q1, z1, p2, q2, z2, p3, q3, z3, lg⟩ r _ hBx (hrw.below ((Below.refl _ wr).alloc (Nat.le_refl _) _)) hmem)
      have hfs := flat_size ns (l.take j) (fun q hq => HSZ.out q (List.mem_of_mem_take hq))
      have hls := HSZ.out r hmem
      have HFL : Hid (Lib.byteCells (flatL ns (l.take j)) ++ Lib.strCells (lineP ns r).1 = Lib.byteCells (flatL ns (l.take (j + 1)))) := by
        show _ = _
        rw [htk]
        unfold flatL
        rw [List.flatMap_append, Lib.byteCells_append]
        congr 1
        simp only [List.flatMap_cons, List.flatMap_nil, List.append_nil]
        rfl
      have HNO : Hid ((lineP ns r).2 = false → printP ns l = []) := fun h => by
        unfold printP
        rw [if_neg]
        intro ha
        have := List.all_eq_true.1 ha r hmem
        rw [h] at this; cases this
      have HYES : Hid ((lineP ns r).2 = true → okAll ns (l.take (j + 1)) = true) := fun h => by
        have h0 := hok.out
        unfold okAll at h0 ⊢
        rw [htk, List.all_append, h0]
        simp [h]
      have hjm : (l.take j).length ≤ 1000000 := by rw [List.length_take]; omega
      unfold LnP at HLX
      dsimp only [hrL] at HLX
      obtain ⟨cs, hcs⟩ : ∃ cs, cs = Lib.byteCells (flatL ns (l.take j)) := ⟨_, rfl⟩
      have hcl : cs.length ≤ 8000000000000 := by rw [hcs, Lib.byteCells_length]; omega
      rw [← hcs] at HFL hIx
      clear hcs hIB hrw hmem htk hok hr
      generalize (lineP ns r).1 = s1 at *
      generalize (lineP ns r).2 = b1 at *
      have hsum : cs.length + s1.size ≤ 140737488355328 := by omega
      cases b1
      · have HPE := Lib.hid (HNO.out rfl)
        clear HNO HYES
        go_wp2_with (go_at_call 55; refine HLX.out.mono ?_; rintro en w5 ⟨rfl, hb5⟩)
        go_ret
        refine ⟨?_, hBx.trans (hb5.mono hBx.size)⟩
        show Ending.returned (.string _) = _
        rw [HPE.out]
      · have HOK := Lib.hid (HYES.out rfl)
        clear HNO HYES
        go_wp2_with (first
          | (go_at_call 55; refine HLX.out.mono ?_; rintro en w5 ⟨rfl, hb5⟩; have hB5 := hBx.trans (hb5.mono hBx.size); have hI5 := isB_below hIx hb5)
          | (go_at_call 56; refine (writeString_any w.heap.size w.heap.size cs s1 _ hI5 hsum hB5.size).mono ?_; rintro en w6 ⟨rfl, hI6, hb6, -⟩; rw [HFL.out] at hI6))
        go_roundw
        case rel => exact ⟨j + 1, by omega, by go_num, HOK.out, hI6, hB5.trans hb6⟩
        case measure => simp [intOf]; omega
    · obtain rfl : j = n := by omega
      have HPE : Hid (printP ns l = flatL ns (l.take j)) := by
        have h0 := hok.out
        have e : l.take j = l := List.take_of_length_le (by rw [HNL.out]; exact Nat.le_refl _)
        rw [e] at h0 ⊢
        show _ = _
        unfold printP
        rw [if_pos h0]
      go_wp2_with (go_at_call 57; refine (Tryz.Builder_String_any_k w.heap.size w.heap.size (flatL ns (l.take j)) _ (Lib.IsBuilderF.of hIB) hbw.size).mono ?_; rintro en w6 ⟨rfl, -, hb6, -⟩)
      go_ret
      refine ⟨?_, hbw.trans hb6⟩
      show Ending.returned (.string _) = _
      rw [HPE.out]
end Go.Proofs.YtfjpbkmnlmecgaaGreatDoor.Ru
end
