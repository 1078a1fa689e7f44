/- Contracts: Or, And, Minus. -/
import Derived.Test.YtgbonpmakahibaaDoorBtC
import Derived.Laws.OwnMore
import Derived.OwnWalk
namespace Go.Proofs.YtgbonpmakahibaaDoor
open Go.RowKit Go.PlainAid
set_option linter.unusedVariables false
set_option linter.unusedSimpArgs false
set_option maxHeartbeats 2000000

def u64v (x : Nat) : Value := .int .u64 (x : Nat)
theorem info64 : (Tryd.prog.info? 77).map (fun i => (i.zero, i.size, i.bytes)) = some (some (.int .u64 0), 1, 8) := by kernel_rfl
/-- The call's own row (block g) of q words. -/
def Row (w : World) (B g q : Nat) (us : List Nat) : Prop := w.ownsRow B 77 1 (.slice (some ⟨g, 0, none⟩) q q) q (us.map u64v)
theorem Row.len {w : World} {B g q : Nat} {us : List Nat} (h : Row w B g q us) : us.length = q := by
  have := h.1; rw [List.length_map] at this; omega
theorem Row.lt {w : World} {B g q : Nat} {us : List Nat} (h : Row w B g q us) : B ≤ g ∧ g < w.heap.size := World.ownsRow.lt h g rfl
theorem Row.cell {w : World} {B g q : Nat} {us : List Nat} (h : Row w B g q us) {j : Nat} (hj : j < q) : w.cell? ⟨g, j, none⟩ = some (.int .u64 (wd us j : Nat)) := by
  rw [World.ownsRow.cellAt h j (by omega), List.getElem?_map]
  rw [wd_get (by rw [h.len]; exact hj), List.getElem?_eq_getElem (by rw [h.len]; exact hj)]; rfl
theorem Row.free {w : World} {B g q : Nat} {us : List Nat} (h : Row w B g q us) (j : Nat) : w.frozen? ⟨g, j, none⟩ = false := World.ownsRow.frozenAt h j
theorem Row.set {w : World} {B g q : Nat} {us : List Nat} (h : Row w B g q us) (k x : Nat) : Row (w.setCell ⟨g, k, none⟩ (.int .u64 (x : Nat))) B g q (us.set k x) := by
  have := (World.ownsRow.stored h k (.int .u64 (x : Nat))).1
  unfold Row
  rw [List.map_set]
  exact this
theorem Row.other {w : World} {B g q : Nat} {us : List Nat} (h : Row w B g q us) {a : Addr} (hne : g ≠ a.block) (u : Value) : Row (w.setCell a u) B g q us :=
  owns_set h (fun b hb => by cases hb; exact hne) u
theorem Row.below {w w' : World} {B g q : Nat} {us : List Nat} (h : Row w B g q us) (hb : Below w.heap.size w w') : Row w' B g q us := owns_below h (Nat.le_refl _) hb
theorem Row.wd {w : World} {B g q : Nat} {us : List Nat} (h : Row w B g q us) (hq : q ≤ 9223372036854775807) : Wd w (some ⟨g, 0, none⟩) q q us :=
  ⟨h.len, Nat.le_refl _, hq, .inr ⟨g, 0, rfl, h.lt.2, fun j hj => by rw [Nat.zero_add]; exact h.cell hj⟩⟩
theorem made_zero (q : Nat) : (madeCells #[Value.int .u64 0] q).toList = (List.replicate q 0).map u64v := by
  rw [List.map_replicate]
  apply List.ext_getElem
  · simp [madeCells]
  · intro i h1 h2
    simp [madeCells, u64v]
    have : i % 1 = 0 := Nat.mod_one i
    simp [this]
theorem Row.new {w : World} {B g q : Nat} (h : w.ownsRow B 77 1 (.slice (some ⟨g, 0, none⟩) q q) q (madeCells #[Value.int .u64 0] q).toList) : Row w B g q (List.replicate q 0) := by
  rw [made_zero] at h
  exact h
/-- After k of q rounds: the words below k are f, the others 0. -/
def Upto (us : List Nat) (k : Nat) (f : Nat → Nat) : Prop := ∀ j, wd us j = if j < k then f j else 0
theorem Upto.zero (q : Nat) (f : Nat → Nat) : Upto (List.replicate q 0) 0 f := fun j => by
  rw [if_neg (by omega)]
  unfold Go.Proofs.YtgbonpmakahibaaDoor.wd
  rw [List.getD_eq_getElem?_getD]
  by_cases h : j < q
  · rw [List.getElem?_replicate, if_pos h]; rfl
  · rw [List.getElem?_replicate, if_neg h]; rfl
theorem Upto.next {us : List Nat} {k q : Nat} {f : Nat → Nat} (h : Upto us k f) (hq : us.length = q) (hk : k < q) : Upto (us.set k (f k)) (k + 1) f := fun j => by
  rw [wd_set (by omega)]
  by_cases hj : j = k
  · rw [if_pos hj, if_pos (by omega), hj]
  · rw [if_neg hj, h j]
    by_cases h2 : j < k
    · rw [if_pos h2, if_pos (by omega)]
    · rw [if_neg h2, if_neg (by omega)]
theorem Upto.u64 {us : List Nat} {k : Nat} {f : Nat → Nat} (h : Upto us k f) (hf : ∀ j, f j < 18446744073709551616) : U64 us := by
  intro x hx
  obtain ⟨j, hj, rfl⟩ := List.getElem_of_mem hx
  rw [← wd_get hj, h j]
  split
  · exact hf j
  · omega
def orL (l r : List Nat) : List Nat := (List.range 4096).filter (fun x => decide (x ∈ l) || decide (x ∈ r))
def andL (l r : List Nat) : List Nat := l.filter (fun x => decide (x ∈ r))
def minL (l r : List Nat) : List Nat := l.filter (fun x => !decide (x ∈ r))
theorem asc_filter {l : List Nat} (h : Asc l) (p : Nat → Bool) : Asc (l.filter p) := ⟨h.1.filter p, fun x hx => h.2 x (List.mem_filter.1 hx).1⟩
theorem or_rp {ws vs us l r : List Nat} {q : Nat} (h : Rp ws l) (k : Rp vs r) (hq : us.length = max ws.length vs.length) (hu : Upto us us.length (fun j => wd ws j ||| wd vs j)) : Rp us (orL l r) := by
  have hw : ∀ j, wd us j = wd ws j ||| wd vs j := by
    intro j
    rw [hu j]
    by_cases hj : j < us.length
    · rw [if_pos hj]
    · rw [if_neg hj, wd_out (by omega), wd_out (by omega)]; rfl
  refine Rp.of (hu.u64 fun j => lor_lt (wd_lt h.1 j) (wd_lt k.1 j)) ?_ (by have := h.2.2.1; have := k.2.2.1; omega) ⟨(pw_range 4096).filter _, fun x hx => by simp [orL] at hx; exact hx.1⟩ ?_
  · intro j hj
    rw [hw]
    by_cases hc : j + 1 = ws.length
    · have := h.2.1 j hc
      intro e
      exact this (Nat.or_eq_zero_iff.1 e).1
    · have := k.2.1 j (by omega)
      intro e
      exact this (Nat.or_eq_zero_iff.1 e).2
  · intro i hi
    unfold mem
    rw [hw, Nat.testBit_or]
    have e1 := h.mem_dec i
    have e2 := k.mem_dec i
    unfold mem at e1 e2
    rw [e1, e2]
    simp [orL, hi]

theorem new1 (w : World) (x : Value) (T : TypeId) : (w.alloc (.cells #[x] T)).cell? ⟨w.heap.size, 0, none⟩ = some x ∧ (w.alloc (.cells #[x] T)).frozen? ⟨w.heap.size, 0, none⟩ = false := by
  constructor <;> simp
theorem box3 {w wr : World} {x y z : Value} {T1 T2 T3 : TypeId} (h : Below (w.heap.size + 3) (((w.alloc (.cells #[x] T1)).alloc (.cells #[y] T2)).alloc (.cells #[z] T3)) wr) :
    wr.cell? ⟨w.heap.size, 0, none⟩ = some x ∧ wr.cell? ⟨w.heap.size + 1, 0, none⟩ = some y ∧ wr.cell? ⟨w.heap.size + 1 + 1, 0, none⟩ = some z ∧ wr.frozen? ⟨w.heap.size + 1 + 1, 0, none⟩ = false ∧ w.heap.size + 3 ≤ wr.heap.size ∧ Below w.heap.size w wr := by
  have hs := h.size
  have z1 : (w.alloc (.cells #[x] T1)).heap.size = w.heap.size + 1 := by simp
  have z2 : ((w.alloc (.cells #[x] T1)).alloc (.cells #[y] T2)).heap.size = w.heap.size + 2 := by simp
  have z3 : (((w.alloc (.cells #[x] T1)).alloc (.cells #[y] T2)).alloc (.cells #[z] T3)).heap.size = w.heap.size + 3 := by simp
  obtain ⟨a1, a2⟩ := new1 w x T1
  obtain ⟨b1, b2⟩ := new1 (w.alloc (.cells #[x] T1)) y T2
  obtain ⟨d1, d2⟩ := new1 ((w.alloc (.cells #[x] T1)).alloc (.cells #[y] T2)) z T3
  rw [z1] at b1 b2
  rw [z2] at d1 d2
  have B3 : Below (w.heap.size + 2) ((w.alloc (.cells #[x] T1)).alloc (.cells #[y] T2)) wr := ((Below.refl _ _).alloc (by rw [z2]; exact Nat.le_refl _) _).trans (h.mono (by omega))
  have B2 : Below (w.heap.size + 1) (w.alloc (.cells #[x] T1)) wr := ((Below.refl _ _).alloc (by rw [z1]; exact Nat.le_refl _) _).trans (B3.mono (by omega))
  have B1 : Below w.heap.size w wr := ((Below.refl _ _).alloc (Nat.le_refl _) _).trans (B2.mono (by omega))
  refine ⟨(B2.cell (p := ⟨w.heap.size, 0, none⟩) (show w.heap.size < w.heap.size + 1 by omega)).trans a1, (B3.cell (p := ⟨w.heap.size + 1, 0, none⟩) (show w.heap.size + 1 < w.heap.size + 2 by omega)).trans b1, (h.cell (p := ⟨w.heap.size + 2, 0, none⟩) (show w.heap.size + 2 < w.heap.size + 3 by omega)).trans d1, (h.frozen (p := ⟨w.heap.size + 2, 0, none⟩) (show w.heap.size + 2 < w.heap.size + 3 by omega)).trans d2, by omega, B1⟩
theorem box2 {w wr : World} {x y : Value} {T1 T2 : TypeId} (h : Below (w.heap.size + 2) ((w.alloc (.cells #[x] T1)).alloc (.cells #[y] T2)) wr) :
    wr.cell? ⟨w.heap.size, 0, none⟩ = some x ∧ wr.cell? ⟨w.heap.size + 1, 0, none⟩ = some y ∧ wr.frozen? ⟨w.heap.size + 1, 0, none⟩ = false ∧ w.heap.size + 2 ≤ wr.heap.size ∧ Below w.heap.size w wr := by
  have hs := h.size
  have z1 : (w.alloc (.cells #[x] T1)).heap.size = w.heap.size + 1 := by simp
  have z2 : ((w.alloc (.cells #[x] T1)).alloc (.cells #[y] T2)).heap.size = w.heap.size + 2 := by simp
  obtain ⟨a1, a2⟩ := new1 w x T1
  obtain ⟨b1, b2⟩ := new1 (w.alloc (.cells #[x] T1)) y T2
  rw [z1] at b1 b2
  have B2 : Below (w.heap.size + 1) (w.alloc (.cells #[x] T1)) wr := ((Below.refl _ _).alloc (by rw [z1]; exact Nat.le_refl _) _).trans (h.mono (by omega))
  have B1 : Below w.heap.size w wr := ((Below.refl _ _).alloc (Nat.le_refl _) _).trans (B2.mono (by omega))
  exact ⟨(B2.cell (p := ⟨w.heap.size, 0, none⟩) (show w.heap.size < w.heap.size + 1 by omega)).trans a1, (h.cell (p := ⟨w.heap.size + 1, 0, none⟩) (show w.heap.size + 1 < w.heap.size + 2 by omega)).trans b1, (h.frozen (p := ⟨w.heap.size + 1, 0, none⟩) (show w.heap.size + 1 < w.heap.size + 2 by omega)).trans b2, by omega, B1⟩
def CRel (w W : World) (B g q : Nat) (f : Nat → Nat) (v : Value) (wr : World) : Prop :=
  ∃ k us, k ≤ q ∧ v = .int .i64 (k : Nat) ∧ Row wr g g q us ∧ Upto us k f ∧ Below B W wr
/-- The result lies in a new block. -/
def SetFresh (w : World) (l : List Nat) (e : Ending) (w' : World) : Prop := ∃ g k, e = .returned (.agg #[.slice (some ⟨g, 0, none⟩) k k]) ∧ w.heap.size ≤ g ∧ Bs w' (some ⟨g, 0, none⟩) k k l ∧ Below w.heap.size w w'
theorem or_fresh (a b : Option Addr) (n m cap dap : Nat) (l r : List Nat) (w : World) (h : Bs w a n cap l) (k : Bs w b m dap r) :
    Calls Tryd.prog 32 #[.agg #[.slice a n cap], .agg #[.slice b m dap]] w (SetFresh w (orL l r)) := by
  obtain ⟨i0, hi, hz0, hz1, hz2⟩ := info_parts info64
  obtain ⟨ws, hw, hr⟩ := h
  obtain ⟨vs, kw, kr⟩ := k
  have hn64 : n ≤ 64 := by have := hr.2.2.1; rw [hw.1] at this; exact this
  have hm64 : m ≤ 64 := by have := kr.2.2.1; rw [kw.1] at this; exact this
  have hncap : n ≤ cap := hw.2.1
  have hmcap : m ≤ dap := kw.2.1
  obtain ⟨q, hq⟩ : ∃ q : Nat, max (n : Int) (m : Int) = q := ⟨max n m, by omega⟩
  have hq64 : q ≤ 64 := by omega
  have hwl := Lib.hid (fun k => wd_lt hr.1 k)
  have hvl := Lib.hid (fun k => wd_lt kr.1 k)
  have hW1 := Lib.hid (fun (k : Nat) w' (hk : k ≤ 4096) (hb : Below w.heap.size w w') => word_any a n cap k ws w' (hw.below hb) hk)
  have hW2 := Lib.hid (fun (k : Nat) w' (hk : k ≤ 4096) (hb : Below w.heap.size w w') => word_any b m dap k vs w' (kw.below hb) hk)
  have hfin := Lib.hid (fun (us : List Nat) (hl : us.length = q) (hu : Upto us us.length (fun j => wd ws j ||| wd vs j)) => or_rp (q := q) hr kr (by rw [hw.1, kw.1]; omega) hu)
  have hbytes : i0.bytes * q ≤ 281474976710656 := by rw [hz2]; omega
  have hqm : q ≤ maxLen := by unfold maxLen; omega
  clear hw hr kw kr
  go_enter Tryd.func32, Tryd.ntmps32
  obtain ⟨W, hWW⟩ : ∃ W, W = ((w.alloc (.cells #[.slice a n cap] 55)).alloc (.cells #[.slice b m dap] 55)).alloc (.cells #[.slice none 0 0] 55) := ⟨_, rfl⟩
  have HWW := Lib.hid hWW
  clear hWW
  go_wp2_with (refine wpList_make_full _ rfl (.tmp 13) (.tmp 13) 53 rfl (w.heap.size + 3) 77 i0 (.int .u64 0) 1 Tryd.underlying53 hi hz0 hz1 .i64 .i64 q q q rfl rfl rfl rfl hbytes hqm ?c1 ?_)
  case c1 => simp
  intro w1 hown hgr
  have hrow := Lib.hid (Row.new hown)
  have hbel := Lib.hid ((Below.refl (w.heap.size + 3) _).grown hgr (by simp) (fun b hb => by cases hb))
  clear hown hgr
  generalize hgE : w.heap.size + 1 + 1 + 1 = g at hrow ⊢
  replace hgE := Lib.hid hgE
  clear hi hz0 hz1 hz2 hbytes hqm
  go_wp2_with fail
  go_loopw [17] (fun v wr => CRel w (((w.alloc (.cells #[.slice a n cap] 55)).alloc (.cells #[.slice b m dap] 55)).alloc (.cells #[.slice none 0 0] 55)) (w.heap.size + 3) g q (fun j => wd ws j ||| wd vs j) v wr) (fun v _ => q - (intOf v).toNat)
  case atStart => exact ⟨0, List.replicate q 0, Nat.zero_le _, rfl, hrow.out, Upto.zero _ _, hbel.out⟩
  case round =>
    obtain ⟨k, us, hk, rfl, hR, hU, hB⟩ := hrel
    obtain ⟨c0, c1, c2, f2, hz, hBw⟩ := box3 hB
    have HR := Lib.hid hR
    have HU := Lib.hid hU
    have HB := Lib.hid hB
    clear hR hU hB
    by_cases hlt : k < q
    · have hr0 := HR.out.cell hlt
      have hf0 := HR.out.free k
      have hgl := HR.out.lt.2
      have hg1 : ¬ g = w.heap.size := by have := hgE.out; omega
      have hg2 : ¬ g = w.heap.size + 1 := by have := hgE.out; omega
      have hS := Lib.hid (fun w' (hb : Below wr.heap.size wr w') => (⟨(hb.cell (p := ⟨w.heap.size, 0, none⟩) (show w.heap.size < wr.heap.size by omega)).trans c0, (hb.cell (p := ⟨w.heap.size + 1, 0, none⟩) (show w.heap.size + 1 < wr.heap.size by omega)).trans c1⟩ :
        w'.cell? ⟨w.heap.size, 0, none⟩ = some (.slice a n cap) ∧ w'.cell? ⟨w.heap.size + 1, 0, none⟩ = some (.slice b m dap)))
      have hS2 := Lib.hid (fun w' u (hb : Below wr.heap.size wr w') => (⟨(World.cell?_setCell_other w' ⟨g, k, none⟩ ⟨w.heap.size, 0, none⟩ u (fun e => hg1 (by injection e))).trans (hS.out w' hb).1, (World.cell?_setCell_other w' ⟨g, k, none⟩ ⟨w.heap.size + 1, 0, none⟩ u (fun e => hg2 (by injection e))).trans (hS.out w' hb).2⟩ :
        (w'.setCell ⟨g, k, none⟩ u).cell? ⟨w.heap.size, 0, none⟩ = some (.slice a n cap) ∧ (w'.setCell ⟨g, k, none⟩ u).cell? ⟨w.heap.size + 1, 0, none⟩ = some (.slice b m dap)))
      clear hg1 hg2
      have hor : bits .or .u64 ((wd ws k : Nat) : Int) ((wd vs k : Nat) : Int) = ((wd ws k ||| wd vs k : Nat) : Int) := u64_or_nat _ _ (hwl.out k) (hvl.out k)
      have i0 : (0 : Int) ≤ (k : Int) := by omega
      have i1 : (k : Int) < (q : Int) := by omega
      go_wp2_with fail
      go_region_held3 (fun w' => w'.cell? ⟨w.heap.size, 0, none⟩ = some (.slice a n cap) ∧ w'.cell? ⟨w.heap.size + 1, 0, none⟩ = some (.slice b m dap))
        (first | exact hS.out _ (Below.refl _ _).drew | exact hS.out _ hb2 | exact hS.out _ hb3 | exact hS2.out _ _ hb3)
        (first | (go_at_call 51; (with_reducible refine (hW1.out k _ (by omega) hBw.drew).mono ?_); rintro e w2 ⟨rfl, hb2⟩; replace hb2 := (Below.refl wr.heap.size wr).drew.trans (hb2.mono (by simp))) | (go_at_call 51; (with_reducible refine (hW2.out k _ (by omega) (hBw.trans (hb2.mono hBw.size))).mono ?_); rintro e w3 ⟨rfl, hb3⟩; replace hb3 := hb2.trans (hb3.mono hb2.size); have hq3 := (hb3.cell (p := ⟨g, k, none⟩) hgl).trans hr0; have hf3 := (hb3.frozen (p := ⟨g, k, none⟩) hgl).trans hf0))
      go_wp2_with fail
      go_roundw
      case rel => exact ⟨k + 1, us.set k (wd ws k ||| wd vs k), by omega, by go_num, (HR.out.below hb3).set k _, HU.out.next HR.out.len hlt, (HB.out.trans (hb3.mono hz)).setCell (show w.heap.size + 3 ≤ g by have := hgE.out; omega) _⟩
      case measure => simp [intOf]; omega
    · have hkq : k = q := by omega
      subst hkq
      go_wp2_with fail
      have cs := World.cell?_setCell_same wr ⟨w.heap.size + 1 + 1, 0, none⟩ (.slice (some ⟨g, 0, none⟩) k k) c2
      refine bodyPost_ret (v := .agg #[.slice (some ⟨g, 0, none⟩) k k]) (by simp [results, Tryd.results32, go_sem, cs]) rfl ?_
      refine ⟨g, k, rfl, by have := hgE.out; omega, ⟨us, (HR.out.other (show g ≠ w.heap.size + 1 + 1 by have := hgE.out; omega) _).wd (by omega), hfin.out us HR.out.len (by rw [HR.out.len]; exact HU.out)⟩, ?_⟩
      exact hBw.setCell (show w.heap.size ≤ w.heap.size + 1 + 1 by omega) _
theorem or_any (a b : Option Addr) (n m cap dap : Nat) (l r : List Nat) (w : World) (h : Bs w a n cap l) (k : Bs w b m dap r) :
    Calls Tryd.prog 32 #[.agg #[.slice a n cap], .agg #[.slice b m dap]] w (SetPost w (orL l r)) := by
  refine (or_fresh a b n m cap dap l r w h k).mono ?_
  rintro e w' ⟨g, q, rfl, -, hs, hb⟩
  exact ⟨_, _, _, rfl, hs, hb⟩
end Go.Proofs.YtgbonpmakahibaaDoor
