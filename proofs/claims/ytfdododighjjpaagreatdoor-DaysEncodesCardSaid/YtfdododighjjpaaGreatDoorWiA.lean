/- Package wire: bytes in memory, the writer, the reader (for any seat). -/
import Derived.Test.YtfdododighjjpaaGreatDoorProg
import Derived.Test.YtfdododighjjpaaGreatDoorMem
import Derived.Deep.QuietTactic
import Derived.BigQuiet
import Derived.RegionTactic
import Derived.BigRegion
import Derived.BigGuardPart
import Derived.Deep.RegionHeld3
import Derived.Laws.BitsAllLaws
import Derived.Outline
import Derived.Laws.OwnMore
import Derived.OwnWalk
import Derived.Laws.AppendOwnNone
import Derived.RangeFuncBox
import Derived.Lib.SliceRun
namespace Go.Proofs.YtfdododighjjpaaGreatDoor.Wi
open Go.RowKit Go.PlainAid
set_option linter.unusedVariables false
set_option linter.unusedSimpArgs false
set_option maxHeartbeats 4000000
set_option maxRecDepth 20000
theorem ret_bool {a b : Bool} (h : a = b) : Ending.returned (.bool a) = .returned (.bool b) := by rw [h]
/-- Word k of a list of words. -/
def wd (ws : List Nat) (k : Nat) : Nat := ws.getD k 0
theorem wd_out {ws : List Nat} {k : Nat} (h : ws.length ≤ k) : wd ws k = 0 := by
  unfold wd; rw [List.getD_eq_getElem?_getD, List.getElem?_eq_none h]; rfl
theorem wd_get {ws : List Nat} {k : Nat} (h : k < ws.length) : wd ws k = ws[k] := by
  unfold wd; rw [List.getD_eq_getElem?_getD, List.getElem?_eq_getElem h]; rfl
def u8v (x : Nat) : Value := .int .u8 ((x : Nat) : Int)
theorem infoByte : (Tryz.prog.info? 5).map (fun i => (i.zero, i.size, i.bytes)) = some (some (.int .u8 0), 1, 1) := by kernel_rfl
/-- The slice (a, n, cap) holds the bytes ps. -/
def Bw (w : World) (a : Option Addr) (n cap : Nat) (ps : List Nat) : Prop :=
  ps.length = n ∧ n ≤ cap ∧ cap ≤ 9223372036854775807 ∧ (∀ x ∈ ps, x < 256) ∧ (n = 0 ∨ ∃ b o, a = some ⟨b, o, none⟩ ∧ b < w.heap.size ∧ ∀ j, j < n → w.cell? ⟨b, o + j, none⟩ = some (.int .u8 (wd ps j : Nat)))
theorem Bw.below {w w' : World} {a : Option Addr} {n cap : Nat} {ps : List Nat} (h : Bw w a n cap ps) (hb : Below w.heap.size w w') : Bw w' a n cap ps := by
  obtain ⟨h1, h2, h3, h4, h5⟩ := h
  refine ⟨h1, h2, h3, h4, ?_⟩
  rcases h5 with h5 | ⟨b, o, h5, h6, h7⟩
  · exact .inl h5
  · exact .inr ⟨b, o, h5, Nat.lt_of_lt_of_le h6 hb.size, fun j hj => (hb.cell (p := ⟨b, o + j, none⟩) h6).trans (h7 j hj)⟩
def RowY (w : World) (B : Nat) (v : Value) (bs : List Nat) : Prop := w.ownsRow B 5 1 v bs.length (bs.map u8v)
theorem RowY.slice {w : World} {B : Nat} {v : Value} {bs : List Nat} (h : RowY w B v bs) : ∃ a cap, v = .slice a bs.length cap ∧ bs.length ≤ cap ∧ cap ≤ 9223372036854775807 := by
  rcases h.2 with ⟨e1, e2⟩ | ⟨g, cap, cur, rfl, _, _, h1, h2, _⟩
  · exact ⟨none, 0, by rw [e1, e2], by omega, by omega⟩
  · exact ⟨_, _, rfl, h1, by unfold maxLen at h2; omega⟩
theorem RowY.bw {w : World} {B : Nat} {v : Value} {bs : List Nat} (h : RowY w B v bs) (hb : ∀ x ∈ bs, x < 256) : ∃ a cap, v = .slice a bs.length cap ∧ Bw w a bs.length cap bs := by
  rcases h.2 with ⟨e1, e2⟩ | ⟨g, cap, cur, rfl, _, hg, h1, h2, _⟩
  · exact ⟨none, 0, by rw [e1, e2], rfl, by omega, by omega, hb, .inl e2⟩
  · refine ⟨_, _, rfl, rfl, h1, by unfold maxLen at h2; omega, hb, .inr ⟨g, 0, rfl, (World.ownsRow.lt h g rfl).2, fun j hj => ?_⟩⟩
    rw [Nat.zero_add, World.ownsRow.cellAt h j (by simpa using hj), List.getElem?_map, List.getElem?_eq_getElem hj, wd_get hj]; rfl
/-- Blocks below B, but for p and q, are as they were. -/
structure But (B p q : Nat) (w w' : World) : Prop where
  os : w'.os = w.os
  tape : w'.tape = w.tape
  output : w'.output = w.output
  size : w.heap.size ≤ w'.heap.size
  block : ∀ k, k < B → k ≠ p → k ≠ q → w'.heap[k]? = w.heap[k]?
theorem But.refl (B p q : Nat) (w : World) : But B p q w w := ⟨rfl, rfl, rfl, Nat.le_refl _, fun _ _ _ _ => rfl⟩
theorem But.trans {B p q : Nat} {a b c : World} (h : But B p q a b) (k : But B p q b c) : But B p q a c :=
  ⟨k.os.trans h.os, k.tape.trans h.tape, k.output.trans h.output, Nat.le_trans h.size k.size, fun i hi h1 h2 => (k.block i hi h1 h2).trans (h.block i hi h1 h2)⟩
theorem But.of {B p q : Nat} {w w' : World} (h : Below B w w') : But B p q w w' := ⟨h.os, h.tape, h.output, h.size, fun k hk _ _ => h.block k hk⟩
theorem But.below {B p q N : Nat} {w w' : World} (h : But B p q w w') (hN : N ≤ B) (hp : N ≤ p) (hq : N ≤ q) : Below N w w' := ⟨h.os, h.tape, h.output, h.size, fun k hk => h.block k (by omega) (by omega) (by omega)⟩
theorem But.set {B p q : Nat} {w : World} (a : Addr) (v : Value) (h : a.block = p ∨ a.block = q ∨ B ≤ a.block) : But B p q w (w.setCell a v) :=
  ⟨rfl, rfl, rfl, by simp, fun k hk h1 h2 => Below.heap_setCell _ _ _ k (by rcases h with h | h | h <;> omega)⟩
theorem But.cell {B p q : Nat} {w w' : World} (h : But B p q w w') {k j : Nat} (hk : k < B) (h1 : k ≠ p) (h2 : k ≠ q) : w'.cell? ⟨k, j, none⟩ = w.cell? ⟨k, j, none⟩ := by
  unfold World.cell?; rw [h.block k hk h1 h2]
/-- The writer at block g holds the bytes bs in a row v of its own (blocks from N on). -/
def Wr (N g : Nat) (v : Value) (bs : List Nat) (W : World) : Prop := Boxed W g 85 v ∧ W.ownsRow N 5 1 v bs.length (bs.map u8v) ∧ g < N ∧ N ≤ W.heap.size
/-- All blocks but g and the row's are as they were. -/
structure Kp (g : Nat) (v : Value) (W W' : World) : Prop where
  os : W'.os = W.os
  tape : W'.tape = W.tape
  output : W'.output = W.output
  size : W.heap.size ≤ W'.heap.size
  block : ∀ k, k < W.heap.size → k ≠ g → some k ≠ v.ownBlock → W'.heap[k]? = W.heap[k]?
theorem Wr.below {N g : Nat} {v : Value} {bs : List Nat} {W W' : World} (h : Wr N g v bs W) (hb : Below W.heap.size W W') : Wr N g v bs W' := by
  obtain ⟨h1, h2, h3, h4⟩ := h
  exact ⟨(hb.block g (by omega)).trans h1, owns_below h2 (Nat.le_refl _) hb, h3, Nat.le_trans h4 hb.size⟩
theorem Kp.but {N g : Nat} {v : Value} {bs : List Nat} {W W' : World} (h : Kp g v W W') (hw : Wr N g v bs W) : But N g g W W' :=
  ⟨h.os, h.tape, h.output, h.size, fun k hk h1 _ => h.block k (by have := hw.2.2.2; omega) h1 (fun e => by have := (hw.2.1.lt k e.symm).1; omega)⟩
theorem Kp.pre {g : Nat} {v : Value} {W W1 W' : World} (hb : Below W.heap.size W W1) (h : Kp g v W1 W') : Kp g v W W' :=
  ⟨h.os.trans hb.os, h.tape.trans hb.tape, h.output.trans hb.output, Nat.le_trans hb.size h.size, fun k hk h1 h2 => (h.block k (Nat.lt_of_lt_of_le hk hb.size) h1 h2).trans (hb.block k hk)⟩
theorem rowB_slice {W : World} {N k : Nat} {v : Value} {xs : List Value} (h : W.ownsRow N 5 1 v k xs) : ∃ a l, v = .slice a k l := by
  rcases h.2 with ⟨rfl, rfl, _⟩ | ⟨q, cap, cur, rfl, _⟩
  · exact ⟨_, _, rfl⟩
  · exact ⟨_, _, rfl⟩
theorem Bw.news {W : World} {ad : Addr} {n c : Nat} {ps : List Nat} (h : Bw W (some ad) n c ps) : ∀ j u, (ps.map u8v)[j]? = some u → W.cell? (ad.add j) = some u := by
  intro j u hu
  obtain ⟨h1, h2, h3, h4, h5⟩ := h
  rw [List.getElem?_map] at hu
  cases hj : ps[j]? with
  | none => rw [hj] at hu; cases hu
  | some z =>
    rw [hj] at hu
    have hlt : j < ps.length := (List.getElem?_eq_some_iff.1 hj).1
    rcases h5 with h5 | ⟨b, o, h5, h6, h7⟩
    · omega
    · cases h5
      rw [Addr.add_lit, h7 j (by omega), ← Option.some.inj hu]
      unfold wd u8v
      rw [List.getD_eq_getElem?_getD, hj]; rfl
/-- The slice is nil only where the writer's law for nil serves. -/
def Nz (b : Option Addr) (n c : Nat) : Prop := b = none → n = 0 ∧ c = 0
set_option maxRecDepth 20000 in
theorem raw_any (N g : Nat) (v : Value) (bs ps : List Nat) (b : Option Addr) (n c : Nat) (W : World) (h : Wr N g v bs W) (hp : Bw W b n c ps) (hc : Nz b n c) (h1 : bs.length ≤ 1000000) (h2 : n ≤ 1000000) :
    Calls Tryz.prog 47 #[.pointer (some ⟨g, 0, none⟩), .slice b n c] W fun e W' => (∃ r, e = .returned r) ∧ ∃ v', Wr N g v' (bs ++ ps) W' ∧ Kp g v W W' := by
  obtain ⟨i0, hi, hz0, hz1, hz2⟩ := info_parts infoByte
  have HP := Lib.hid hp
  obtain ⟨hbx, hown, hgN, hNz⟩ := h
  obtain ⟨p1, p2, p3, p4, p5⟩ := hp
  have z0 := hbx.cell
  have z1 := hbx.frozen
  obtain ⟨a, d, rfl⟩ := rowB_slice hown
  cases b with
  | none =>
    obtain ⟨rfl, rfl⟩ := hc rfl
    obtain rfl : ps = [] := List.eq_nil_of_length_eq_zero p1
    have HO := Lib.hid hown
    clear p4 p5 hc
    go_enter Tryz.func47, Tryz.ntmps47
    go_wp2_with (at_builtin; refine wpList_append_own_none rfl (.tmp 10) (.tmp 11) 51 rfl N 5 i0 1 Tryz.underlying51 hi _ _ _ rfl HO.out rfl ?_)
    go_end0
    refine ⟨⟨_, rfl⟩, .slice a bs.length d, ⟨hbx.set _, by rw [List.append_nil]; exact owns_set hown (fun b hb e => by have := (hown.lt b hb).1; dsimp only at e; omega) _, hgN, by simpa using hNz⟩, rfl, rfl, rfl, by simp, fun k hk h1 _ => Below.heap_setCell _ _ _ k (by dsimp only; omega)⟩
  | some ad =>
    have HO := Lib.hid hown
    have hl1 : (ps.map u8v).length = n * 1 := by simp [p1]
    have ho1 : ∀ u ∈ ps.map u8v, u.oneCell' = true := by
      intro u hu
      rw [List.mem_map] at hu
      obtain ⟨z, _, rfl⟩ := hu; rfl
    have hm1 : bs.length + n ≤ maxLen := by unfold maxLen; omega
    have hm2 : (bs.length + n) * 1 ≤ 140737488355328 := by omega
    have HL := Lib.hid p1
    clear p4 p5 p1 hc hown
    go_enter Tryz.func47, Tryz.ntmps47
    go_wp2_with (at_builtin; refine wpList_append_own _ rfl (.tmp 10) (.tmp 11) 51 rfl N 5 i0 (.int .u8 0) 1 1 Tryz.underlying51 hi hz0 hz1 hz2 rfl (by decide) _ _ _ rfl HO.out ad n c (ps.map u8v) rfl hl1 HP.out.news ho1 hm1 hm2 hNz ?_; intro v' w' h3 h4 _; obtain ⟨a', d', rfl⟩ := rowB_slice h3; have hbx' : Boxed w' g _ _ := (h4.block g (by omega) (fun e => by have := (HO.out.lt g e.symm).1; omega)).trans hbx; have y0 := hbx'.cell; have y1 := hbx'.frozen; have H3 := Lib.hid h3; have H4 := Lib.hid h4; clear h3 h4 z0 z1)
    go_end0
    have hz := H4.out.size
    refine ⟨⟨_, rfl⟩, _, ⟨hbx'.set _, ?_, hgN, by simp; omega⟩, H4.out.os, H4.out.tape, H4.out.output, by simpa using hz, fun k hk h1 h2 => (Below.heap_setCell _ _ _ k (by dsimp only; omega)).trans (H4.out.block k hk h2)⟩
    rw [List.length_append, List.map_append, HL.out]
    exact owns_set H3.out (fun b hb e => by have := (H3.out.lt b hb).1; dsimp only at e; omega) _
theorem Bw.kp {W W' : World} {b : Option Addr} {n c g : Nat} {v : Value} {ps : List Nat} (h : Bw W b n c ps) (hk : Kp g v W W') (hn : ∀ x, b = some x → x.block ≠ g ∧ some x.block ≠ v.ownBlock) : Bw W' b n c ps := by
  obtain ⟨h1, h2, h3, h4, h5⟩ := h
  refine ⟨h1, h2, h3, h4, ?_⟩
  rcases h5 with h5 | ⟨b', o, rfl, h6, h7⟩
  · exact .inl h5
  · obtain ⟨n1, n2⟩ := hn _ rfl
    have hb := hk.block b' h6 n1 n2
    refine .inr ⟨b', o, rfl, Nat.lt_of_lt_of_le h6 hk.size, fun j hj => ?_⟩
    have : W'.cell? ⟨b', o + j, none⟩ = W.cell? ⟨b', o + j, none⟩ := by unfold World.cell?; rw [hb]
    rw [this]; exact h7 j hj
theorem But.tr {B g : Nat} {a b c : World} (h : But B g g a b) (k : But B g g b c) : But B g g a c := h.trans k
theorem row_bw {W : World} {N : Nat} {v : Value} {ps : List Nat} (h : W.ownsRow N 5 1 v ps.length (ps.map u8v)) (hb : ∀ x ∈ ps, x < 256) : ∃ b c, v = .slice b ps.length c ∧ Bw W b ps.length c ps ∧ Nz b ps.length c ∧ ∀ x, b = some x → N ≤ x.block ∧ x.block < W.heap.size := by
  have hlt := fun b hb => h.lt b hb
  obtain ⟨b, c, rfl, hw⟩ := RowY.bw h hb
  refine ⟨b, c, rfl, hw, fun e => ?_, fun x e => ?_⟩
  · subst e
    rcases h.2 with ⟨e, h0⟩ | ⟨q, cap, cur, e, _⟩
    · injection e with e1 e2 e3; exact ⟨e2, e3⟩
    · injection e with e1; cases e1
  · subst e
    exact hlt x.block rfl
theorem cloneB_any (b : Option Addr) (n c : Nat) (ps : List Nat) (w : World) (h : Bw w b n c ps) (hc : Nz b n c) (hn : n ≤ 1000000) :
    Calls Tryz.prog 50 #[.slice b n c] w fun e w' => ∃ v, e = .returned v ∧ w'.ownsRow w.heap.size 5 1 v ps.length (ps.map u8v) ∧ Below w.heap.size w w' := by
  obtain ⟨i0, hi, hz0, hz1, hz2⟩ := info_parts infoByte
  have hnil := fun (w : World) (a : Option Addr) (n c : Nat) => Lib.run_eql_slice_nil (P := Tryz.prog) w 51 5 a n c 0 0 Tryz.underlying51
  cases b with
  | none =>
    obtain ⟨rfl, rfl⟩ := hc rfl
    obtain rfl : ps = [] := List.eq_nil_of_length_eq_zero h.1
    clear h
    go_enter Tryz.func50, Tryz.ntmps50
    go_wp2_with fail
    go_ret
    exact ⟨_, rfl, World.ownsRow_nil _ _ _ _, Below.refl _ _⟩
  | some ad =>
    have hown0 : (w.alloc (.cells #[] 5)).ownsRow w.heap.size 5 1 (.slice (some ⟨w.heap.size, 0, none⟩) 0 0) 0 [] := World.ownsRow_lit w #[] 0 (Nat.le_refl _) (by unfold maxLen; omega) rfl
    have HP : Hid (∀ j u, (ps.map u8v)[j]? = some u → (w.alloc (.cells #[] 5)).cell? (ad.add j) = some u) := (h.below ((Below.refl w.heap.size w).alloc (Nat.le_refl _) _)).news
    have hl1 : (ps.map u8v).length = n * 1 := by simp [h.1]
    have ho1 : ∀ u ∈ ps.map u8v, u.oneCell' = true := by
      intro u hu
      rw [List.mem_map] at hu
      obtain ⟨z, _, rfl⟩ := hu; rfl
    have hm1 : 0 + n ≤ maxLen := by unfold maxLen; omega
    have hm2 : (0 + n) * 1 ≤ 140737488355328 := by omega
    have HL := Lib.hid h.1
    clear h hc
    go_enter Tryz.func50, Tryz.ntmps50
    go_wp2_with (at_builtin; refine wpList_append_own _ rfl (.tmp 5) (.tmp 6) 51 rfl w.heap.size 5 i0 (.int .u8 0) 1 1 Tryz.underlying51 hi hz0 hz1 hz2 rfl (by decide) _ 0 [] rfl hown0 ad n c (ps.map u8v) rfl hl1 HP.out ho1 hm1 hm2 (by simp) ?_)
    intro v' w1 hown' hgrow _
    have hbel : Below w.heap.size w w1 := ((Below.refl _ _).alloc (Nat.le_refl _) _).grown hgrow (by simp) (fun b hb => by cases hb; exact Nat.le_refl _)
    have hown2 : Hid (w1.ownsRow w.heap.size 5 1 v' ps.length (ps.map u8v)) := by
      show World.ownsRow _ _ _ _ _ _ _
      rw [HL.out]; exact hown'
    clear hgrow hown0 hown'
    go_wp2_with fail
    go_ret
    exact ⟨_, rfl, hown2.out, hbel⟩
theorem writer_new (w : World) : Calls Tryz.prog 15 #[] w fun e w' => e = .returned (.pointer (some ⟨w.heap.size, 0, none⟩)) ∧ w' = w.alloc (.cells #[.slice none 0 0] 85) := by
  go_enter Tryz.func15, Tryz.ntmps15
  go_wp2_with fail
  go_ret
  exact ⟨rfl, rfl⟩
theorem Wr.new (w : World) : Wr (w.heap.size + 1) w.heap.size (.slice none 0 0) [] (w.alloc (.cells #[.slice none 0 0] 85)) :=
  ⟨Boxed.new _ _ _, World.ownsRow_nil _ _ _ _, by omega, by simp⟩
theorem wr_bw {N g : Nat} {v : Value} {bs : List Nat} {W : World} (h : Wr N g v bs W) (hb : ∀ x ∈ bs, x < 256) : ∃ b c, v = .slice b bs.length c ∧ Bw W b bs.length c bs ∧ Nz b bs.length c := by
  obtain ⟨b, c, h1, h2, h3, _⟩ := row_bw h.2.1 hb
  exact ⟨b, c, h1, h2, h3⟩
theorem wout_any (N g : Nat) (v : Value) (bs : List Nat) (W : World) (h : Wr N g v bs W) (hb : ∀ x ∈ bs, x < 256) (hl : bs.length ≤ 1000000) :
    Calls Tryz.prog 20 #[.pointer (some ⟨g, 0, none⟩)] W fun e w' => ∃ v, e = .returned v ∧ w'.ownsRow W.heap.size 5 1 v bs.length (bs.map u8v) ∧ Below W.heap.size W w' := by
  obtain ⟨b, c, rfl, hw, hn⟩ := wr_bw h hb
  have z0 := h.1.cell
  have HC := Lib.hid (cloneB_any b bs.length c bs W hw hn hl)
  generalize bs.length = n at *
  clear h hw hn hb
  go_enter Tryz.func20, Tryz.ntmps20
  go_wp2_with (go_at_call 50; refine HC.out.mono ?_; rintro e w1 ⟨v1, rfl, hr, hb⟩; have HR := Lib.hid hr; have HB := Lib.hid hb; clear hr hb)
  go_ret
  exact ⟨_, rfl, HR.out, HB.out⟩
/-- Two cells of a block. -/
def At2 (W : World) (g : Nat) (x y : Value) : Prop := W.cell? ⟨g, 0, none⟩ = some x ∧ W.cell? ⟨g, 1, none⟩ = some y ∧ g < W.heap.size
/-- The block is two cells. -/
def At2T (W : World) (g : Nat) (x y : Value) (T : TypeId) : Prop := W.heap[g]? = some (.cells #[x, y] T (0, 0))
theorem At2T.below {W W' : World} {g : Nat} {x y : Value} {T : TypeId} (h : At2T W g x y T) (hb : Below W.heap.size W W') : At2T W' g x y T := (hb.block g (Array.getElem?_eq_some_iff.1 h).1).trans h
theorem At2T.frz {W : World} {g : Nat} {x y : Value} {T : TypeId} (h : At2T W g x y T) (j : Nat) : W.frozen? ⟨g, j, none⟩ = false := by
  unfold At2T at h
  simp [World.frozen?, h]
theorem At2T.lt {W : World} {g : Nat} {x y : Value} {T : TypeId} (h : At2T W g x y T) : g < W.heap.size := (Array.getElem?_eq_some_iff.1 h).1
theorem at2_of {W : World} {g : Nat} {x y : Value} {T : TypeId} (h : W.heap[g]? = some (.cells #[x, y] T (0, 0))) : At2 W g x y :=
  ⟨by simp [World.cell?, h], by simp [World.cell?, h], (Array.getElem?_eq_some_iff.1 h).1⟩
theorem At2T.at {W : World} {g : Nat} {x y : Value} {T : TypeId} (h : At2T W g x y T) : At2 W g x y := at2_of h
theorem set_cell1 {T : TypeId} {w : World} {g j : Nat} {cs : Array Value} {x : Value} {fz : Nat × Nat} (hg : w.heap[g]? = some (.cells cs T fz)) : (w.setCell ⟨g, j, none⟩ x).heap[g]? = some (.cells (cs.setIfInBounds j x) T fz) := by
  obtain ⟨hlt, hk⟩ := Array.getElem?_eq_some_iff.1 hg
  show (w.heap.modify g _)[g]? = _
  rw [Array.getElem?_eq_getElem (by rw [Array.size_modify]; exact hlt), Array.getElem_modify_self, hk]
  rfl
theorem At2T.new (w : World) (x y : Value) (T : TypeId) : At2T (w.alloc (.cells #[x, y] T)) w.heap.size x y T := World.alloc_heap_new w _
/-- The reader at block g: what is left, and its error. -/
def Rd (W : World) (g : Nat) (a : Option Addr) (n c : Nat) (ps : List Nat) (e : Int) : Prop :=
  At2T W g (.slice a n c) (.int .i64 e) 91 ∧ Bw W a n c ps ∧ Nz a n c ∧ ∀ x, a = some x → x.block ≠ g
/-- All is as it was, but for block g. -/
def Kg (g : Nat) (W W' : World) : Prop := But W.heap.size g g W W'
theorem Kg.of {g : Nat} {W W' : World} (h : Below W.heap.size W W') : Kg g W W' := But.of h
theorem Kg.tr {g : Nat} {a b c : World} (h : Kg g a b) (k : Kg g b c) : Kg g a c :=
  ⟨k.os.trans h.os, k.tape.trans h.tape, k.output.trans h.output, Nat.le_trans h.size k.size, fun i hi h1 h2 => (k.block i (Nat.lt_of_lt_of_le hi h.size) h1 h2).trans (h.block i hi h1 h2)⟩
theorem Kg.set (g j : Nat) (v : Value) (W : World) : Kg g W (W.setCell ⟨g, j, none⟩ v) := But.set _ _ (.inl rfl)
theorem Bw.kg {W W' : World} {a : Option Addr} {n c g : Nat} {ps : List Nat} (h : Bw W a n c ps) (hk : Kg g W W') (hg : ∀ x, a = some x → x.block ≠ g) : Bw W' a n c ps := by
  obtain ⟨h1, h2, h3, h4, h5⟩ := h
  refine ⟨h1, h2, h3, h4, ?_⟩
  rcases h5 with h5 | ⟨b, o, rfl, h6, h7⟩
  · exact .inl h5
  · exact .inr ⟨b, o, rfl, Nat.lt_of_lt_of_le h6 hk.size, fun j hj => (hk.cell h6 (hg _ rfl) (hg _ rfl)).trans (h7 j hj)⟩
theorem At2T.set0 {W : World} {g : Nat} {x y u : Value} {T : TypeId} (h : At2T W g x y T) : At2T (W.setCell ⟨g, 0, none⟩ u) g u y T := set_cell1 h
theorem At2T.set1 {W : World} {g : Nat} {x y u : Value} {T : TypeId} (h : At2T W g x y T) : At2T (W.setCell ⟨g, 1, none⟩ u) g x u T := set_cell1 h
theorem rok_any (g : Nat) (x : Value) (e : Int) (t : Bool) (W : World) (h : At2T W g x (.int .i64 e) 91) (ht : Hid ((e == 0) = t)) :
    Calls Tryz.prog 52 #[.pointer (some ⟨g, 0, none⟩)] W fun r W' => r = .returned (.bool t) ∧ W' = W := by
  have q0 := h.at.1
  have q1 := h.at.2.1
  clear h
  go_enter Tryz.func52, Tryz.ntmps52
  go_wp2_with fail
  go_ret
  exact ⟨ret_bool ht.out, rfl⟩
theorem rerr_any (g : Nat) (x : Value) (e : Int) (W : World) (h : At2T W g x (.int .i64 e) 91) :
    Calls Tryz.prog 58 #[.pointer (some ⟨g, 0, none⟩)] W fun r W' => r = .returned (.int .i64 e) ∧ W' = W := by
  have q0 := h.at.1
  have q1 := h.at.2.1
  clear h
  go_enter Tryz.func58, Tryz.ntmps58
  go_wp2_with fail
  go_ret
  exact ⟨rfl, rfl⟩
theorem refuse_no (g : Nat) (e : Int) (W : World) :
    Calls Tryz.prog 53 #[.pointer (some ⟨g, 0, none⟩), .bool false, .int .i64 e] W fun r W' => r = .returned (.bool true) ∧ W' = W := by
  go_enter Tryz.func53, Tryz.ntmps53
  go_wp2_with fail
  go_ret
  exact ⟨rfl, rfl⟩
theorem fail_any (g : Nat) (x : Value) (e : Int) (W : World) (h : At2T W g x (.int .i64 0) 91) :
    Calls Tryz.prog 70 #[.pointer (some ⟨g, 0, none⟩), .int .i64 e] W fun r W' => (∃ v, r = .returned v) ∧ W' = W.setCell ⟨g, 1, none⟩ (.int .i64 e) := by
  have q1 := h.at.2.1
  have q2 := h.frz 1
  have HO := Lib.hid (rok_any g x 0 true W h rfl)
  clear h
  go_enter Tryz.func70, Tryz.ntmps70
  go_wp2_with (go_at_call 52; refine HO.out.mono ?_; rintro e w1 ⟨rfl, rfl⟩)
  go_end0
  exact ⟨⟨_, rfl⟩, rfl⟩
theorem refuse_yes (g : Nat) (x : Value) (e : Int) (W : World) (h : At2T W g x (.int .i64 0) 91) :
    Calls Tryz.prog 53 #[.pointer (some ⟨g, 0, none⟩), .bool true, .int .i64 e] W fun r W' => r = .returned (.bool false) ∧ At2T W' g x (.int .i64 e) 91 ∧ Kg g W W' := by
  have HF := Lib.hid (fail_any g x e W h)
  have H := Lib.hid h
  clear h
  go_enter Tryz.func53, Tryz.ntmps53
  go_wp2_with (go_at_call 70; refine HF.out.mono ?_; rintro e1 w1 ⟨⟨r, rfl⟩, hw⟩; have HW1 := Lib.hid hw; clear hw)
  go_ret
  exact ⟨rfl, by rw [HW1.out]; exact H.out.set1, by rw [HW1.out]; exact Kg.set _ _ _ _⟩
theorem refuse_f (g : Nat) (t : Bool) (e : Int) (W : World) (ht : t = false) :
    Calls Tryz.prog 53 #[.pointer (some ⟨g, 0, none⟩), .bool t, .int .i64 e] W fun r W' => r = .returned (.bool true) ∧ W' = W := by
  subst ht; exact refuse_no g e W
theorem refuse_t (g : Nat) (t : Bool) (x : Value) (e : Int) (W : World) (h : At2T W g x (.int .i64 0) 91) (ht : t = true) :
    Calls Tryz.prog 53 #[.pointer (some ⟨g, 0, none⟩), .bool t, .int .i64 e] W fun r W' => r = .returned (.bool false) ∧ At2T W' g x (.int .i64 e) 91 ∧ Kg g W W' := by
  subst ht; exact refuse_yes g x e W h
theorem u8_and127 (b : Nat) (hb : b < 256) : bits BinOp.and IntKind.u8 (b : Int) 127 = ((b % 128 : Nat) : Int) := by
  have e : ∀ b : Nat, b < 256 → bits BinOp.and IntKind.u8 (b : Int) 127 = ((b % 128 : Nat) : Int) := by decide +kernel
  exact e b hb
theorem seven_or (v r : Nat) (hv : v < 144115188075855872) (hr : r < 128) : bits BinOp.or IntKind.u64 ((v : Int) * 128) (r : Int) = ((v * 128 + r : Nat) : Int) := by
  have h1 := u64_or_nat (v * 128) r (by omega) (by omega)
  have h2 : v * 128 ||| r = v * 128 + r := by
    have := (Nat.two_pow_add_eq_or_of_lt (i := 7) (b := r) hr v).symm
    rw [show v * 128 = 2 ^ 7 * v by rw [Nat.mul_comm]]
    exact this
  rw [h2] at h1
  rw [← h1, Int.natCast_mul]
  rfl
theorem or_zero (r : Nat) (hr : r < 128) : bits BinOp.or IntKind.u64 0 (r : Int) = (r : Int) := by
  have h := seven_or 0 r (by omega) hr
  simpa using h
theorem Bw.at0 {W : World} {a : Option Addr} {n c k : Nat} {ps : List Nat} (h : Bw W a n c ps) (hk : k < n) : ∃ b o, a = some ⟨b, o, none⟩ ∧ b < W.heap.size ∧ W.cell? ⟨b, o + k, none⟩ = some (.int .u8 (wd ps k : Nat)) ∧ wd ps k < 256 ∧ ps[k]? = some (wd ps k) := by
  obtain ⟨h1, h2, h3, h4, h5⟩ := h
  have hkl : k < ps.length := by omega
  rcases h5 with h5 | ⟨b, o, rfl, h6, h7⟩
  · omega
  · refine ⟨b, o, rfl, h6, h7 k hk, ?_, ?_⟩
    · rw [wd_get hkl]; exact h4 _ (List.getElem_mem _)
    · rw [wd_get hkl]; exact List.getElem?_eq_getElem hkl
theorem Bw.pre {W : World} {a : Option Addr} {n c : Nat} {ps : List Nat} (h : Bw W a n c ps) {k : Nat} (hk : k ≤ n) : Bw W a k c (ps.take k) := by
  obtain ⟨h1, h2, h3, h4, h5⟩ := h
  refine ⟨by rw [List.length_take]; omega, by omega, h3, fun x hx => h4 x (List.mem_of_mem_take hx), ?_⟩
  rcases h5 with h5 | ⟨b, o, rfl, h6, h7⟩
  · exact .inl (by omega)
  · refine .inr ⟨b, o, rfl, h6, fun j hj => ?_⟩
    rw [h7 j (by omega)]
    unfold wd
    rw [List.getD_eq_getElem?_getD, List.getD_eq_getElem?_getD, List.getElem?_take_of_lt hj]
theorem Bw.suf {W : World} {b o n c : Nat} {ps : List Nat} (h : Bw W (some ⟨b, o, none⟩) n c ps) {k : Nat} (hk : k ≤ n) : Bw W (some ⟨b, o + k, none⟩) (n - k) (c - k) (ps.drop k) := by
  obtain ⟨h1, h2, h3, h4, h5⟩ := h
  refine ⟨by rw [List.length_drop]; omega, by omega, by omega, fun x hx => h4 x (List.mem_of_mem_drop hx), ?_⟩
  rcases h5 with h5 | ⟨b', o', e, h6, h7⟩
  · exact .inl (by omega)
  · cases e
    refine .inr ⟨b, o + k, rfl, h6, fun j hj => ?_⟩
    rw [Nat.add_assoc, h7 (k + j) (by omega)]
    unfold wd
    rw [List.getD_eq_getElem?_getD, List.getD_eq_getElem?_getD, List.getElem?_drop]
theorem take_end {g bb oo n c k : Nat} {ps : List Nat} {e : Int} {W w1 : World} {o' : Option Addr} {v : Value} (H : Rd W g (some ⟨bb, oo, none⟩) n c ps e) (hk : k ≤ n) (HR : w1.ownsRow W.heap.size 5 1 v (ps.take k).length ((ps.take k).map u8v)) (HB : Below W.heap.size W w1) (hle : (ps.take k).length = k)
    (hs : ∃ o2, o' = some ⟨bb, o2, none⟩ ∧ Bw W o' (n - k) (c - k) (ps.drop k)) :
    ∃ b m, v = .slice b k m ∧ Bw (w1.setCell ⟨g, 0, none⟩ (.slice o' (n - k) (c - k))) b k m (ps.take k) ∧ (∃ o2, o' = some ⟨bb, o2, none⟩ ∧ Rd (w1.setCell ⟨g, 0, none⟩ (.slice o' (n - k) (c - k))) g o' (n - k) (c - k) (ps.drop k) e) ∧ Kg g W (w1.setCell ⟨g, 0, none⟩ (.slice o' (n - k) (c - k))) := by
  obtain ⟨b, m, rfl, hbw, -, hx⟩ := row_bw HR (fun x hx => H.2.1.2.2.2.1 x (List.mem_of_mem_take hx))
  rw [hle] at hbw ⊢
  obtain ⟨o2, rfl, hsf⟩ := hs
  have hne : bb ≠ g := H.2.2.2 _ rfl
  refine ⟨b, m, rfl, hbw.kg (Kg.set _ _ _ _) (fun x e => by have := (hx x e).1; have := H.1.lt; omega), ⟨o2, rfl, (H.1.below HB).set0, (hsf.below HB).kg (Kg.set _ _ _ _) (fun x e => by cases e; exact hne), (fun e => by cases e), fun x e => by cases e; exact hne⟩, (Kg.of HB).tr (Kg.set _ _ _ _)⟩
theorem take_any (g bb oo n c k : Nat) (ps : List Nat) (e : Int) (W : World) (h : Rd W g (some ⟨bb, oo, none⟩) n c ps e) (hk : k ≤ n) (hn : n ≤ 1000) :
    Calls Tryz.prog 55 #[.pointer (some ⟨g, 0, none⟩), .int .i64 (k : Nat)] W fun r W' => ∃ b m o', r = .returned (.slice b k m) ∧ Bw W' b k m (ps.take k) ∧ Rd W' g (some ⟨bb, o', none⟩) (n - k) (c - k) (ps.drop k) e ∧ Kg g W W' := by
  have q0 := h.1.at.1
  have q1 := h.1.at.2.1
  have q2 := h.1.frz 0
  have hnc := h.2.1.2.1
  have hcm := h.2.1.2.2.1
  have hlen : (ps.take k).length = k := by have := h.2.1.1; rw [List.length_take]; omega
  have HC := Lib.hid (cloneB_any (some ⟨bb, oo, none⟩) k c (ps.take k) W (h.2.1.pre hk) (fun e => by cases e) (by omega))
  have H := Lib.hid h
  have HLE := Lib.hid hlen
  have hkc : k ≤ c := by omega
  have HKN := Lib.hid hk
  clear h hlen
  have HSF := Lib.hid (H.out.2.1.suf hk)
  by_cases hck : c = k
  · subst hck
    obtain rfl : n = c := by omega
    go_enter Tryz.func55, Tryz.ntmps55
    go_wp2_with (go_at_call 50; refine HC.out.mono ?_; rintro r w1 ⟨v, rfl, hrow, hb⟩; have HR := Lib.hid hrow; have HB := Lib.hid hb; replace q0 := (hb.cell (p := ⟨g, 0, none⟩) H.out.1.lt).trans q0; replace q1 := (hb.cell (p := ⟨g, 1, none⟩) H.out.1.lt).trans q1; replace q2 := (H.out.1.below hb).frz 0; clear hrow hb)
    go_ret
    have hs2 : Bw W (some ⟨bb, oo, none⟩) (n - n) (n - n) (ps.drop n) := by
      obtain ⟨h1, h2, h3, h4, h5⟩ := HSF.out
      exact ⟨h1, h2, h3, h4, .inl (Nat.sub_self n)⟩
    have key := take_end H.out HKN.out HR.out HB.out HLE.out ⟨oo, rfl, hs2⟩
    simp only [Nat.sub_self] at key ⊢
    obtain ⟨b, m, rfl, h1, ⟨o2, e2, h2⟩, h3⟩ := key
    cases e2
    exact ⟨b, m, _, rfl, h1, h2, h3⟩
  · go_enter Tryz.func55, Tryz.ntmps55
    go_wp2_with (go_at_call 50; refine HC.out.mono ?_; rintro r w1 ⟨v, rfl, hrow, hb⟩; have HR := Lib.hid hrow; have HB := Lib.hid hb; replace q0 := (hb.cell (p := ⟨g, 0, none⟩) H.out.1.lt).trans q0; replace q1 := (hb.cell (p := ⟨g, 1, none⟩) H.out.1.lt).trans q1; replace q2 := (H.out.1.below hb).frz 0; clear hrow hb)
    go_ret
    obtain ⟨b, m, rfl, h1, ⟨o2, e2, h2⟩, h3⟩ := take_end H.out HKN.out HR.out HB.out HLE.out ⟨_, rfl, HSF.out⟩
    exact ⟨b, m, _, rfl, h1, h2, h3⟩
/-- A new reader, in a block of its own. -/
theorem reader_new (a : Option Addr) (n c : Nat) (ps : List Nat) (W : World) (h : Bw W a n c ps) (hz : Nz a n c) (hn : n ≤ 1000) :
    Calls Tryz.prog 19 #[.slice a n c] W fun r W' => ∃ g a' c', r = .returned (.pointer (some ⟨g, 0, none⟩)) ∧ W.heap.size ≤ g ∧ Rd W' g a' n c' ps 0 ∧ Below W.heap.size W W' := by
  have HC := Lib.hid (cloneB_any a n c ps W h hz (by omega))
  have HL := Lib.hid h.1
  have HB8 := Lib.hid h.2.2.2.1
  clear h hz
  go_enter Tryz.func19, Tryz.ntmps19
  go_wp2_with (go_at_call 50; refine HC.out.mono ?_; rintro r w1 ⟨v, rfl, hrow, hb⟩; obtain ⟨b, m, rfl, hbw, hnz, hx⟩ := row_bw hrow HB8.out; have HBW := Lib.hid hbw; have HNZ := Lib.hid hnz; have HX := Lib.hid hx; have HB := Lib.hid hb; clear hrow hbw hnz hx hb)
  go_ret
  have hl := HL.out
  have hbw := HBW.out
  have hnz := HNZ.out
  rw [hl] at hbw hnz
  rw [hl]
  have hbx : Below w1.heap.size w1 (w1.alloc (.cells #[.slice b n m, .int .i64 0] 91)) := (Below.refl _ _).alloc (Nat.le_refl _) _
  exact ⟨w1.heap.size, b, m, rfl, HB.out.size, ⟨At2T.new _ _ _ _, hbw.below hbx, hnz, fun x e => by have := (HX.out x e).2; omega⟩, HB.out.trans (hbx.mono HB.out.size)⟩
theorem rend_ok (g : Nat) (a : Option Addr) (n c : Nat) (t : Bool) (W : World) (h : At2T W g (.slice a n c) (.int .i64 0) 91) (ht : Hid (decide (0 < n) = t)) :
    Calls Tryz.prog 25 #[.pointer (some ⟨g, 0, none⟩)] W fun r W' => r = .returned (.int .i64 (if t then 6 else 0)) ∧ W' = W := by
  have q0 := h.at.1
  have HO := Lib.hid (rok_any g (.slice a n c) 0 true W h rfl)
  have HE := Lib.hid (rerr_any g (.slice a n c) 0 W h)
  clear h
  by_cases hn : 0 < n
  · obtain rfl : t = true := by rw [← ht.out]; simpa using hn
    have hn2 : (0 : Int) < (n : Int) := by omega
    go_enter Tryz.func25, Tryz.ntmps25
    go_wp2_with (first
      | (go_at_call 52; refine HO.out.mono ?_; rintro e w1 ⟨rfl, rfl⟩)
      | (go_at_call 58; refine HE.out.mono ?_; rintro e w1 ⟨rfl, rfl⟩))
    go_ret
    exact ⟨rfl, rfl⟩
  · obtain rfl : t = false := by rw [← ht.out]; simpa using hn
    obtain rfl : n = 0 := by omega
    go_enter Tryz.func25, Tryz.ntmps25
    go_wp2_with (first
      | (go_at_call 52; refine HO.out.mono ?_; rintro e w1 ⟨rfl, rfl⟩)
      | (go_at_call 58; refine HE.out.mono ?_; rintro e w1 ⟨rfl, rfl⟩))
    go_ret
    exact ⟨rfl, rfl⟩
theorem Rd.below {W W' : World} {g : Nat} {a : Option Addr} {n c : Nat} {ps : List Nat} {e : Int} (h : Rd W g a n c ps e) (hb : Below W.heap.size W W') : Rd W' g a n c ps e := ⟨h.1.below hb, h.2.1.below hb, h.2.2.1, h.2.2.2⟩
end Go.Proofs.YtfdododighjjpaaGreatDoor.Wi
