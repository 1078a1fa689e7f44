/- Several of the texts below, joined: CuBa CuBb CuBc. -/
import Derived.Test.YtadomogbakcokaaGreatDoorQgf
import Derived.Test.YtadomogbakcokaaGreatDoorQgl
section
/- Contracts: package wire's writer, for byte strings of fewer than 128 bytes. -/
namespace Go.Proofs.YtadomogbakcokaaGreatDoor
open Go.RowKit Go.PlainAid Go.Shelf
set_option linter.unusedVariables false
set_option linter.unusedSimpArgs false
set_option maxHeartbeats 4000000

theorem reverse1_any (b o c : Nat) (w : World) :
    Calls Tryz.prog 167 #[.slice (some ⟨b, o, none⟩) 1 c] w fun e w' => (∃ v, e = .returned v) ∧ w' = w := by
  go_enter Tryz.func167, Tryz.ntmps167
  go_wp2_with fail
  go_loopw [2, 3] (fun v2 v3 wr => v2 = .int .i64 0 ∧ v3 = .int .i64 0 ∧ Hid (wr = w)) (fun _ _ _ => 0)
  case atStart => exact ⟨rfl, rfl, rfl⟩
  case round =>
    obtain ⟨rfl, rfl, hw⟩ := hrel
    go_wp2_with fail
    go_end0
    exact ⟨⟨_, rfl⟩, hw.out⟩
theorem and127 (v : Nat) (hv : v < 128) : bits BinOp.and IntKind.u64 (v : Int) 127 = (v : Int) := by
  have h := bits_and_u64_nat v 127 (by omega) (by decide)
  refine h.trans ?_
  rw [show (127 : Nat) = 2 ^ 7 - 1 from rfl, Nat.and_two_pow_sub_one_eq_mod, Nat.mod_eq_of_lt hv]
/-- The bytes of a number below 128: one byte in a block of its own. -/
theorem groups1_any (v : Nat) (hv : v < 128) (w : World) :
    Calls Tryz.prog 159 #[.int .u64 v] w fun e w' => e = .returned (.slice (some ⟨w.heap.size, 0, none⟩) 1 1) ∧ w'.cell? ⟨w.heap.size, 0, none⟩ = some (.int .u8 v) ∧ Below w.heap.size w w' ∧ w.heap.size < w'.heap.size := by
  have h1 := and127 v hv
  have h2 : (v : Int) / 128 = 0 := by omega
  have h3 : (v : Int) % 256 = v := by omega
  have HR := Lib.hid (fun c w' => reverse1_any w.heap.size 0 c w')
  go_enter Tryz.func159, Tryz.ntmps159
  go_wp2_with fail
  go_loopw [0, 3] (fun v0 v3 wr => v0 = .int .u64 0 ∧ v3 = .slice (some ⟨w.heap.size, 0, none⟩) 1 1 ∧ Hid (wr = w.alloc (.cells #[.int .u8 v] 5))) (fun _ _ _ => 0)
  case atStart => exact ⟨rfl, rfl, rfl⟩
  case round =>
    obtain ⟨rfl, rfl, hw⟩ := hrel
    go_wp2_with (go_at_call 167; refine (HR.out _ _).mono ?_; rintro e w2 ⟨⟨v2, rfl⟩, rfl⟩)
    go_ret
    refine ⟨rfl, ?_, ?_, ?_⟩
    · rw [hw.out]; simp
    · rw [hw.out]; exact (Below.refl _ _).alloc (Nat.le_refl _) _
    · rw [hw.out]; simp
end Go.Proofs.YtadomogbakcokaaGreatDoor
end

section
/- Contracts: package wire's writer; the bytes of a cube. -/
namespace Go.Proofs.YtadomogbakcokaaGreatDoor
open Go.RowKit Go.PlainAid Go.Shelf
set_option linter.unusedVariables false
set_option linter.unusedSimpArgs false
set_option maxHeartbeats 4000000

/-- The writer at block g holds the bytes bs in a row v of its own (blocks from N on). -/
def Wr (N g : Nat) (v : Value) (bs : List Nat) (W : World) : Prop := Boxed W g 150 v ∧ W.ownsRow N 5 1 v bs.length (bs.map u8v) ∧ g < N ∧ N ≤ W.heap.size
/-- All blocks but g and the row's are as they were. -/
structure Kp (g : Nat) (v : Value) (W W' : World) : Prop where
  os : W'.os = W.os
  tape : W'.tape = W.tape
  output : W'.output = W.output
  size : W.heap.size ≤ W'.heap.size
  block : ∀ k, k < W.heap.size → k ≠ g → some k ≠ v.ownBlock → W'.heap[k]? = W.heap[k]?
theorem Wr.below {N g : Nat} {v : Value} {bs : List Nat} {W W' : World} (h : Wr N g v bs W) (hb : Below W.heap.size W W') : Wr N g v bs W' := by
  obtain ⟨h1, h2, h3, h4⟩ := h
  exact ⟨(hb.block g (by omega)).trans h1, owns_below h2 (Nat.le_refl _) hb, h3, Nat.le_trans h4 hb.size⟩
theorem Kp.but {N g : Nat} {v : Value} {bs : List Nat} {W W' : World} (h : Kp g v W W') (hw : Wr N g v bs W) : But N g g W W' :=
  ⟨h.os, h.tape, h.output, h.size, fun k hk h1 _ => h.block k (by have := hw.2.2.2; omega) h1 (fun e => by have := (hw.2.1.lt k e.symm).1; omega)⟩
theorem Kp.pre {g : Nat} {v : Value} {W W1 W' : World} (hb : Below W.heap.size W W1) (h : Kp g v W1 W') : Kp g v W W' :=
  ⟨h.os.trans hb.os, h.tape.trans hb.tape, h.output.trans hb.output, Nat.le_trans hb.size h.size, fun k hk h1 h2 => (h.block k (Nat.lt_of_lt_of_le hk hb.size) h1 h2).trans (hb.block k hk)⟩
theorem rowB_slice {W : World} {N k : Nat} {v : Value} {xs : List Value} (h : W.ownsRow N 5 1 v k xs) : ∃ a l, v = .slice a k l := by
  rcases h.2 with ⟨rfl, rfl, _⟩ | ⟨q, cap, cur, rfl, _⟩
  · exact ⟨_, _, rfl⟩
  · exact ⟨_, _, rfl⟩
theorem Bw.news {W : World} {ad : Addr} {n c : Nat} {ps : List Nat} (h : Bw W (some ad) n c ps) : ∀ j u, (ps.map u8v)[j]? = some u → W.cell? (ad.add j) = some u := by
  intro j u hu
  obtain ⟨h1, h2, h3, h4, h5⟩ := h
  rw [List.getElem?_map] at hu
  cases hj : ps[j]? with
  | none => rw [hj] at hu; cases hu
  | some z =>
    rw [hj] at hu
    have hlt : j < ps.length := (List.getElem?_eq_some_iff.1 hj).1
    rcases h5 with h5 | ⟨b, o, h5, h6, h7⟩
    · omega
    · cases h5
      rw [Addr.add_lit, h7 j (by omega), ← Option.some.inj hu]
      unfold wd u8v
      rw [List.getD_eq_getElem?_getD, hj]; rfl
/-- The slice is nil only where the writer's law for nil serves. -/
def Nz (b : Option Addr) (n c : Nat) : Prop := b = none → n = 0 ∧ c = 0
set_option maxRecDepth 20000 in
theorem raw_any (N g : Nat) (v : Value) (bs ps : List Nat) (b : Option Addr) (n c : Nat) (W : World) (h : Wr N g v bs W) (hp : Bw W b n c ps) (hc : Nz b n c) (h1 : bs.length ≤ 1000000) (h2 : n ≤ 1000000) :
    Calls Tryz.prog 141 #[.pointer (some ⟨g, 0, none⟩), .slice b n c] W fun e W' => (∃ r, e = .returned r) ∧ ∃ v', Wr N g v' (bs ++ ps) W' ∧ Kp g v W W' := by
  obtain ⟨i0, hi, hz0, hz1, hz2⟩ := info_parts infoByte
  have HP := Lib.hid hp
  obtain ⟨hbx, hown, hgN, hNz⟩ := h
  obtain ⟨p1, p2, p3, p4, p5⟩ := hp
  have z0 := hbx.cell
  have z1 := hbx.frozen
  obtain ⟨a, d, rfl⟩ := rowB_slice hown
  cases b with
  | none =>
    obtain ⟨rfl, rfl⟩ := hc rfl
    obtain rfl : ps = [] := List.eq_nil_of_length_eq_zero p1
    have HO := Lib.hid hown
    clear p4 p5 hc
    go_enter Tryz.func141, Tryz.ntmps141
    go_wp2_with (at_builtin; refine wpList_append_own_none rfl (.tmp 10) (.tmp 11) 87 rfl N 5 i0 1 Tryz.underlying87 hi _ _ _ rfl HO.out rfl ?_)
    go_end0
    refine ⟨⟨_, rfl⟩, .slice a bs.length d, ⟨hbx.set _, by rw [List.append_nil]; exact owns_set hown (fun b hb e => by have := (hown.lt b hb).1; dsimp only at e; omega) _, hgN, by simpa using hNz⟩, rfl, rfl, rfl, by simp, fun k hk h1 _ => Below.heap_setCell _ _ _ k (by dsimp only; omega)⟩
  | some ad =>
    have HO := Lib.hid hown
    have hl1 : (ps.map u8v).length = n * 1 := by simp [p1]
    have ho1 : ∀ u ∈ ps.map u8v, u.oneCell' = true := by
      intro u hu
      rw [List.mem_map] at hu
      obtain ⟨z, _, rfl⟩ := hu; rfl
    have hm1 : bs.length + n ≤ maxLen := by unfold maxLen; omega
    have hm2 : (bs.length + n) * 1 ≤ 140737488355328 := by omega
    have HL := Lib.hid p1
    clear p4 p5 p1 hc hown
    go_enter Tryz.func141, Tryz.ntmps141
    go_wp2_with (at_builtin; refine wpList_append_own _ rfl (.tmp 10) (.tmp 11) 87 rfl N 5 i0 (.int .u8 0) 1 1 Tryz.underlying87 hi hz0 hz1 hz2 rfl (by decide) _ _ _ rfl HO.out ad n c (ps.map u8v) rfl hl1 HP.out.news ho1 hm1 hm2 hNz ?_; intro v' w' h3 h4 _; obtain ⟨a', d', rfl⟩ := rowB_slice h3; have hbx' : Boxed w' g _ _ := (h4.block g (by omega) (fun e => by have := (HO.out.lt g e.symm).1; omega)).trans hbx; have y0 := hbx'.cell; have y1 := hbx'.frozen; have H3 := Lib.hid h3; have H4 := Lib.hid h4; clear h3 h4 z0 z1)
    go_end0
    have hz := H4.out.size
    refine ⟨⟨_, rfl⟩, _, ⟨hbx'.set _, ?_, hgN, by simp; omega⟩, H4.out.os, H4.out.tape, H4.out.output, by simpa using hz, fun k hk h1 h2 => (Below.heap_setCell _ _ _ k (by dsimp only; omega)).trans (H4.out.block k hk h2)⟩
    rw [List.length_append, List.map_append, HL.out]
    exact owns_set H3.out (fun b hb e => by have := (H3.out.lt b hb).1; dsimp only at e; omega) _
theorem bw_one {W : World} {g k : Nat} (hg : g < W.heap.size) (hk : k < 256) (hc : W.cell? ⟨g, 0, none⟩ = some (.int .u8 (k : Nat))) : Bw W (some ⟨g, 0, none⟩) 1 1 [k] :=
  ⟨rfl, Nat.le_refl _, by omega, by intro x hx; simp at hx; omega, .inr ⟨g, 0, rfl, hg, fun j hj => by
    obtain rfl : j = 0 := Nat.lt_one_iff.1 hj
    exact hc⟩⟩
theorem uint_any (N g : Nat) (v : Value) (bs : List Nat) (k : Nat) (hk : k < 128) (W : World) (h : Wr N g v bs W) (h1 : bs.length ≤ 1000000) :
    Calls Tryz.prog 140 #[.pointer (some ⟨g, 0, none⟩), .int .u64 (k : Nat)] W fun e W' => (∃ r, e = .returned r) ∧ ∃ v', Wr N g v' (bs ++ [k]) W' ∧ Kp g v W W' := by
  have HG := Lib.hid (groups1_any k hk W)
  have HR := Lib.hid (fun W1 (hb : Below W.heap.size W W1) (hz : W.heap.size < W1.heap.size) hc => raw_any N g v bs [k] (some ⟨W.heap.size, 0, none⟩) 1 1 W1 (h.below hb) (bw_one (W := W1) hz (by omega) hc) (fun e => by cases e) h1 (by omega))
  clear h
  go_enter Tryz.func140, Tryz.ntmps140
  go_wp2_with (first
    | (go_at_call 159; refine HG.out.mono ?_; rintro e w1 ⟨rfl, hc, hb, hz⟩; have HB := Lib.hid hb; have HC := Lib.hid hc; clear hb hc)
    | (go_at_call 141; refine (HR.out _ HB.out hz HC.out).mono ?_; rintro e w2 ⟨⟨r, rfl⟩, v', hw, hk⟩; have HW := Lib.hid hw; have HK := Lib.hid hk; clear hw hk))
  go_end0
  exact ⟨⟨_, rfl⟩, v', HW.out, HK.out.pre HB.out⟩
theorem Bw.kp {W W' : World} {b : Option Addr} {n c g : Nat} {v : Value} {ps : List Nat} (h : Bw W b n c ps) (hk : Kp g v W W') (hn : ∀ x, b = some x → x.block ≠ g ∧ some x.block ≠ v.ownBlock) : Bw W' b n c ps := by
  obtain ⟨h1, h2, h3, h4, h5⟩ := h
  refine ⟨h1, h2, h3, h4, ?_⟩
  rcases h5 with h5 | ⟨b', o, rfl, h6, h7⟩
  · exact .inl h5
  · obtain ⟨n1, n2⟩ := hn _ rfl
    have hb := hk.block b' h6 n1 n2
    refine .inr ⟨b', o, rfl, Nat.lt_of_lt_of_le h6 hk.size, fun j hj => ?_⟩
    have : W'.cell? ⟨b', o + j, none⟩ = W.cell? ⟨b', o + j, none⟩ := by unfold World.cell?; rw [hb]
    rw [this]; exact h7 j hj
theorem But.tr {B g : Nat} {a b c : World} (h : But B g g a b) (k : But B g g b c) : But B g g a c := h.trans k
theorem wbytes_any (N g : Nat) (v : Value) (bs ps : List Nat) (b : Option Addr) (n c : Nat) (W : World) (h : Wr N g v bs W) (hp : Bw W b n c ps) (hc : Nz b n c) (hn : n < 128) (h1 : bs.length ≤ 100000) (hne : ∀ x, b = some x → x.block ≠ g ∧ some x.block ≠ v.ownBlock) :
    Calls Tryz.prog 114 #[.pointer (some ⟨g, 0, none⟩), .slice b n c] W fun e W' => (∃ r, e = .returned r) ∧ ∃ v', Wr N g v' (bs ++ n :: ps) W' ∧ But N g g W W' := by
  have HU := Lib.hid (uint_any N g v bs n hn W h (by omega))
  have HR := Lib.hid (fun W1 v1 (hw : Wr N g v1 (bs ++ [n]) W1) (hk : Kp g v W W1) => raw_any N g v1 (bs ++ [n]) ps b n c W1 hw (hp.kp hk hne) hc (by simp; omega) (by omega))
  have H := Lib.hid h
  clear h hp hne hc
  go_enter Tryz.func114, Tryz.ntmps114
  go_wp2_with (first
    | (go_at_call 140; refine HU.out.mono ?_; rintro e w1 ⟨⟨r, rfl⟩, v1, hw, hk⟩; have HW := Lib.hid hw; have HK := Lib.hid hk; clear hw hk)
    | (go_at_call 141; refine (HR.out _ _ HW.out HK.out).mono ?_; rintro e w2 ⟨⟨r, rfl⟩, v', hw, hk⟩; have HW2 := Lib.hid hw; have HK2 := Lib.hid hk; clear hw hk))
  go_end0
  exact ⟨⟨_, rfl⟩, v', by have := HW2.out; rwa [List.append_assoc] at this, (HK.out.but H.out).tr (HK2.out.but HW.out)⟩
theorem BytesOf.lt {bs l : List Nat} (h : BytesOf bs l) : ∀ x ∈ bs, x < 256 := by
  intro x hx
  obtain ⟨k, hk, rfl⟩ := List.getElem_of_mem hx
  exact (h.2.2 k hk).1
theorem row_bw {W : World} {N : Nat} {v : Value} {ps : List Nat} (h : W.ownsRow N 5 1 v ps.length (ps.map u8v)) (hb : ∀ x ∈ ps, x < 256) : ∃ b c, v = .slice b ps.length c ∧ Bw W b ps.length c ps ∧ Nz b ps.length c ∧ ∀ x, b = some x → N ≤ x.block ∧ x.block < W.heap.size := by
  have hlt := fun b hb => h.lt b hb
  obtain ⟨b, c, rfl, hw⟩ := RowY.bw h hb
  refine ⟨b, c, rfl, hw, fun e => ?_, fun x e => ?_⟩
  · subst e
    rcases h.2 with ⟨e, h0⟩ | ⟨q, cap, cur, e, _⟩
    · injection e with e1 e2 e3; exact ⟨e2, e3⟩
    · injection e with e1; cases e1
  · subst e
    exact hlt x.block rfl
theorem wset_any (N g : Nat) (v : Value) (bs qs l : List Nat) (a : Option Addr) (n cap : Nat) (W : World) (h : Wr N g v bs W) (hs : Bs W a n cap l) (hq : BytesOf qs l) (hq8 : qs.length < 128) (h1 : bs.length ≤ 100000) :
    Calls Tryz.prog 88 #[.pointer (some ⟨g, 0, none⟩), .agg #[.slice a n cap]] W fun e W' => (∃ r, e = .returned r) ∧ ∃ v', Wr N g v' (bs ++ qs.length :: qs) W' ∧ But N g g W W' := by
  have hb0 : Below W.heap.size W (W.alloc (.cells #[.slice a n cap] 32)) := (Below.refl _ _).alloc (Nat.le_refl _) _
  have HB := Lib.hid (bytes_any a n cap l _ (hs.below hb0))
  have HW := Lib.hid (fun W1 b c (hb : Below (W.alloc (.cells #[.slice a n cap] 32)).heap.size (W.alloc (.cells #[.slice a n cap] 32)) W1) (hp : Bw W1 b qs.length c qs) (hc : Nz b qs.length c) (hx : ∀ x, b = some x → (W.alloc (.cells #[.slice a n cap] 32)).heap.size ≤ x.block ∧ x.block < W1.heap.size) =>
    wbytes_any N g v bs qs b qs.length c W1 (h.below (bel1 hb)) hp hc hq8 h1 (fun x e => by
      have h2 := (hx x e).1
      rw [World.size_alloc] at h2
      refine ⟨by have := h.2.2.1; have := h.2.2.2; omega, fun e2 => ?_⟩
      have := (h.2.1.lt x.block e2.symm).2
      omega))
  have HN := h.2.2.2
  have HQ := Lib.hid hq
  have hcell := (new1 W (.slice a n cap) 32).1
  clear h hs hb0 hq
  go_enter Tryz.func88, Tryz.ntmps88
  go_wp2_with (first
    | (go_at_call 115; refine HB.out.mono ?_; rintro e w1 ⟨bs1, v1, rfl, hbs, hrow, hb⟩; obtain rfl := hbs.uniq HQ.out; obtain ⟨b, c, rfl, hbw, hnz, hx⟩ := row_bw hrow hbs.lt; have HC := Lib.hid (HW.out _ _ _ hb hbw hnz hx); have HB1 := Lib.hid (bel1 hb); clear hb hbw hnz hx hrow hbs)
    | (go_at_call 114; refine HC.out.mono ?_; rintro e w2 ⟨⟨r, rfl⟩, v', hw, hk⟩; have HW2 := Lib.hid hw; have HK2 := Lib.hid hk; clear hw hk))
  go_end0
  exact ⟨⟨_, rfl⟩, v', HW2.out, (But.of (HB1.out.mono HN)).tr HK2.out⟩
end Go.Proofs.YtadomogbakcokaaGreatDoor
end

section
/- Contracts: slices.Clone of bytes, Out of a writer, Bytes of a cube. -/
namespace Go.Proofs.YtadomogbakcokaaGreatDoor
open Go.RowKit Go.PlainAid Go.Shelf
set_option linter.unusedVariables false
set_option linter.unusedSimpArgs false
set_option maxHeartbeats 4000000

theorem cloneB_any (b : Option Addr) (n c : Nat) (ps : List Nat) (w : World) (h : Bw w b n c ps) (hc : Nz b n c) (hn : n ≤ 1000000) :
    Calls Tryz.prog 108 #[.slice b n c] w fun e w' => ∃ v, e = .returned v ∧ w'.ownsRow w.heap.size 5 1 v ps.length (ps.map u8v) ∧ Below w.heap.size w w' := by
  obtain ⟨i0, hi, hz0, hz1, hz2⟩ := info_parts infoByte
  have hnil := fun (w : World) (a : Option Addr) (n c : Nat) => Lib.run_eql_slice_nil (P := Tryz.prog) w 87 5 a n c 0 0 Tryz.underlying87
  cases b with
  | none =>
    obtain ⟨rfl, rfl⟩ := hc rfl
    obtain rfl : ps = [] := List.eq_nil_of_length_eq_zero h.1
    clear h
    go_enter Tryz.func108, Tryz.ntmps108
    go_wp2_with fail
    go_ret
    exact ⟨_, rfl, World.ownsRow_nil _ _ _ _, Below.refl _ _⟩
  | some ad =>
    have hown0 : (w.alloc (.cells #[] 5)).ownsRow w.heap.size 5 1 (.slice (some ⟨w.heap.size, 0, none⟩) 0 0) 0 [] := World.ownsRow_lit w #[] 0 (Nat.le_refl _) (by unfold maxLen; omega) rfl
    have HP : Hid (∀ j u, (ps.map u8v)[j]? = some u → (w.alloc (.cells #[] 5)).cell? (ad.add j) = some u) := (h.below ((Below.refl w.heap.size w).alloc (Nat.le_refl _) _)).news
    have hl1 : (ps.map u8v).length = n * 1 := by simp [h.1]
    have ho1 : ∀ u ∈ ps.map u8v, u.oneCell' = true := by
      intro u hu
      rw [List.mem_map] at hu
      obtain ⟨z, _, rfl⟩ := hu; rfl
    have hm1 : 0 + n ≤ maxLen := by unfold maxLen; omega
    have hm2 : (0 + n) * 1 ≤ 140737488355328 := by omega
    have HL := Lib.hid h.1
    clear h hc
    go_enter Tryz.func108, Tryz.ntmps108
    go_wp2_with (at_builtin; refine wpList_append_own _ rfl (.tmp 5) (.tmp 6) 87 rfl w.heap.size 5 i0 (.int .u8 0) 1 1 Tryz.underlying87 hi hz0 hz1 hz2 rfl (by decide) _ 0 [] rfl hown0 ad n c (ps.map u8v) rfl hl1 HP.out ho1 hm1 hm2 (by simp) ?_)
    intro v' w1 hown' hgrow _
    have hbel : Below w.heap.size w w1 := ((Below.refl _ _).alloc (Nat.le_refl _) _).grown hgrow (by simp) (fun b hb => by cases hb; exact Nat.le_refl _)
    have hown2 : Hid (w1.ownsRow w.heap.size 5 1 v' ps.length (ps.map u8v)) := by
      show World.ownsRow _ _ _ _ _ _ _
      rw [HL.out]; exact hown'
    clear hgrow hown0 hown'
    go_wp2_with fail
    go_ret
    exact ⟨_, rfl, hown2.out, hbel⟩
theorem wr_bw {N g : Nat} {v : Value} {bs : List Nat} {W : World} (h : Wr N g v bs W) (hb : ∀ x ∈ bs, x < 256) : ∃ b c, v = .slice b bs.length c ∧ Bw W b bs.length c bs ∧ Nz b bs.length c := by
  obtain ⟨b, c, h1, h2, h3, _⟩ := row_bw h.2.1 hb
  exact ⟨b, c, h1, h2, h3⟩
theorem wout_any (N g : Nat) (v : Value) (bs : List Nat) (W : World) (h : Wr N g v bs W) (hb : ∀ x ∈ bs, x < 256) (hl : bs.length ≤ 1000000) :
    Calls Tryz.prog 89 #[.pointer (some ⟨g, 0, none⟩)] W fun e w' => ∃ v, e = .returned v ∧ w'.ownsRow W.heap.size 5 1 v bs.length (bs.map u8v) ∧ Below W.heap.size W w' := by
  obtain ⟨b, c, rfl, hw, hn⟩ := wr_bw h hb
  have z0 := h.1.cell
  have HC := Lib.hid (cloneB_any b bs.length c bs W hw hn hl)
  generalize bs.length = n at *
  clear h hw hn hb
  go_enter Tryz.func89, Tryz.ntmps89
  go_wp2_with (go_at_call 108; refine HC.out.mono ?_; rintro e w1 ⟨v1, rfl, hr, hb⟩; have HR := Lib.hid hr; have HB := Lib.hid hb; clear hr hb)
  go_ret
  exact ⟨_, rfl, HR.out, HB.out⟩
theorem writer_new (w : World) : Calls Tryz.prog 87 #[] w fun e w' => e = .returned (.pointer (some ⟨w.heap.size, 0, none⟩)) ∧ w' = w.alloc (.cells #[.slice none 0 0] 150) := by
  go_enter Tryz.func87, Tryz.ntmps87
  go_wp2_with fail
  go_ret
  exact ⟨rfl, rfl⟩
theorem Wr.new (w : World) : Wr (w.heap.size + 1) w.heap.size (.slice none 0 0) [] (w.alloc (.cells #[.slice none 0 0] 150)) :=
  ⟨Boxed.new _ _ _, World.ownsRow_nil _ _ _ _, by omega, by simp⟩
theorem Bs.but {W W' : World} {a : Option Addr} {n cap N g : Nat} {l : List Nat} {w : World} (h : Bs w a n cap l) (hb : Below w.heap.size w W) (hk : But N g g W W') (hN : w.heap.size ≤ g) (hg : g < N) : Bs W' a n cap l :=
  h.below (hb.trans (hk.below (by omega) hN hN))
/-- The bytes of a cube with the sets' bytes p and q. -/
def bytesC (p q : List Nat) : List Nat := (p.length :: p) ++ q.length :: q
def CBytesP (w : World) (bs : List Nat) (e : Ending) (w' : World) : Prop := ∃ v, e = .returned v ∧ w'.ownsRow w.heap.size 5 1 v bs.length (bs.map u8v) ∧ Below w.heap.size w w'
theorem bytesC_lt {p q : List Nat} (hp : ∀ x ∈ p, x < 256) (hq : ∀ x ∈ q, x < 256) (h1 : p.length < 128) (h2 : q.length < 128) : ∀ x ∈ bytesC p q, x < 256 := by
  intro x hx
  unfold bytesC at hx
  simp only [List.mem_append, List.mem_cons] at hx
  rcases hx with (rfl | hx) | rfl | hx
  · omega
  · exact hp x hx
  · omega
  · exact hq x hx
theorem bytesC_any (a b : Option Addr) (n c m d : Nat) (x : Cu) (p q : List Nat) (w : World) (h : Cb w ⟨a, n, c, b, m, d⟩ x) (hp : BytesOf p x.1) (hq : BytesOf q x.2) (h1 : p.length < 128) (h2 : q.length < 128) :
    Calls Tryz.prog 56 #[.agg #[.slice a n c, .slice b m d]] w (CBytesP w (bytesC p q)) := by
  obtain ⟨W, hW⟩ : ∃ W, W = w.alloc (.cells #[.slice a n c, .slice b m d] 34) := ⟨_, rfl⟩
  have hb0 : Below w.heap.size w W := by rw [hW]; exact (Below.refl _ _).alloc (Nat.le_refl _) _
  have hzW : W.heap.size = w.heap.size + 1 := by rw [hW]; simp
  have hT := Lib.hid (fun w' hb => boxC (w := w) (x := .slice a n c) (y := .slice b m d) (T := 34) (wr := w') hb)
  rw [← hW] at hT
  have HWr := Lib.hid (Wr.new W)
  have HS1 := Lib.hid (fun W1 v (hw : Wr (W.heap.size + 1) W.heap.size v [] W1) (hb : Below W.heap.size W W1) => wset_any (W.heap.size + 1) W.heap.size v [] p x.1 a n c W1 hw (h.1.below (hb0.trans (hb.mono (by omega)))) hp h1 (by simp))
  have HS2 := Lib.hid (fun W1 v (hw : Wr (W.heap.size + 1) W.heap.size v ([] ++ p.length :: p) W1) (hb : Below W.heap.size W W1) => wset_any (W.heap.size + 1) W.heap.size v ([] ++ p.length :: p) q x.2 b m d W1 hw (h.2.below (hb0.trans (hb.mono (by omega)))) hq h2 (by simp; omega))
  have HO := Lib.hid (fun W1 v (hw : Wr (W.heap.size + 1) W.heap.size v (bytesC p q) W1) => wout_any _ _ v _ W1 hw (bytesC_lt hp.lt hq.lt h1 h2) (by unfold bytesC; simp; omega))
  have HB0 := Lib.hid hb0
  have hwl : ∀ (A B : World), But (W.heap.size + 1) W.heap.size W.heap.size A B → Below W.heap.size A B := fun A B hk => hk.below (by omega) (Nat.le_refl _) (Nat.le_refl _)
  have HK := Lib.hid hwl
  have hNB := Lib.hid ((Below.refl W.heap.size W).alloc (Nat.le_refl _) (.cells #[.slice none 0 0] 150))
  have HT := Lib.hid (fun w' (hb : Below W.heap.size W w') => hT.out w' hb)
  rw [hzW] at HWr HS1 HS2 HO HK hNB HT
  have HZ := Lib.hid hzW
  clear h hp hq hwl hT hb0 hzW
  subst hW
  go_enter Tryz.func56, Tryz.ntmps56
  go_wp2_with (first
    | (go_at_call 87; refine (writer_new _).mono ?_; rintro e w1 ⟨rfl, rfl⟩; obtain ⟨c0, c1, -, -⟩ := HT.out _ hNB.out)
    | (go_at_call 88; (with_reducible refine (HS1.out _ _ HWr.out hNB.out).mono ?_); rintro e w2 ⟨⟨r, rfl⟩, v2, hw, hk⟩; have HB2 := Lib.hid (hNB.out.trans (HK.out _ _ hk)); obtain ⟨q0, q1, -, -⟩ := HT.out _ HB2.out; have HW2 := Lib.hid hw; clear hw hk)
    | (go_at_call 88; (with_reducible refine (HS2.out _ _ HW2.out HB2.out).mono ?_); rintro e w3 ⟨⟨r, rfl⟩, v3, hw, hk⟩; have HB3 := Lib.hid (HB2.out.trans (HK.out _ _ hk)); have HW3 := Lib.hid hw; clear hw hk)
    | (go_at_call 89; refine (HO.out _ _ HW3.out).mono ?_; rintro e w4 ⟨v4, rfl, hr, hb⟩; have HR := Lib.hid hr; have HB4 := Lib.hid hb; clear hr hb))
  go_ret
  have hz3 := HB3.out.size
  have hz0 := HZ.out
  exact ⟨_, rfl, owns_mono HR.out (by omega), (HB0.out.trans (HB3.out.mono (by omega))).trans (HB4.out.mono (by omega))⟩
end Go.Proofs.YtadomogbakcokaaGreatDoor
end
