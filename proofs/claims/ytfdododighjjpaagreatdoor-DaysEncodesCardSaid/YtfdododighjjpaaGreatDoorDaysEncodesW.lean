/- The walk of DaysEncodes. -/
import Derived.Test.YtfdododighjjpaaGreatDoorDyA
import Derived.Test.YtfdododighjjpaaGreatDoorDyQ
import Derived.Test.YtfdododighjjpaaGreatDoorRek
import Derived.Deep.CutBlock
import Derived.Deep.DeepCutAuto
import Derived.Stop.BytesEq
namespace Go.Proofs.YtfdododighjjpaaGreatDoor.Dy
open Go.RowKit Go.PlainAid
set_option linter.unusedVariables false
set_option linter.unusedSimpArgs false
set_option maxHeartbeats 8000000
theorem abs_wp {P : Program} {c : Code} {Q : Exit → Act → World → Prop} {a : Act} {W : World} (F : World → Prop) (hF : F W) (h : ∀ W', F W' → c.wp P Q a W') : c.wp P Q a W := h W hF
/-- What stands before the writer begins: the set, its box. -/
structure Bg (w W : World) (B : Nat) (aA : Option Addr) (nA cA : Nat) (L : List (Int × Int)) : Prop where
  bel : RowKit.Below w.heap.size w W
  q : W.cell? ⟨B, 0, none⟩ = some (.slice aA nA cA)
  lt : B < W.heap.size
  ds : Ds W aA nA cA L
theorem Bg.below {w W W' : World} {B : Nat} {aA : Option Addr} {nA cA : Nat} {L : List (Int × Int)} (h : Bg w W B aA nA cA L) (hb : RowKit.Below W.heap.size W W') : Bg w W' B aA nA cA L :=
  ⟨h.bel.trans (hb.mono h.bel.size), (hb.cell (p := ⟨B, 0, none⟩) h.lt).trans h.q, Nat.lt_of_lt_of_le h.lt hb.size, h.ds.below hb (Nat.le_refl _)⟩
/-- A set's spans are apart from a reader's block. -/
theorem ds_kg {W W' : World} {a : Option Addr} {n c rh : Nat} {l : List (Int × Int)} {x : Value} {y : Value} {T : TypeId} (h : Ds W a n c l) (hr : Wi.At2T W rh x y T) (hx : ∀ k z, x ≠ .int k z) (hk : Wi.Kg rh W W') : Ds W' a n c l := by
  obtain ⟨h1, h2, h3, h4⟩ := h
  refine ⟨h1, h2, h3, ?_⟩
  rcases h4 with h4 | ⟨b, o, rfl, hb, hc⟩
  · exact .inl h4
  · by_cases h0 : n = 0
    · exact .inl h0
    · have hne : b ≠ rh := by
        rintro rfl
        obtain ⟨p, hp⟩ : ∃ p, l[0]? = some p := ⟨_, List.getElem?_eq_getElem (by omega)⟩
        obtain ⟨c0, c1⟩ := hc 0 p hp
        have hh : ∀ j, W.cell? ⟨b, j, none⟩ = (#[x, y] : Array Value)[j]? := fun j => cell_of_row _ _ j _ _ _ hr
        rw [hh] at c0 c1
        have : o = 0 ∨ o = 1 ∨ 2 ≤ o := by omega
        rcases this with rfl | rfl | h2
        · simp at c0; exact hx _ _ c0
        · simp at c1
        · rw [Array.getElem?_eq_none (by simp; omega)] at c0; cases c0
      exact .inr ⟨b, o, rfl, Nat.lt_of_lt_of_le hb hk.size, fun j p hp => ⟨(hk.cell hb hne hne).trans (hc j p hp).1, (hk.cell hb hne hne).trans (hc j p hp).2⟩⟩
theorem kg_grown {w W W' : World} {p : Nat} {ob : Option Nat} (h : Wi.Kg p w W) (hg : W.grownBy W' ob) (ho : ∀ b, ob = some b → w.heap.size ≤ b) : Wi.Kg p w W' :=
  ⟨hg.os.trans h.os, hg.tape.trans h.tape, hg.output.trans h.output, Nat.le_trans h.size hg.size, fun k hk h1 h2 => (hg.block k (Nat.lt_of_lt_of_le hk h.size) (fun e => by have := ho k e.symm; omega)).trans (h.block k hk h1 h2)⟩
theorem os_kg {T : TypeId} {W W' : World} {B rh : Nat} {v : Value} {l : List (Int × Int)} (h : Os T W B v l) (hk : Wi.Kg rh W W') (hr : rh < B) : Os T W' B v l := by
  refine ⟨h.1, ?_⟩
  rcases h.2 with hn | ⟨b, cap, cur, rfl, hb, hh, r⟩
  · exact .inl hn
  · have hlt := (Array.getElem?_eq_some_iff.1 hh).1
    exact .inr ⟨b, cap, cur, rfl, hb, (hk.block b hlt (by omega) (by omega)).trans hh, r⟩
/-- A store into a cell that holds an int leaves the reader. -/
theorem rd_set {W : World} {rh b8 j n c : Nat} {a : Option Addr} {ps : List Nat} {e z : Int} (h : Wi.Rd W rh a n c ps e) (hc : W.cell? ⟨b8, j, none⟩ = some (.int .i64 z)) (hne : b8 ≠ rh) (v : Value) : Wi.Rd (W.setCell ⟨b8, j, none⟩ v) rh a n c ps e := by
  obtain ⟨h1, ⟨g1, g2, g3, g4, g5⟩, h3, h4⟩ := h
  refine ⟨(Below.heap_setCell _ _ _ rh (fun e => hne e.symm)).trans h1, ⟨g1, g2, g3, g4, ?_⟩, h3, h4⟩
  rcases g5 with g5 | ⟨b, o, rfl, hb, hcs⟩
  · exact .inl g5
  · refine .inr ⟨b, o, rfl, by simpa using hb, fun i hi => ?_⟩
    rw [World.cell?_setCell_other _ _ _ _ (fun e => by
      have h5 := hcs i hi
      rw [← e, hc] at h5
      injection h5 with h5
      injection h5 with h6 _
      cases h6)]
    exact hcs i hi
theorem frz_kg {W W' : World} {rh : Nat} {cs : Array Value} {T : TypeId} (hk : Wi.Kg rh (W.alloc (.cells cs T)) W') (hne : W.heap.size ≠ rh) (j : Nat) : W'.frozen? ⟨W.heap.size, j, none⟩ = false := by
  have hb := hk.block W.heap.size (by simp) hne hne
  rw [World.alloc_heap_new] at hb
  unfold World.frozen?
  dsimp only
  rw [hb]; simp
/-- What is left lies in a block below B. -/
def Lo (B n : Nat) (a : Option Addr) : Prop := n = 0 ∨ ∀ y, a = some y → y.block < B
theorem lo_of {W : World} {rh n c : Nat} {a : Option Addr} {ps : List Nat} {z : Int} (h : Wi.Rd W rh a n c ps z) {B : Nat} (hB : W.heap.size ≤ B) : Lo B n a := by
  rcases h.2.1.2.2.2.2 with h | ⟨b, o, rfl, hb, _⟩
  · exact .inl h
  · exact .inr (fun y e => by cases e; exact Nat.lt_of_lt_of_le hb hB)
theorem Lo.sb {B n n' : Nat} {a a' : Option Addr} (h : Lo B n a) (hs : Wi.Sb a a') (hn : n' ≤ n) : Lo B n' a' := by
  rcases h with h | h
  · exact .inl (by omega)
  · exact .inr (fun y e => by obtain ⟨x, hx, hxy⟩ := hs y e; rw [← hxy]; exact h x hx)
theorem rd_alloc {W : World} {rh n B : Nat} {ps : List Nat} (h : ∃ a' c', Wi.Rd W rh a' n c' ps 0 ∧ Lo B n a') (o : Obj) : ∃ a' c', Wi.Rd (W.alloc o) rh a' n c' ps 0 ∧ Lo B n a' := by
  obtain ⟨a', c', h, hl⟩ := h
  exact ⟨a', c', h.below ((RowKit.Below.refl _ _).alloc (Nat.le_refl _) _), hl⟩
theorem rd_lo {W : World} {rh n B m : Nat} {a : Option Addr} {ps : List Nat} (h : ∃ a' c', Wi.Rd W rh a' n c' ps 0 ∧ Wi.Sb a a') (hl : Lo B m a) (hn : n ≤ m) : ∃ a' c', Wi.Rd W rh a' n c' ps 0 ∧ Lo B n a' := by
  obtain ⟨a', c', h, hs⟩ := h
  exact ⟨a', c', h, hl.sb hs hn⟩
/-- The row of spans grows: the reader stands. -/
theorem rd_grown {W W' : World} {rh n c B : Nat} {a : Option Addr} {ps : List Nat} {v : Value} {acc : List (Int × Int)} {z : Int} (h : Wi.Rd W rh a n c ps z) (hl : Lo B n a) (hg : W.grownBy W' v.ownBlock) (ho : Os 48 W B v acc) (hr : rh < B) : Wi.Rd W' rh a n c ps z := by
  obtain ⟨h1, ⟨g1, g2, g3, g4, g5⟩, h3, h4⟩ := h
  have hrl := h1.lt
  have hb0 := hg.block rh hrl (fun e => by have := (ho.lt rh e.symm).1; omega)
  refine ⟨hb0.trans h1, ⟨g1, g2, g3, g4, ?_⟩, h3, h4⟩
  rcases g5 with g5 | ⟨b, o, rfl, hb, hcs⟩
  · exact .inl g5
  · rcases hl with h0 | hl
    · exact .inl h0
    · have hbB : b < B := hl _ rfl
      refine .inr ⟨b, o, rfl, Nat.lt_of_lt_of_le hb hg.size, fun i hi => ?_⟩
      have hbb := hg.block b hb (fun e => by have := (ho.lt b e.symm).1; omega)
      exact (World.cell?_of_block (w := W) hbb).trans (hcs i hi)
theorem kg_new {w wr : World} {p cb : Nat} (h : Wi.Kg p w wr) (hc : w.heap.size ≤ cb) (j : Nat) (v : Value) : Wi.Kg p w (wr.setCell ⟨cb, j, none⟩ v) := Kc.kg_new h hc j v
/-- When the spans are read: the box of the set that was parsed. -/
structure Rg (w3 W : World) (rh B : Nat) (ad : Option Addr) (nd cd : Nat) (L : List (Int × Int)) (ps : List Nat) : Prop where
  bel : RowKit.Below w3.heap.size w3 W
  q : W.cell? ⟨B, 0, none⟩ = some (.slice ad nd cd)
  lt : B < W.heap.size
  ne : B ≠ rh
  ds : Ds W ad nd cd L
  rd : ∃ a' c', Wi.Rd W rh a' ps.length c' ps 0
  le : w3.heap.size ≤ rh
  rl : rh < W.heap.size
/-- At the end: the two boxes, the reader at its end. -/
structure Fn (w3 W : World) (rh B10 B15 : Nat) (a b : Option Addr) (n m c d : Nat) (L : List (Int × Int)) : Prop where
  bel : RowKit.Below w3.heap.size w3 W
  q10 : W.cell? ⟨B10, 0, none⟩ = some (.slice a n c)
  l10 : B10 < W.heap.size
  d10 : Ds W a n c L
  q15 : W.cell? ⟨B15, 0, none⟩ = some (.slice b m d)
  l15 : B15 < W.heap.size
  d15 : Ds W b m d L
  rd : ∃ a' c', Wi.At2T W rh (.slice a' 0 c') (.int .i64 0) 91
theorem Fn.below {w3 W W' : World} {rh B10 B15 : Nat} {a b : Option Addr} {n m c d : Nat} {L : List (Int × Int)} (h : Fn w3 W rh B10 B15 a b n m c d L) (hb : RowKit.Below W.heap.size W W') : Fn w3 W' rh B10 B15 a b n m c d L :=
  ⟨h.bel.trans (hb.mono h.bel.size), (hb.cell (p := ⟨B10, 0, none⟩) h.l10).trans h.q10, Nat.lt_of_lt_of_le h.l10 hb.size, h.d10.below hb (Nat.le_refl _), (hb.cell (p := ⟨B15, 0, none⟩) h.l15).trans h.q15, Nat.lt_of_lt_of_le h.l15 hb.size, h.d15.below hb (Nat.le_refl _), by obtain ⟨a', c', h2⟩ := h.rd; exact ⟨a', c', h2.below hb⟩⟩
theorem sat {w w3 W : World} {rh B3 B10 B15 : Nat} {aA a b : Option Addr} {nA cA n m c d : Nat} {L : List (Int × Int)} (hG : Hid (∀ W, RowKit.Below w3.heap.size w3 W → Bg w W B3 aA nA cA L)) (h : Hid (Fn w3 W rh B10 B15 a b n m c d L)) :
    W.cell? ⟨B10, 0, none⟩ = some (.slice a n c) ∧ W.cell? ⟨B3, 0, none⟩ = some (.slice aA nA cA) ∧ W.cell? ⟨B15, 0, none⟩ = some (.slice b m d) := ⟨h.out.q10, (hG.out _ h.out.bel).q, h.out.q15⟩
theorem dig_eql (bs : List Nat) (W : World) : (binOp .eql 58 (Kc.digV bs) (Kc.digV bs)).run Tryz.prog W = .ok (.bool true) W := by
  obtain ⟨S, hS⟩ : ∃ S, Kc.absF (Kc.lastF (Kc.byF bs) bs.length) Kc.zf = S := ⟨_, rfl⟩
  have e : Kc.vals .u8 32 (Kc.digF S) = ((List.range 32).map fun i => UInt8.ofNat (Kc.digF S i).toNat).map Extern.Stop.cell := by
    unfold Kc.vals
    rw [List.map_map]
    refine List.map_congr_left fun i _ => ?_
    show Value.int .u8 (Kc.digF S i) = Value.int .u8 ((UInt8.ofNat (Kc.digF S i).toNat).toNat : Int)
    congr 1
    rw [UInt8.toNat_ofNat']
    unfold Kc.digF
    omega
  unfold Kc.digV
  rw [hS, e]
  rw [run_eql_bytes W 58 5 32 Tryz.underlying58 Tryz.underlying5 (fun w => by kernel_rfl) _ _ (by simp) (by simp)]
  simp
theorem agg_guard (X : Array Value) (W : World) : (eqGuard .eql 58 (.tmp 112) (.tmp 117) (.agg X) (.agg X)).run Tryz.prog W = .ok () W := by kernel_rfl
def headB (tx : ByteArray) (k : Nat) : List Nat := ([] ++ (Wi.encN tx.size ++ Wi.bytesN tx)) ++ Wi.encN k
theorem headB_len (tx : ByteArray) (k : Nat) (h : tx.size ≤ 100) (hk : k ≤ 6) : (headB tx k).length ≤ 106 := by
  have h1 := (Wi.enc_len tx.size).2.1 (by omega)
  have h2 := (Wi.enc_len k).2.1 (by omega)
  have h3 := Wi.bytesN_len tx
  unfold headB
  simp only [List.nil_append, List.length_append]
  omega
theorem headB_lt (tx : ByteArray) (k : Nat) : ∀ x ∈ headB tx k, x < 256 := by
  intro x hx
  unfold headB at hx
  simp only [List.nil_append, List.mem_append] at hx
  rcases hx with (hx | hx) | hx
  · exact Wi.enc_lt _ x hx
  · exact Wi.bytesN_lt _ x hx
  · exact Wi.enc_lt _ x hx
set_option maxRecDepth 100000 in
theorem daysEncodes_walk (a : Option Addr) (n cap : Nat) (l : List (Nat × Nat)) (w : World) (hW : Wz w) (hKt : Kc.Kt w) (h : Us w a n cap l) :
    Calls Tryz.prog 5 #[.slice a n cap] w fun e w' => e = .returned (.bool true) ∧ RowKit.Below w.heap.size w w' := by
  obtain ⟨i0, hi, hz0, hz1, hz2⟩ := info_parts infoSpan
  have HW := Lib.hid (fun W (hb : RowKit.Below w.heap.size w W) => hW.below hb)
  have HKT := Lib.hid (fun W (hb : RowKit.Below w.heap.size w W) => hKt.below hb)
  have HU := Lib.hid (fun W (hb : RowKit.Below w.heap.size w W) => make6_any a n cap l W (h.below hb (Nat.le_refl _)))
  have HAW := Lib.hid (awake_any w hW.pow)
  clear hW hKt h
  go_enter Tryz.func5, Tryz.ntmps5
  go_upto_region 4 with (first
    | (go_at_call 6; (with_reducible refine HAW.out.mono ?_); rintro e w1 ⟨rfl, hB1⟩)
    | (go_at_call 12; (with_reducible refine (HU.out _ hB1).mono ?_); rintro e w2 ⟨aA, nA, cA, LA, gA, rfl, hd2, hc2, hf2, hb2, h62⟩; have HDA := Lib.hid hd2; have HCA := Lib.hid hc2; have H6 := Lib.hid h62; have hB2 := hB1.trans (hb2.mono hB1.size); clear hd2 hc2 hf2 hb2 h62))
  clear HU HAW
  refine abs_wp (fun W => Bg w W w2.heap.size aA nA cA LA) ⟨hB2.trans (((RowKit.Below.refl _ _).alloc (Nat.le_refl _) _).mono hB2.size), (new1 _ _ _).1, by simp, HDA.out.below ((RowKit.Below.refl _ _).alloc (Nat.le_refl _) _) (Nat.le_refl _)⟩ (fun W3 hg3 => ?_)
  clear hB1 HDA
  obtain ⟨B3, hB3⟩ : ∃ B3, w2.heap.size = B3 := ⟨_, rfl⟩
  rw [hB3] at hg3 ⊢
  clear hB2 hB3
  have HG := Lib.hid (fun W (hb : RowKit.Below W3.heap.size W3 W) => hg3.below hb)
  obtain ⟨tx, htx⟩ : ∃ tx : ByteArray, ⟨(textL LA).toArray⟩ = tx := ⟨_, rfl⟩
  have htl : tx.size ≤ 100 := by rw [← htx, size_of]; exact textL_small HCA.out H6.out
  have HTX := Lib.hid htx
  clear htx
  have q3 := hg3.q
  obtain ⟨K, hK⟩ : ∃ K, LA.length = K := ⟨_, rfl⟩
  have HK := Lib.hid hK
  have hk6 : K ≤ 6 := by rw [← hK]; exact H6.out
  have hnA : nA = K := by rw [← hK]; exact hg3.ds.1.symm
  subst hnA
  clear hK
  have HNW := Lib.hid (Wi.writer_new W3)
  have hb4 : RowKit.Below W3.heap.size W3 (W3.alloc (.cells #[.slice none 0 0] 85)) := (RowKit.Below.refl _ _).alloc (Nat.le_refl _) _
  have HWR := Lib.hid (Wi.Wr.new W3)
  have hpre : Hid (([] ++ (Wi.encN tx.size ++ Wi.bytesN tx)).length ≤ 100000) := by
    have h1 := (Wi.enc_len tx.size).2.1 (by omega)
    have h3 := Wi.bytesN_len tx
    show _ ≤ _
    simp only [List.nil_append, List.length_append]
    omega
  have tk0 : Nat := 0
  go_upto_block 0 with (first
    | (go_at_call 15; refine HNW.out.mono ?_; rintro e W4 ⟨rfl, rfl⟩; have g4 := Lib.hid hb4; replace q3 := (HG.out _ g4.out).q)
    | (go_at_call 11; (with_reducible refine (text_self _ _ _ _ HCA.out _ HTX.out _ (HG.out _ g4.out).ds (HW.out _ (HG.out _ g4.out).bel).pow).mono ?_); rintro e W5 ⟨rfl, hb5⟩; have g5 := Lib.hid (g4.out.trans (hb5.mono g4.out.size)); replace q3 := (HG.out _ g5.out).q; have HS5 := Lib.hid (Wi.wstring_any _ _ _ _ tx W5 (HWR.out.below hb5) (by omega) (by simp)); clear hb5)
    | (go_at_call 16; refine HS5.out.mono ?_; rintro e W6 ⟨⟨r6, rfl⟩, v6, hw6, hk6⟩; have g6 := Lib.hid (below_but2 g5.out hk6 (Nat.le_refl _) (Nat.lt_succ_self _)); replace q3 := (HG.out _ g6.out).q; have HW6 := Lib.hid hw6; clear hw6 hk6)
    | (go_at_call 18; clear tk0; (with_reducible refine (spans_any _ _ _ _ _ (HG.out _ g6.out).ds (by omega)).mono ?_); rintro e W7 ⟨v7, rfl, hb7, hown7⟩; have tk1 : Nat := 0; obtain ⟨a7, n7, c7, rfl, hn7, -⟩ := hown7.dn; obtain rfl : nA = n7 := (hn7.trans HK.out).symm; clear hn7; have g7 := Lib.hid (g6.out.trans (hb7.mono g6.out.size)); replace q3 := (HG.out _ g7.out).q; have HU7 := Lib.hid (Wi.uintN_any _ _ _ _ nA (by omega) W7 (HW6.out.below hb7) hpre.out); have HW7 := Lib.hid (HW6.out.below hb7); clear hown7 hb7)
    | (go_at_call 17; refine HU7.out.mono ?_; rintro e W8 ⟨⟨r8, rfl⟩, v8, hw8, hk8⟩; have g8 := Lib.hid (below_kp g7.out HW7.out hk8 (Nat.le_refl _)); replace q3 := (HG.out _ g8.out).q; have HW8 := Lib.hid hw8; clear hw8 hk8)
    | (go_at_call 18; clear tk1; (with_reducible refine (spans_any _ _ _ _ _ (HG.out _ g8.out).ds (by omega)).mono ?_); rintro e W9 ⟨v9, rfl, hb9, hown9⟩; obtain ⟨a9, n9, c9, rfl, hn9, -⟩ := hown9.dn; obtain rfl : nA = n9 := (hn9.trans HK.out).symm; clear hn9; have g9 := Lib.hid (g8.out.trans (hb9.mono g8.out.size)); replace q3 := (HG.out _ g9.out).q; have HW9 := Lib.hid (HW8.out.below hb9); have HO9 := Lib.hid hown9; have hB9 := Lib.hid (show W3.heap.size < W8.heap.size from HW8.out.2.2.2); clear hown9 hb9))
  obtain ⟨g, hgg⟩ : ∃ g, W3.heap.size = g := ⟨_, rfl⟩
  have hgH : Hid (W3.heap.size = g) := hgg
  have HWA : Hid (Wi.Wr (g + 1) g v8 (headB tx nA) W9) := by have := HW9.out; rw [hgg] at this; exact this
  have HB8 : Hid (g < W8.heap.size) := by have := hB9.out; rw [hgg] at this; exact this
  have hhl := Lib.hid (headB_len tx nA htl (by omega))
  rw [hgg]
  clear hb4 HWR HNW HS5 HU7 HW6 HW7 HW8 HW9 hB9 g4 g5 g6 g7 g8 hpre hgg
  generalize W8.heap.size = B9 at HO9 HB8
  go_cut [] (fun wx => ∃ v : Value, Hid (Wi.Wr (g + 1) g v (headB tx nA ++ encP LA) wx) ∧ Hid (RowKit.Below W3.heap.size W3 wx))
  case first =>
    go_wp2_with fail
    go_loopw [41] (fun v41 wx => ∃ (j : Nat) (v : Value), j ≤ nA ∧ v41 = .int .i64 j ∧ Hid (Wi.Wr (g + 1) g v (headB tx nA ++ encP (LA.take j)) wx) ∧ Hid (Os 48 wx B9 (.slice a9 nA c9) LA) ∧ Hid (RowKit.Below W3.heap.size W3 wx)) (fun v _ => nA - (intOf v).toNat)
    case atStart => exact ⟨0, v8, by omega, rfl, by rw [show encP (LA.take 0) = [] from rfl, List.append_nil]; exact HWA.out, HO9.out, g9.out⟩
    case round =>
      clear HWA HO9 g9
      obtain ⟨j, v, hj, rfl, hw, ho, hg⟩ := hrel
      by_cases hjn : j < nA
      · obtain ⟨⟨p1, p2⟩, hp⟩ : ∃ p, LA[j]? = some p := ⟨_, List.getElem?_eq_getElem (by rw [HK.out]; exact hjn)⟩
        obtain ⟨a', n', c', hsl, -, hds⟩ := ho.out.dn
        cases hsl
        rcases hds.2.2.2 with h0 | ⟨b, o, rfl, hb, hcell⟩
        · omega
        obtain ⟨x1, x2⟩ := hcell j _ hp
        dsimp only at x1 x2
        have hok := HCA.out.1 _ (List.mem_of_getElem? hp)
        unfold Okp at hok
        dsimp only at hok
        obtain ⟨k1, e1, -, hk1⟩ := day_nat (z := p1) (by omega) (by omega)
        obtain ⟨k2, e2, -, hk2⟩ := day_nat (z := p2) (by omega) (by omega)
        subst e1 e2
        have HSN := Lib.hid (encP_snoc hp)
        dsimp only [Int.toNat_natCast] at HSN
        clear hok hp hcell hds
        have hj0 : (0 : Int) ≤ (j : Int) := Int.natCast_nonneg _
        have hj1 : (j : Int) < (nA : Int) := by omega
        have m1 : (k1 : Int) % 18446744073709551616 = (k1 : Int) := by omega
        have m2 : (k2 : Int) % 18446744073709551616 = (k2 : Int) := by omega
        have hlb : Hid ((headB tx nA ++ encP (LA.take j)).length ≤ 90000 ∧ ((headB tx nA ++ encP (LA.take j)) ++ Wi.encN k1).length ≤ 90000) := by
          have h1 := encP_len (l := LA.take j) (fun q hq => HCA.out.1 q (List.mem_of_mem_take hq))
          have h2 := List.length_take_le j LA
          have h3 := hhl.out
          have h4 := HK.out
          have h5 := (Wi.enc_len k1).2.1 (by omega)
          show _ ∧ _
          simp only [List.length_append]
          omega
        have hba : RowKit.Below wr.heap.size wr (wr.alloc (.cells #[.int .i64 (k1 : Nat), .int .i64 (k2 : Nat)] 48)) := (RowKit.Below.refl _ _).alloc (Nat.le_refl _) _
        have HWB := Lib.hid (hw.out.below hba)
        have HGB := Lib.hid (hg.out.trans (hba.mono hg.out.size))
        have HOB := Lib.hid (ho.out.alloc (.cells #[.int .i64 (k1 : Nat), .int .i64 (k2 : Nat)] 48))
        have d2 : (wr.alloc (.cells #[.int .i64 (k1 : Nat), .int .i64 (k2 : Nat)] 48)).cell? ⟨wr.heap.size, 1, none⟩ = some (.int .i64 (k2 : Nat)) := (new2 _ _ _ _).2
        have hvo : ∀ x, v.ownBlock = some x → x < wr.heap.size := fun x e => (hw.out.2.1.lt x e).2
        have HVO := Lib.hid hvo
        have hgw : Hid (g < wr.heap.size) := by have := hw.out.2.2.2; show _ < _; omega
        have HU1 := Lib.hid (Wi.uintN_any (g + 1) g v _ k1 (by omega) _ HWB.out (by have := hlb.out.1; omega))
        clear hba hvo
        have hwz : (wr.alloc (.cells #[.int .i64 (k1 : Nat), .int .i64 (k2 : Nat)] 48)).heap.size = wr.heap.size + 1 := by simp
        have HWZ := Lib.hid hwz
        have tk0 : Nat := 0
        clear hwz
        go_wp2_with (first
          | (go_at_call 17; clear tk0; refine HU1.out.mono ?_; rintro e W1 ⟨⟨r1, rfl⟩, v1, hw1, hk1'⟩; have d3 := (World.cell?_of_block (a := ⟨wr.heap.size, 1, none⟩) (hk1'.block wr.heap.size (by rw [HWZ.out]; omega) (by have := hgw.out; omega) (fun e => by have := HVO.out _ e.symm; omega))).trans d2; have HO1 := Lib.hid (os_kp HOB.out HWB.out hk1' HB8.out (by decide)); have HG1 := Lib.hid (below_kp HGB.out HWB.out hk1' (by rw [hgH.out]; exact Nat.le_refl _)); have HW1 := Lib.hid hw1; have tk1 : Nat := 0; have HU2 := Lib.hid (Wi.uintN_any (g + 1) g v1 _ k2 (by omega) W1 hw1 (by have := hlb.out.2; omega)); clear hw1 hk1')
          | (go_at_call 17; clear tk1; refine HU2.out.mono ?_; rintro e W2 ⟨⟨r2, rfl⟩, v2, hw2, hk2'⟩; have HO2 := Lib.hid (os_kp HO1.out HW1.out hk2' HB8.out (by decide)); have HG2 := Lib.hid (below_kp HG1.out HW1.out hk2' (by rw [hgH.out]; exact Nat.le_refl _)); have HW2 := Lib.hid hw2; clear hw2 hk2'))
        go_roundw
        case rel => exact ⟨j + 1, v2, by omega, by go_num, by rw [HSN.out, ← List.append_assoc, ← List.append_assoc]; exact HW2.out, HO2.out, HG2.out⟩
        case measure => simp [intOf]; omega
      · obtain rfl : j = nA := by omega
        go_wp2_with fail
        go_meet
        refine ⟨v, ?_, hg⟩
        have := hw.out
        rw [List.take_of_length_le (by rw [HK.out]; exact Nat.le_refl _)] at this
        exact this
  case rest =>
    obtain ⟨v, hw, hg⟩ := hcut
    clear HWA HO9 g9
    obtain ⟨bs, hbs⟩ : ∃ bs, headB tx nA ++ encP LA = bs := ⟨_, rfl⟩
    have hbl : Hid (bs.length ≤ 1000) := by
      have h1 := encP_len (l := LA) HCA.out.1
      have h3 := hhl.out
      have h4 := HK.out
      show _ ≤ _
      rw [← hbs, List.length_append]; omega
    have hb256 : Hid (∀ x ∈ bs, x < 256) := by
      intro x hx
      rw [← hbs] at hx
      rcases List.mem_append.1 hx with hx | hx
      · exact headB_lt _ _ x hx
      · exact encP_lt _ x hx
    have HPS : Hid (bs = Wi.encN tx.size ++ (Wi.bytesN tx ++ (Wi.encN nA ++ encP LA))) := by
      show _ = _; rw [← hbs]; unfold headB; simp only [List.nil_append, List.append_assoc]
    rw [hbs] at hw
    clear hbs
    have HOUT := Lib.hid (Wi.wout_any (g + 1) g v bs wc hw.out hb256.out (by have := hbl.out; omega))
    go_upto_region 17 with (first
      | (go_at_call 20; refine HOUT.out.mono ?_; rintro e Wa ⟨va, rfl, hrow, hba⟩; obtain ⟨ba, ca, rfl, hbwa, hnza, -⟩ := Wi.row_bw hrow hb256.out; have ga := Lib.hid (hg.out.trans (hba.mono hg.out.size)); have HNR := Lib.hid (Wi.reader_new ba bs.length ca bs Wa hbwa hnza hbl.out); clear hrow hba hbwa hnza)
      | (go_at_call 19; refine HNR.out.mono ?_; rintro e Wb ⟨rh, ra, rc, rfl, hrh, hrd, hbb⟩; have gb := Lib.hid (ga.out.trans (hbb.mono ga.out.size)); have hrg : Hid (W3.heap.size ≤ rh) := (Nat.le_trans ga.out.size hrh : _ ≤ _); have HST := Lib.hid (Wi.rstringN_any rh ra bs.length rc 100 bs _ tx Wb hrd hbl.out HPS.out htl (by omega)); clear hrd hbb hrh)
      | (go_at_call 21; refine HST.out.mono ?_; rintro e Wc ⟨rfl, hrd, hkc⟩; have gc := Lib.hid (Kc.below_kg gb.out hkc hrg.out); have HRD := Lib.hid hrd; clear hrd hkc)
      | (go_at_call 7; (with_reducible refine (parse_self _ HCA.out _ HTX.out _ (HW.out _ (HG.out _ gc.out).bel)).mono ?_); rintro e Wd ⟨ad, nd, cd, rfl, hdd, hbd⟩; have HDD := Lib.hid hdd; have gd := Lib.hid (gc.out.trans (hbd.mono gc.out.size)); have HRD2 := Lib.hid (show ∃ a' c', Wi.Rd Wd rh a' (Wi.encN nA ++ encP LA).length c' (Wi.encN nA ++ encP LA) 0 from by obtain ⟨a', c', hr, -⟩ := HRD.out; exact ⟨a', c', hr.below hbd⟩); clear hdd hbd))
    refine abs_wp (fun W => Rg W3 W rh Wd.heap.size ad nd cd LA (Wi.encN nA ++ encP LA)) ?_ (fun W9 hr9 => ?_)
    · have hba : RowKit.Below Wd.heap.size Wd (Wd.alloc (.cells #[.slice ad nd cd] 25)) := (RowKit.Below.refl _ _).alloc (Nat.le_refl _) _
      obtain ⟨a', c', hr⟩ := HRD2.out
      have hlt := hr.1.lt
      exact ⟨gd.out.trans (hba.mono gd.out.size), (new1 _ _ _).1, by simp, by omega, HDD.out.below hba (Nat.le_refl _), ⟨a', c', hr.below hba⟩, hrg.out, by simp; omega⟩
    clear HRD2 HDD gd gc HRD HST gb HNR ga HOUT hg hw
    generalize Wd.heap.size = B10 at hr9 ⊢
    have HR9 := Lib.hid hr9
    have hrl := hr9.rl
    obtain ⟨a9', c9', hrd9⟩ := hr9.rd
    have hpl : Hid ((Wi.encN nA ++ encP LA).length ≤ 1000) := by
      have h1 := hbl.out
      rw [HPS.out] at h1
      simp only [List.length_append] at h1 ⊢
      show _ ≤ _
      omega
    have HCN := Lib.hid (Wi.rcountN_any rh a9' _ c9' nA 6 _ (encP LA) W9 hrd9 hpl.out rfl (by omega) hk6 (by omega))
    clear hr9 hrd9
    go_upto_block 2 with (go_at_call 22; refine HCN.out.mono ?_; rintro e Wx ⟨rfl, hrd, hkx⟩; have HRX := Lib.hid hrd; have HKX := Lib.hid hkx; clear hrd hkx)
    have hrx : Hid (rh < Wx.heap.size) := Nat.lt_of_lt_of_le hrl HKX.out.size
    have hwx : Hid (W9.heap.size ≤ Wx.heap.size) := HKX.out.size
    go_cut [12] (fun v12 wx => Os 48 wx Wx.heap.size v12 LA ∧ Hid (Wi.Kg rh Wx wx) ∧ Hid (∃ a' c', Wi.Rd wx rh a' 0 c' [] 0))
    case first =>
      go_wp2_with fail
      go_loopw [12, 13] (fun v12 v13 wx => ∃ j : Nat, j ≤ nA ∧ v13 = .int .i64 ((nA : Int) - (j : Int)) ∧ Os 48 wx Wx.heap.size v12 (LA.take j) ∧ Hid (Wi.Kg rh Wx wx) ∧ Hid (∃ a' c', Wi.Rd wx rh a' (encP (LA.drop j)).length c' (encP (LA.drop j)) 0 ∧ Lo Wx.heap.size (encP (LA.drop j)).length a')) (fun _ v _ => (intOf v).toNat)
      case atStart => exact ⟨0, by omega, by simp, Os.nil _ _ _, Wi.Kg.of (RowKit.Below.refl _ _), by obtain ⟨a', c', hr, -⟩ := HRX.out; exact ⟨a', c', hr, lo_of hr (Nat.le_refl _)⟩⟩
      case round =>
        obtain ⟨j, hj, rfl, ho, hk, hrd⟩ := hrel
        by_cases hjn : j < nA
        · obtain ⟨⟨p1, p2⟩, hp⟩ : ∃ p, LA[j]? = some p := ⟨_, List.getElem?_eq_getElem (by rw [HK.out]; exact hjn)⟩
          have hok := HCA.out.1 _ (List.mem_of_getElem? hp)
          unfold Okp at hok
          dsimp only at hok
          obtain ⟨k1, e1, -, hk1⟩ := day_nat (z := p1) (by omega) (by omega)
          obtain ⟨k2, e2, -, hk2⟩ := day_nat (z := p2) (by omega) (by omega)
          subst e1 e2
          have HDR := Lib.hid (encP_drop hp)
          dsimp only [Int.toNat_natCast] at HDR
          have HTK : Hid (LA.take (j + 1) = LA.take j ++ [((k1 : Int), (k2 : Int))]) := by show _ = _; rw [List.take_add_one, hp]; rfl
          have hdl : Hid ((encP (LA.drop j)).length ≤ 1000 ∧ (Wi.encN k2 ++ encP (LA.drop (j + 1))).length ≤ 1000) := by
            have h1 := encP_len (l := LA.drop j) (fun q hq => HCA.out.1 q (List.mem_of_mem_drop hq))
            have h2 : (LA.drop j).length ≤ nA := by rw [List.length_drop, HK.out]; omega
            have h3 := congrArg List.length HDR.out
            simp only [List.length_append] at h3 ⊢
            show _ ∧ _
            omega
          clear hok hp
          have hj1 : (0 : Int) < (nA : Int) - (j : Int) := by omega
          have hw0 : IntKind.i64.wrap ((nA : Int) - (j : Int) - 1) = (nA : Int) - (j : Int) - 1 := IntWalk.i64_in _ (by omega)
          obtain ⟨ra1, rc1, hr1, hlo1⟩ := hrd.out
          have HLO1 := Lib.hid hlo1
          clear hlo1
          have HN1 := Lib.hid (Wi.rnumN_any rh ra1 _ rc1 k1 30000 _ _ wr hr1 hdl.out.1 HDR.out (by omega) hk1 (by omega))
          have hlj : Hid ((LA.take j).length ≤ 6) := by have := List.length_take_le j LA; have := HK.out; show _ ≤ _; omega
          have HO0 := Lib.hid ho
          clear hr1
          have tk0 : Nat := 0
          go_upto_region 23 with (first
            | (go_at_call 23; clear tk0; refine HN1.out.mono ?_; rintro e W1 ⟨rfl, hrd1, hkg1⟩; have HK1 := Lib.hid (hk.out.tr hkg1); have HO1 := Lib.hid (os_kg HO0.out hkg1 hrx.out); have HA1 := Lib.hid (rd_alloc (rd_lo hrd1 HLO1.out (by rw [HDR.out]; simp)) (.cells #[.int .i64 (k1 : Nat), .int .i64 0] 48)); have tk1 : Nat := 0; clear hrd1 hkg1; obtain ⟨ra2, rc2, hr2, hlo2⟩ := HA1.out; have HLO2 := Lib.hid hlo2; clear hlo2; have HN2 := Lib.hid (Wi.rnumN_any rh ra2 _ rc2 k2 30000 _ _ _ hr2 hdl.out.2 rfl (by omega) hk2 (by omega)); clear hr2)
            | (go_at_call 23; clear tk1; refine HN2.out.mono ?_; rintro e W2 ⟨rfl, hrd2, hkg2⟩; have HKG2 := Lib.hid hkg2; have HRD2 := Lib.hid (rd_lo hrd2 HLO2.out (by simp)); have hne8 : Hid (W1.heap.size ≠ rh) := (by have := hrx.out; have := HK1.out.size; show _ ≠ _; omega); have c80 := (hkg2.cell (k := W1.heap.size) (j := 0) (by simp) hne8.out hne8.out).trans (new2 W1 (.int .i64 (k1 : Nat)) (.int .i64 0) 48).1; have c81 := (hkg2.cell (k := W1.heap.size) (j := 1) (by simp) hne8.out hne8.out).trans (new2 W1 (.int .i64 (k1 : Nat)) (.int .i64 0) 48).2; have f81 := frz_kg hkg2 hne8.out; clear hrd2 hkg2))
          have hks : Hid (Wi.Kg rh W1 (W2.setCell ⟨W1.heap.size, 1, none⟩ (.int .i64 (k2 : Nat)))) := kg_new ((Wi.Kg.of ((RowKit.Below.refl _ _).alloc (Nat.le_refl _) _)).tr HKG2.out) (Nat.le_refl _) _ _
          have HOS := Lib.hid (os_kg HO1.out hks.out hrx.out)
          have HKS := Lib.hid (HK1.out.tr hks.out)
          have HRS : Hid (∃ a' c', Wi.Rd (W2.setCell ⟨W1.heap.size, 1, none⟩ (.int .i64 (k2 : Nat))) rh a' (encP (LA.drop (j + 1))).length c' (encP (LA.drop (j + 1))) 0 ∧ Lo Wx.heap.size (encP (LA.drop (j + 1))).length a') := by
            obtain ⟨a', c', hr, hl⟩ := HRD2.out
            exact ⟨a', c', rd_set hr c81 hne8.out _, hl⟩
          have s0 : (W2.setCell ⟨W1.heap.size, 1, none⟩ (.int .i64 (k2 : Nat))).cell? ⟨W1.heap.size, 0, none⟩ = some (.int .i64 (k1 : Nat)) := by rw [World.cell?_setCell_other _ _ _ _ (by simp)]; exact c80
          have s1 : (W2.setCell ⟨W1.heap.size, 1, none⟩ (.int .i64 (k2 : Nat))).cell? ⟨W1.heap.size, 1, none⟩ = some (.int .i64 (k2 : Nat)) := World.cell?_setCell_same _ _ _ c81
          clear hks c80 c81 f81 HKG2 HRD2 HO1 HK1 HA1 HN1 HN2 HO0
          generalize W1.heap.size = b8 at s0 s1 HOS HKS HRS hne8 ⊢
          generalize W2.setCell ⟨b8, 1, none⟩ (.int .i64 (k2 : Nat)) = WS at s0 s1 HOS HKS HRS ⊢
          have hoa := HOS.out.alloc (.cells #[.int .i64 (k1 : Nat), .int .i64 (k2 : Nat)] 48)
          have hsz : Wx.heap.size ≤ (WS.alloc (.cells #[.int .i64 (k1 : Nat), .int .i64 (k2 : Nat)] 48)).heap.size := by have := HKS.out.size; simp; omega
          go_wp2_with (at_builtin; refine wpList_append_ds rfl (.tmp 77) (.tmp 79) 23 48 rfl Tryz.underlying23 Wx.heap.size i0 hi hz0 hz1 hz2 _ _ rfl hoa _ 1 1 [((k1 : Int), (k2 : Int))] rfl (Ds.one _ _ _ _ _ rfl) (by have := hlj.out; omega) hsz ?_)
          intro v' w' hown' hgr'
          have HON := Lib.hid hown'
          have HKN : Hid (Wi.Kg rh Wx w') := kg_grown (HKS.out.tr (Wi.Kg.of ((RowKit.Below.refl _ _).alloc (Nat.le_refl _) _))) hgr' (fun b hb => (hoa.lt b hb).1)
          have HRN : Hid (∃ a' c', Wi.Rd w' rh a' (encP (LA.drop (j + 1))).length c' (encP (LA.drop (j + 1))) 0 ∧ Lo Wx.heap.size (encP (LA.drop (j + 1))).length a') := by
            obtain ⟨a', c', hr, hl⟩ := rd_alloc HRS.out (.cells #[.int .i64 (k1 : Nat), .int .i64 (k2 : Nat)] 48)
            exact ⟨a', c', rd_grown hr hl hgr' hoa hrx.out, hl⟩
          clear hown' hgr' hoa s0 s1
          go_wp2_with fail
          go_roundw
          case rel => exact ⟨j + 1, by omega, by congr 1; omega, by rw [HTK.out]; exact HON.out, HKN.out, HRN.out⟩
          case measure => simp [intOf]; omega
        · obtain rfl : nA = j := by omega
          have e0 : (nA : Int) - (nA : Int) = 0 := by omega
          rw [e0]
          have hd0 : LA.drop nA = [] := List.drop_of_length_le (by rw [HK.out]; exact Nat.le_refl _)
          have ht0 : LA.take nA = LA := List.take_of_length_le (by rw [HK.out]; exact Nat.le_refl _)
          rw [hd0] at hrd
          rw [ht0] at ho
          have HO0 := Lib.hid ho
          clear hd0 ht0 ho e0
          go_wp2_with fail
          go_meet
          exact ⟨HO0.out, hk, by obtain ⟨a', c', hr, -⟩ := hrd.out; exact ⟨a', c', hr⟩⟩
    case rest =>
      obtain ⟨ho, hk, hrd⟩ := hcut
      obtain ⟨a12, n12, c12, rfl, hn12, hds12⟩ := ho.dn
      have HOF := Lib.hid (of_self a12 n12 c12 LA HCA.out wc hds12 (by have := HK.out; omega))
      have gx := Lib.hid (Kc.below_kg HR9.out.bel HKX.out HR9.out.le)
      have gw := Lib.hid (Kc.below_kg gx.out hk.out HR9.out.le)
      have HQ10 : Hid (wc.cell? ⟨B10, 0, none⟩ = some (.slice ad nd cd) ∧ B10 < wc.heap.size ∧ Ds wc ad nd cd LA ∧ ∃ a' c', Wi.At2T wc rh (.slice a' 0 c') (.int .i64 0) 91) := by
        have hne := HR9.out.ne
        obtain ⟨a', c', hr⟩ := HR9.out.rd
        obtain ⟨a2, c2, hr2⟩ := hrd.out
        obtain ⟨a3, c3, hr3, -⟩ := HRX.out
        have h1 : Wi.Kg rh W9 wc := HKX.out.tr hk.out
        exact ⟨(h1.cell HR9.out.lt hne hne).trans HR9.out.q, Nat.lt_of_lt_of_le HR9.out.lt h1.size, ds_kg HR9.out.ds hr.1 (fun k z e => by cases e) h1, a2, c2, hr2.1⟩
      clear hds12 ho hn12
      go_upto_region 25 with (go_at_call 24; (with_reducible refine HOF.out.mono ?_); rintro e Wf ⟨a15, n15, c15, rfl, hdf, hbf⟩; have HDF := Lib.hid hdf; have HBF := Lib.hid hbf; clear hdf hbf)
      refine abs_wp (fun W => Fn W3 W rh B10 Wf.heap.size ad a15 nd n15 cd c15 LA) ?_ (fun WF hF => ?_)
      · obtain ⟨q10, l10, d10, a', c', h2⟩ := HQ10.out
        have hba : RowKit.Below Wf.heap.size Wf (Wf.alloc (.cells #[.slice a15 n15 c15] 25)) := (RowKit.Below.refl _ _).alloc (Nat.le_refl _) _
        have hbb := HBF.out.trans (hba.mono HBF.out.size)
        exact ⟨gw.out.trans (hbb.mono gw.out.size), (hbb.cell (p := ⟨B10, 0, none⟩) l10).trans q10, Nat.lt_of_lt_of_le l10 hbb.size, d10.below hbb (Nat.le_refl _), (new1 _ _ _).1, by simp, HDF.out.below hba (Nat.le_refl _), a', c', h2.below hbb⟩
      clear HDF HBF HOF HQ10 gx gw hrd hk HKX HRX HR9 HCN hrx hwx hrl
      generalize Wf.heap.size = B15 at hF ⊢
      have HF := Lib.hid hF
      clear hF
      have HF0 := Lib.hid (HF.out.below (RowKit.Below.refl _ _).drew)
      clear HF
      refine wp_region_noPanic ?_
      refine R4.region_ord (S := fun w' => w'.cell? ⟨B10, 0, none⟩ = some (.slice ad nd cd) ∧ w'.cell? ⟨B3, 0, none⟩ = some (.slice aA nA cA) ∧ w'.cell? ⟨B15, 0, none⟩ = some (.slice a15 n15 c15)) [0, 1, 2, 3, 4, 5, 6, 7, 8, 9, 10, 11, 12, 13, 14, 15, 16, 17, 18, 19, 20, 21, 22, 27, 23, 24, 25, 26, 28, 29, 30, 31, 32, 33, 34] (by kernel_rfl) (by decide +kernel) (fun _ _ _ _ _ h => h) (sat HG HF0) (fun _ => ?_)
      repeat (first
        | (refine R4.ord_skip rfl rfl rfl ?_; (try simp only [Act.put, List.setIfInBounds_toArray, List.set_cons_zero, List.set_cons_succ]))
        | (refine' R4.ord_light (v := _) rfl rfl rfl (fun w' hSw => ?_) ?_; rotate_left; (focus ((try dsimp only at hSw); go_simp <;> (with_reducible rfl))); (try simp only [Act.put, List.setIfInBounds_toArray, List.set_cons_zero, List.set_cons_succ])))
      refine R4.ord_heavy rfl rfl (fun K hK => ?_)
      go_simp
      go_at_call 25
      obtain ⟨ra, rc, hA2⟩ := HF0.out.rd
      refine (Wi.rend_ok rh ra 0 rc false _ hA2 rfl).mono ?_
      rintro e w1 ⟨rfl, rfl⟩
      clear hA2
      (try go_wp2_with fail)
      refine hK.out _ _ (sat HG HF0) ?_
      clear hK K
      (try simp only [Act.put, List.setIfInBounds_toArray, List.set_cons_zero, List.set_cons_succ])
      repeat (first
        | (refine R4.ord_skip rfl rfl rfl ?_; (try simp only [Act.put, List.setIfInBounds_toArray, List.set_cons_zero, List.set_cons_succ]))
        | (refine' R4.ord_light (v := _) rfl rfl rfl (fun w' hSw => ?_) ?_; rotate_left; (focus ((try dsimp only at hSw); go_simp <;> (with_reducible rfl))); (try simp only [Act.put, List.setIfInBounds_toArray, List.set_cons_zero, List.set_cons_succ])))
      refine R4.ord_heavy rfl rfl (fun K hK => ?_)
      go_simp
      go_at_call 14
      (with_reducible refine (equal_self _ _ _ _ _ _ _ _ HF0.out.d10 (HG.out _ HF0.out.bel).ds).mono ?_)
      rintro e we0 ⟨rfl, hbe⟩
      have HF1 := Lib.hid (HF0.out.below hbe)
      clear hbe
      (try go_wp2_with fail)
      refine hK.out _ _ (sat HG HF1) ?_
      clear hK K
      (try simp only [Act.put, List.setIfInBounds_toArray, List.set_cons_zero, List.set_cons_succ])
      repeat (first
        | (refine R4.ord_skip rfl rfl rfl ?_; (try simp only [Act.put, List.setIfInBounds_toArray, List.set_cons_zero, List.set_cons_succ]))
        | (refine' R4.ord_light (v := _) rfl rfl rfl (fun w' hSw => ?_) ?_; rotate_left; (focus ((try dsimp only at hSw); go_simp <;> (with_reducible rfl))); (try simp only [Act.put, List.setIfInBounds_toArray, List.set_cons_zero, List.set_cons_succ])))
      refine R4.ord_heavy rfl rfl (fun K hK => ?_)
      go_simp
      go_at_call 14
      (with_reducible refine (equal_self _ _ _ _ _ _ _ _ HF1.out.d15 (HG.out _ HF1.out.bel).ds).mono ?_)
      rintro e we1 ⟨rfl, hbe⟩
      have HF2 := Lib.hid (HF1.out.below hbe)
      clear hbe
      (try go_wp2_with fail)
      refine hK.out _ _ (sat HG HF2) ?_
      clear hK K
      (try simp only [Act.put, List.setIfInBounds_toArray, List.set_cons_zero, List.set_cons_succ])
      repeat (first
        | (refine R4.ord_skip rfl rfl rfl ?_; (try simp only [Act.put, List.setIfInBounds_toArray, List.set_cons_zero, List.set_cons_succ]))
        | (refine' R4.ord_light (v := _) rfl rfl rfl (fun w' hSw => ?_) ?_; rotate_left; (focus ((try dsimp only at hSw); go_simp <;> (with_reducible rfl))); (try simp only [Act.put, List.setIfInBounds_toArray, List.set_cons_zero, List.set_cons_succ])))
      refine R4.ord_heavy rfl rfl (fun K hK => ?_)
      go_simp
      go_at_call 11
      (with_reducible refine (text_self _ _ _ _ HCA.out _ HTX.out _ HF2.out.d10 (HW.out _ (HG.out _ HF2.out.bel).bel).pow).mono ?_)
      rintro e we2 ⟨rfl, hbe⟩
      have HF3 := Lib.hid (HF2.out.below hbe)
      clear hbe
      (try go_wp2_with fail)
      refine hK.out _ _ (sat HG HF3) ?_
      clear hK K
      (try simp only [Act.put, List.setIfInBounds_toArray, List.set_cons_zero, List.set_cons_succ])
      obtain ⟨cp3, C3, mk3, hcv3, hbw3⟩ := Wi.conv_bytes2 we2 tx (by omega)
      have HF4 := Lib.hid (HF3.out.below ((RowKit.Below.refl _ _).alloc (Nat.le_refl _) (.cells C3 5 mk3)).drew)
      have HBW3 := Lib.hid (hbw3.below (RowKit.Below.refl _ _).drew)
      have HPB3 : Hid (we2.heap.size < ((we2.alloc (.cells C3 5 mk3)).drew).heap.size) := (by simp : we2.heap.size < ((we2.alloc (.cells C3 5 mk3)).drew).heap.size)
      clear hbw3
      refine R4.ord_heavy rfl rfl (fun K hK => ?_)
      go_simp
      (try go_wp2_with fail)
      refine hK.out _ _ (sat HG HF4) ?_
      clear hK K
      (try simp only [Act.put, List.setIfInBounds_toArray, List.set_cons_zero, List.set_cons_succ])
      generalize (we2.alloc (.cells C3 5 mk3)).drew = wg3 at HF4 HBW3 HPB3 ⊢
      generalize we2.heap.size = pb3 at HBW3 HPB3 ⊢
      have hba3 : RowKit.Below wg3.heap.size wg3 (wg3.alloc (.cells #[.slice (some ⟨pb3, 0, none⟩) tx.size cp3] 51)) := (RowKit.Below.refl _ _).alloc (Nat.le_refl _) _
      have HF5 := Lib.hid (HF4.out.below hba3)
      have HTG3 := Lib.hid (Kc.tagged_any wg3.heap.size ⟨#[100, 97, 121, 115]⟩ pb3 0 tx.size cp3 (Wi.bytesN tx) _ (by decide) (new1 wg3 _ _).1 (HBW3.out.below hba3) (Nat.lt_of_lt_of_le HPB3.out hba3.size) htl (HKT.out _ (HG.out _ HF5.out.bel).bel))
      clear hba3
      refine R4.ord_heavy rfl rfl (fun K hK => ?_)
      go_simp
      (try go_wp2_with fail)
      refine hK.out _ _ (sat HG HF5) ?_
      clear hK K
      (try simp only [Act.put, List.setIfInBounds_toArray, List.set_cons_zero, List.set_cons_succ])
      refine R4.ord_heavy rfl rfl (fun K hK => ?_)
      go_simp
      go_at_call 26
      refine HTG3.out.mono ?_
      rintro e we5 ⟨rfl, hbe⟩
      have HF6 := Lib.hid (HF5.out.below hbe)
      clear hbe
      (try go_wp2_with fail)
      refine hK.out _ _ (sat HG HF6) ?_
      clear hK K
      (try simp only [Act.put, List.setIfInBounds_toArray, List.set_cons_zero, List.set_cons_succ])
      clear HTG3 HBW3 HPB3 hcv3
      try repeat (first
        | (refine R4.ord_skip rfl rfl rfl ?_; (try simp only [Act.put, List.setIfInBounds_toArray, List.set_cons_zero, List.set_cons_succ]))
        | (refine' R4.ord_light (v := _) rfl rfl rfl (fun w' hSw => ?_) ?_; rotate_left; (focus ((try dsimp only at hSw); go_simp <;> (with_reducible rfl))); (try simp only [Act.put, List.setIfInBounds_toArray, List.set_cons_zero, List.set_cons_succ])))
      refine R4.ord_heavy rfl rfl (fun K hK => ?_)
      go_simp
      go_at_call 11
      (with_reducible refine (text_self _ _ _ _ HCA.out _ HTX.out _ HF6.out.d15 (HW.out _ (HG.out _ HF6.out.bel).bel).pow).mono ?_)
      rintro e we6 ⟨rfl, hbe⟩
      have HF7 := Lib.hid (HF6.out.below hbe)
      clear hbe
      (try go_wp2_with fail)
      refine hK.out _ _ (sat HG HF7) ?_
      clear hK K
      (try simp only [Act.put, List.setIfInBounds_toArray, List.set_cons_zero, List.set_cons_succ])
      obtain ⟨cp7, C7, mk7, hcv7, hbw7⟩ := Wi.conv_bytes2 we6 tx (by omega)
      have HF8 := Lib.hid (HF7.out.below ((RowKit.Below.refl _ _).alloc (Nat.le_refl _) (.cells C7 5 mk7)).drew)
      have HBW7 := Lib.hid (hbw7.below (RowKit.Below.refl _ _).drew)
      have HPB7 : Hid (we6.heap.size < ((we6.alloc (.cells C7 5 mk7)).drew).heap.size) := (by simp : we6.heap.size < ((we6.alloc (.cells C7 5 mk7)).drew).heap.size)
      clear hbw7
      refine R4.ord_heavy rfl rfl (fun K hK => ?_)
      go_simp
      (try go_wp2_with fail)
      refine hK.out _ _ (sat HG HF8) ?_
      clear hK K
      (try simp only [Act.put, List.setIfInBounds_toArray, List.set_cons_zero, List.set_cons_succ])
      generalize (we6.alloc (.cells C7 5 mk7)).drew = wg7 at HF8 HBW7 HPB7 ⊢
      generalize we6.heap.size = pb7 at HBW7 HPB7 ⊢
      have hba7 : RowKit.Below wg7.heap.size wg7 (wg7.alloc (.cells #[.slice (some ⟨pb7, 0, none⟩) tx.size cp7] 51)) := (RowKit.Below.refl _ _).alloc (Nat.le_refl _) _
      have HF9 := Lib.hid (HF8.out.below hba7)
      have HTG7 := Lib.hid (Kc.tagged_any wg7.heap.size ⟨#[100, 97, 121, 115]⟩ pb7 0 tx.size cp7 (Wi.bytesN tx) _ (by decide) (new1 wg7 _ _).1 (HBW7.out.below hba7) (Nat.lt_of_lt_of_le HPB7.out hba7.size) htl (HKT.out _ (HG.out _ HF9.out.bel).bel))
      clear hba7
      refine R4.ord_heavy rfl rfl (fun K hK => ?_)
      go_simp
      (try go_wp2_with fail)
      refine hK.out _ _ (sat HG HF9) ?_
      clear hK K
      (try simp only [Act.put, List.setIfInBounds_toArray, List.set_cons_zero, List.set_cons_succ])
      refine R4.ord_heavy rfl rfl (fun K hK => ?_)
      go_simp
      go_at_call 26
      refine HTG7.out.mono ?_
      rintro e we9 ⟨rfl, hbe⟩
      have HF10 := Lib.hid (HF9.out.below hbe)
      clear hbe
      (try go_wp2_with fail)
      refine hK.out _ _ (sat HG HF10) ?_
      clear hK K
      (try simp only [Act.put, List.setIfInBounds_toArray, List.set_cons_zero, List.set_cons_succ])
      clear HTG7 HBW7 HPB7 hcv7
      have heq := fun W => dig_eql (Kc.tagB ⟨#[100, 97, 121, 115]⟩ (Wi.bytesN tx)) W
      have hgu := fun W => agg_guard (Kc.vals .u8 32 (Kc.digF (Kc.absF (Kc.lastF (Kc.byF (Kc.tagB ⟨#[100, 97, 121, 115]⟩ (Wi.bytesN tx))) (Kc.tagB ⟨#[100, 97, 121, 115]⟩ (Wi.bytesN tx)).length) Kc.zf))).toArray W
      rw [show Value.agg (Kc.vals .u8 32 (Kc.digF (Kc.absF (Kc.lastF (Kc.byF (Kc.tagB ⟨#[100, 97, 121, 115]⟩ (Wi.bytesN tx))) (Kc.tagB ⟨#[100, 97, 121, 115]⟩ (Wi.bytesN tx)).length) Kc.zf))).toArray = Kc.digV (Kc.tagB ⟨#[100, 97, 121, 115]⟩ (Wi.bytesN tx)) from rfl] at hgu
      generalize Kc.digV (Kc.tagB ⟨#[100, 97, 121, 115]⟩ (Wi.bytesN tx)) = V at heq hgu ⊢
      repeat (first
        | (refine R4.ord_skip rfl rfl rfl ?_; (try simp only [Act.put, List.setIfInBounds_toArray, List.set_cons_zero, List.set_cons_succ]))
        | (refine' R4.ord_light (v := _) rfl rfl rfl (fun w' hSw => ?_) ?_; rotate_left; (focus ((try dsimp only at hSw); go_simp <;> (with_reducible rfl))); (try simp only [Act.put, List.setIfInBounds_toArray, List.set_cons_zero, List.set_cons_succ])))
      refine R4.ord_nil (NoPanic.normal ?_)
      go_wp2_with fail
      go_ret
      exact ⟨rfl, (HG.out _ HF10.out.bel).bel⟩
end Go.Proofs.YtfdododighjjpaaGreatDoor.Dy
