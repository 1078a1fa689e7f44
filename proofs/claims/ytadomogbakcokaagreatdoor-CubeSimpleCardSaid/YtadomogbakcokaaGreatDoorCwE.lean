/- Contracts: the reader's Set. -/
import Derived.Test.YtadomogbakcokaaGreatDoorCwD
namespace Go.Proofs.YtadomogbakcokaaGreatDoor
open Go.RowKit Go.PlainAid
set_option linter.unusedVariables false
set_option linter.unusedSimpArgs false
set_option maxHeartbeats 4000000
set_option maxRecDepth 20000

/-- The bytes ps are those of a set's bytes p, and r behind them. -/
def Front (ps p r : List Nat) : Prop := p.length < 128 ∧ readOK p ∧ ps = p.length :: (p ++ r)
theorem read_y (a : Option Addr) (n cap : Nat) (ps : List Nat) (w : World) (h : Bw w a n cap ps) (hn : n ≤ 1000) (ho : readOK ps) :
    Calls Tryz.prog 110 #[.slice a n cap] w fun e w' => ∃ b m d, e = .returned (.tuple #[.agg #[.slice b m d], .int .i64 0]) ∧ Bs w' b m d (readL ps) ∧ Below w.heap.size w w' := by
  refine (read_any a n cap ps w h (by omega)).mono ?_
  rintro e w' ⟨⟨_, b, m, d, rfl, hs⟩ | ⟨hno, _⟩, hb⟩
  · exact ⟨b, m, d, rfl, hs, hb⟩
  · exact absurd ho hno
theorem greatest_c (a : Option Addr) (n cap : Nat) (l : List Nat) (w : World) (h : Bs w a n cap l) :
    Calls Tryz.prog 112 #[.agg #[.slice a n cap]] w fun e w' => ∃ (x : Nat) (t : Bool), e = .returned (.tuple #[.int .i64 (x : Nat), .bool t]) ∧ x ≤ 4095 ∧ Below w.heap.size w w' := by
  have hl : Asc l := by obtain ⟨ws, _, hr⟩ := h; exact hr.asc
  refine (greatest_any a n cap l w h).mono ?_
  rintro e w' ⟨rfl, hb⟩
  refine ⟨_, _, rfl, ?_, hb⟩
  by_cases he : l = []
  · rw [he]; simp
  · have hm : l.getLastD 0 ∈ l := by
      rw [List.getLastD_eq_getLast?, List.getLast?_eq_some_getLast he, Option.getD_some]; exact List.getLast_mem he
    have := hl.2 _ hm
    omega
theorem Rd.put {W : World} {g k : Nat} {a : Option Addr} {n c : Nat} {ps : List Nat} {e : Int} {u v : Value} (h : Rd W g a n c ps e) (hk : g ≠ k) (hc : W.cell? ⟨k, 0, none⟩ = some v) (hv : ∀ z, v ≠ .int .u8 z) : Rd (W.setCell ⟨k, 0, none⟩ u) g a n c ps e := by
  obtain ⟨h1, ⟨b1, b2, b3, b4, b5⟩, h3, h4⟩ := h
  refine ⟨(Below.heap_setCell _ _ _ g hk).trans h1, ⟨b1, b2, b3, b4, ?_⟩, h3, h4⟩
  rcases b5 with b5 | ⟨b, o, e1, b6, b7⟩
  · exact .inl b5
  · refine .inr ⟨b, o, e1, by simpa using b6, fun j hj => ?_⟩
    rw [World.cell?_setCell_other _ _ _ _ (fun e2 => ?_)]
    · exact b7 j hj
    · have := b7 j hj
      rw [← e2, hc] at this
      exact hv _ (Option.some.inj this)
theorem front_get {ps p r : List Nat} {n : Nat} (hF : Front ps p r) (hn : ps.length = n) : ps[0]? = some p.length ∧ (ps.drop 1).take p.length = p ∧ (ps.drop 1).drop p.length = r ∧ n - 1 - p.length = r.length ∧ p.length + 1 ≤ n := by
  obtain ⟨h1, h2, rfl⟩ := hF
  refine ⟨rfl, by simp, by simp, ?_, ?_⟩
  · rw [← hn]; simp
  · rw [← hn]; simp
theorem kg_cell {g k : Nat} {W W' : World} (h : Kg g W W') (hk : k < W.heap.size) (hne : k ≠ g) (j : Nat) : W'.cell? ⟨k, j, none⟩ = W.cell? ⟨k, j, none⟩ := h.cell hk hne hne
theorem kg_at1 {g k : Nat} {x : Value} {W W' : World} (h : Kg g W W') (hx : At1 W k x) (hne : k ≠ g) : At1 W' k x := ⟨(kg_cell h hx.2 hne 0).trans hx.1, Nat.lt_of_lt_of_le hx.2 h.size⟩
/-- A box of one cell. -/
def At1T (W : World) (k : Nat) (x : Value) (T : TypeId) : Prop := W.heap[k]? = some (.cells #[x] T (0, 0))
theorem At1T.new (w : World) (x : Value) (T : TypeId) : At1T (w.alloc (.cells #[x] T)) w.heap.size x T := World.alloc_heap_new w _
theorem At1T.lt {W : World} {k : Nat} {x : Value} {T : TypeId} (h : At1T W k x T) : k < W.heap.size := (Array.getElem?_eq_some_iff.1 h).1
theorem At1T.below {W W' : World} {k : Nat} {x : Value} {T : TypeId} (h : At1T W k x T) (hb : Below W.heap.size W W') : At1T W' k x T := (hb.block k h.lt).trans h
theorem At1T.kg {g k : Nat} {W W' : World} {x : Value} {T : TypeId} (h : At1T W k x T) (hk : Kg g W W') (hne : k ≠ g) : At1T W' k x T := (hk.block k h.lt hne hne).trans h
theorem At1T.cell {W : World} {k : Nat} {x : Value} {T : TypeId} (h : At1T W k x T) : W.cell? ⟨k, 0, none⟩ = some x := by unfold At1T at h; simp [World.cell?, h]
theorem At1T.frz {W : World} {k : Nat} {x : Value} {T : TypeId} (h : At1T W k x T) (j : Nat) : W.frozen? ⟨k, j, none⟩ = false := by
  unfold At1T at h
  simp [World.frozen?, h]
theorem set_eq {W : World} {k : Nat} {x u : Value} (h : W.cell? ⟨k, 0, none⟩ = some x) : (W.setCell ⟨k, 0, none⟩ u).cell? ⟨k, 0, none⟩ = some u := World.cell?_setCell_same _ _ _ h
theorem kg_put {g k : Nat} {W W' : World} {u : Value} (h : Kg g W W') (hk : W.heap.size ≤ k) : Kg g W (W'.setCell ⟨k, 0, none⟩ u) := But.trans h (But.set _ _ (.inr (.inr hk)))
theorem rset_yes (g : Nat) (a : Option Addr) (n c : Nat) (ps p r : List Nat) (W : World) (h : Rd W g a n c ps 0) (hn : n ≤ 100) (hF : Front ps p r) :
    Calls Tryz.prog 84 #[.pointer (some ⟨g, 0, none⟩), .int .i64 4095] W fun e W' => ∃ b m d a' c', e = .returned (.agg #[.slice b m d]) ∧ Bs W' b m d (readL p) ∧ Rd W' g a' r.length c' r 0 ∧ Kg g W W' := by
  obtain ⟨f1, f2, f3, f4, f5⟩ := front_get hF h.2.1.1
  have hg := h.1.lt
  obtain ⟨W0, hW0⟩ : ∃ W0, W.alloc (.cells #[.slice none 0 0] 32) = W0 := ⟨_, rfl⟩
  have hb0 : Below W.heap.size W W0 := by rw [← hW0]; exact (Below.refl _ _).alloc (Nat.le_refl _) _
  have hA4 : At1T W0 W.heap.size (.slice none 0 0) 32 := by rw [← hW0]; exact At1T.new _ _ _
  have hrd0 := h.below hb0
  have q0 := hrd0.1.at.1
  have q4 := hA4.cell
  have HA4 := Lib.hid hA4
  have HB0 := Lib.hid hb0
  have HRD0 := Lib.hid hrd0
  have HBY := Lib.hid (rbytes_yes g a n c p.length ps W0 hrd0 hn f1 hF.1 f5)
  rw [f2, f3, f4] at HBY
  have HOK := Lib.hid hF.2.1
  have HNE : Hid (W.heap.size ≠ g) := fun e => by omega
  have HP5 : Hid (p.length ≤ 1000) := by have := hF.1; show _ ≤ _; omega
  obtain ⟨k4, ek4⟩ : ∃ k4, W.heap.size = k4 := ⟨_, rfl⟩
  rw [ek4] at q4 HA4 HNE
  have HK4 := Lib.hid ek4
  generalize hL : readL p = L
  generalize p.length = v at *
  have HL := Lib.hid hL
  clear h hn hF f1 f2 f3 f4 f5 hrd0 hb0 hA4 hL
  have tk0 : Hid True := trivial
  go_enter Tryz.func84, Tryz.ntmps84
  go_upto_region 1 with fail
  clear hW0 ek4
  go_wp2_with (first
    | (go_at_call 109; clear tk0; refine (rok_any g _ 0 true _ HRD0.out.1 rfl).mono ?_; have tk1 : Hid True := trivial; rintro e w1 ⟨rfl, rfl⟩)
    | (go_at_call 111; refine HBY.out.mono ?_; rintro e w1 ⟨b, m, a', c', rfl, hbw, hrd, hk⟩; have HBW := Lib.hid hbw; have HRD1 := Lib.hid hrd; have HK1 := Lib.hid ((Kg.of HB0.out).tr hk); have HA1 := Lib.hid (HA4.out.kg hk HNE.out); clear q0 q4 hbw hrd hk)
    | (go_at_call 110; (with_reducible refine (read_y _ _ _ _ _ HBW.out HP5.out HOK.out).mono ?_); rintro e w2 ⟨a2, n2, c2, rfl, hs, hb⟩; rw [HL.out] at hs; have hbx := (Below.refl w2.heap.size w2).alloc (Nat.le_refl _) (.cells #[.slice a2 n2 c2] 32); have hA6 := At1T.new w2 (.slice a2 n2 c2) 32; have q6 := hA6.cell; have HA6 := Lib.hid hA6; have HRD2 := Lib.hid ((HRD1.out.below hb).below hbx); have HA2 := Lib.hid ((HA1.out.below hb).below hbx); have HS2 := Lib.hid (hs.below hbx); have HK2 := Lib.hid ((HK1.out.tr (Kg.of hb)).tr (Kg.of hbx)); clear hs hb hbx hA6)
    | (go_at_call 109; clear tk1; refine (rok_any g _ 0 true _ HRD2.out.1 rfl).mono ?_; rintro e w3 ⟨rfl, hw3⟩; rw [hw3]; clear hw3)
    | (go_at_call 112; (with_reducible refine (greatest_c _ _ _ L _ HS2.out).mono ?_); rintro e w3 ⟨x, t, rfl, hx, hb⟩; have hx2 : ¬ (4095 : Int) < (x : Int) := (fun e => Nat.not_lt.2 hx (Int.ofNat_lt.1 e)); replace q6 := (HA6.out.below hb).cell; have q4 := (HA2.out.below hb).cell; have q5 := (HA2.out.below hb).frz 0; have HRD3 := Lib.hid (HRD2.out.below hb); have HS3 := Lib.hid (HS2.out.below hb); have HK3 := Lib.hid (HK2.out.tr (Kg.of hb)); clear hb hx; cases t))
  all_goals
    have cs0 := set_eq (u := .slice a2 n2 c2) q4
    refine bodyPost_ret (v := .agg #[.slice a2 n2 c2]) (by simp [results, Tryz.results84, go_sem, cs0]) rfl ?_
    exact ⟨_, _, _, _, _, rfl, HS3.out.set q4 (fun z hz => by cases hz), HRD3.out.put HNE.out.symm q4 (fun z hz => by cases hz), kg_put HK3.out (Nat.le_of_eq HK4.out)⟩
end Go.Proofs.YtadomogbakcokaaGreatDoor
