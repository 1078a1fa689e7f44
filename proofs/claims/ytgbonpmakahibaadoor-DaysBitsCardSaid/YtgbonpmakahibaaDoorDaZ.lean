/- Contract: the closure 'same' of DaysBits. -/
import Derived.Test.YtgbonpmakahibaaDoorDaX
namespace Go.Proofs.YtgbonpmakahibaaDoor.Dy
open Go.RowKit Go.PlainAid
set_option linter.unusedVariables false
set_option linter.unusedSimpArgs false
set_option maxHeartbeats 8000000

theorem next_b (a : Option Addr) (n cap : Nat) (r : List (Int × Int)) (s : List Nat) (z : Nat) (y : Bool) (w : World) (h : Ds w a n cap r) (hB : RelB r s) (hz : s.headD 0 = z) (hy : (!s.isEmpty) = y) :
    Calls Tryd.prog 11 #[.agg #[.slice a n cap], .int .i64 0] w fun e w' => e = .returned (.tuple #[.int .i64 (z : Int), .bool y]) ∧ RowKit.Below w.heap.size w w' := by
  refine (next_any a n cap r 0 w h).mono ?_
  rintro e w' ⟨rfl, hb⟩
  obtain ⟨h1, h2⟩ := hB.first
  rw [h1, h2, hz, hy]
  exact ⟨rfl, hb⟩
theorem least_b (a : Option Addr) (n cap : Nat) (s : List Nat) (z : Nat) (y : Bool) (w : World) (hT : Tz w) (h : Bs w a n cap s) (hz : s.headD 0 = z) (hy : (!s.isEmpty) = y) :
    Calls Tryd.prog 36 #[.agg #[.slice a n cap]] w fun e w' => e = .returned (.tuple #[.int .i64 (z : Int), .bool y]) ∧ RowKit.Below w.heap.size w w' := by
  refine (Go.Proofs.YtgbonpmakahibaaDoor.least_any a n cap s w hT h).mono ?_
  rintro e w' ⟨rfl, hb⟩
  unfold firstP
  rw [hz, hy]
  exact ⟨rfl, hb⟩
theorem lenb_b (a : Option Addr) (n cap : Nat) (s : List Nat) (z : Nat) (w : World) (h : Bs w a n cap s) (hz : s.length = z) :
    Calls Tryd.prog 37 #[.agg #[.slice a n cap]] w fun e w' => e = .returned (.int .i64 (z : Int)) ∧ RowKit.Below w.heap.size w w' := by
  rw [← hz]; exact Go.Proofs.YtgbonpmakahibaaDoor.len_any a n cap s w h
theorem hasb_b (a : Option Addr) (n cap : Nat) (s : List Nat) (p : Int) (w : World) (h : Bs w a n cap s) (hp : hasB s p = true) :
    Calls Tryd.prog 39 #[.agg #[.slice a n cap], .int .i64 p] w fun e w' => e = .returned (.bool true) ∧ RowKit.Below w.heap.size w w' := by
  rw [← hp]; exact Go.Proofs.YtgbonpmakahibaaDoor.has_any a n cap s p w h
def Sm (w0 : World) (a : Option Addr) (n ca : Nat) (b : Option Addr) (m cb : Nat) (W : World) : Prop :=
  W.cell? ⟨w0.heap.size, 0, none⟩ = some (.slice a n ca) ∧ W.cell? ⟨w0.heap.size + 1, 0, none⟩ = some (.slice b m cb) ∧ RowKit.Below w0.heap.size w0 W ∧ w0.heap.size + 2 ≤ W.heap.size
theorem Sm.go {w0 W W' : World} {a b : Option Addr} {n ca m cb : Nat} (h : Sm w0 a n ca b m cb W) (hb : RowKit.Below W.heap.size W W') : Sm w0 a n ca b m cb W' := by
  obtain ⟨h1, h2, h3, h4⟩ := h
  exact ⟨(hb.cell (p := ⟨_, 0, none⟩) (show w0.heap.size < W.heap.size by omega)).trans h1, (hb.cell (p := ⟨_, 0, none⟩) (show w0.heap.size + 1 < W.heap.size by omega)).trans h2, h3.trans (hb.mono (by omega)), Nat.le_trans h4 hb.size⟩
theorem Sm.new (w : World) (a : Option Addr) (n ca : Nat) (b : Option Addr) (m cb : Nat) (T U : TypeId) : Sm w a n ca b m cb ((w.alloc (.cells #[.slice a n ca] T)).alloc (.cells #[.slice b m cb] U)) := by
  obtain ⟨qa, qb, -, h, hD⟩ := box2 (RowKit.Below.refl (w.heap.size + 2) ((w.alloc (.cells #[.slice a n ca] T)).alloc (.cells #[.slice b m cb] U)))
  exact ⟨qa, qb, hD, h⟩
/-- .. and the box of the span at hand. -/
def Sn (w0 : World) (a : Option Addr) (n ca : Nat) (b : Option Addr) (m cb : Nat) (wr : World) (p1 p2 : Int) (W : World) : Prop :=
  Sm w0 a n ca b m cb W ∧ W.cell? ⟨wr.heap.size, 0, none⟩ = some (.int .i64 p1) ∧ W.cell? ⟨wr.heap.size, 1, none⟩ = some (.int .i64 p2) ∧ RowKit.Below wr.heap.size wr W ∧ wr.heap.size < W.heap.size
theorem Sn.go {w0 W W' wr : World} {a b : Option Addr} {n ca m cb : Nat} {p1 p2 : Int} (h : Sn w0 a n ca b m cb wr p1 p2 W) (hb : RowKit.Below W.heap.size W W') : Sn w0 a n ca b m cb wr p1 p2 W' := by
  obtain ⟨h1, h2, h3, h4, h5⟩ := h
  exact ⟨h1.go hb, (hb.cell (p := ⟨_, 0, none⟩) h5).trans h2, (hb.cell (p := ⟨_, 1, none⟩) h5).trans h3, h4.trans (hb.mono (Nat.le_of_lt h5)), Nat.lt_of_lt_of_le h5 hb.size⟩
theorem Sn.new {w0 wr : World} {a b : Option Addr} {n ca m cb : Nat} (p1 p2 : Int) (T : TypeId) (h : Sm w0 a n ca b m cb wr) : Sn w0 a n ca b m cb wr p1 p2 (wr.alloc (.cells #[.int .i64 p1, .int .i64 p2] T)) := by
  have hb := ((RowKit.Below.refl wr.heap.size wr).alloc (Nat.le_refl _) (.cells #[.int .i64 p1, .int .i64 p2] T))
  exact ⟨h.go hb, (new2 wr _ _ _).1, (new2 wr _ _ _).2, hb, by show wr.heap.size < (wr.alloc _).heap.size; simp⟩
set_option maxRecDepth 100000 in
theorem same_any (a b : Option Addr) (n ca m cb : Nat) (r : List (Int × Int)) (s : List Nat) (w : World) (h : Ds w a n ca r) (k : Bs w b m cb s) (hB : RelB r s) (hT : Tz w) :
    Calls Tryd.prog 35 #[.agg #[.slice a n ca], .agg #[.slice b m cb]] w fun e w' => e = .returned (.bool true) ∧ RowKit.Below w.heap.size w w' := by
  have hn : n ≤ 15001 := by rw [← h.1]; exact can_len hB.can
  obtain ⟨z, hz⟩ : ∃ z, s.headD 0 = z := ⟨_, rfl⟩
  obtain ⟨y, hy⟩ : ∃ y, (!s.isEmpty) = y := ⟨_, rfl⟩
  obtain ⟨q, hq⟩ : ∃ q, s.length = q := ⟨_, rfl⟩
  have hlq : lenD r = (q : Int) := by rw [hB.len, hq]
  have HNX := Lib.hid (fun W (hb : RowKit.Below w.heap.size w W) => next_b a n ca r s z y W (h.below hb (Nat.le_refl _)) hB hz hy)
  have HLE := Lib.hid (fun W (hb : RowKit.Below w.heap.size w W) => least_b b m cb s z y W (hT.below hb) (k.below hb) hz hy)
  have HLA := Lib.hid (fun W (hb : RowKit.Below w.heap.size w W) => len_x a n ca r W (h.below hb (Nat.le_refl _)) hB.can q hlq)
  have HLB := Lib.hid (fun W (hb : RowKit.Below w.heap.size w W) => lenb_b b m cb s q W (k.below hb) hq)
  have HSP := Lib.hid (fun W (hb : RowKit.Below w.heap.size w W) => spans_any a n ca r W (h.below hb (Nat.le_refl _)) (by omega))
  have HHA := Lib.hid (fun p (hp : hasB s p = true) W (hb : RowKit.Below w.heap.size w W) => hasb_b b m cb s p W (k.below hb) hp)
  have HHB := Lib.hid (fun p (hp : p ∈ r) => hB.has hp)
  have HL := Lib.hid h.1
  clear h k hB hT hz hy hq hlq
  go_enter Tryd.func35, Tryd.ntmps35
  have hst := Sm.new w a n ca b m cb 26 55
  obtain ⟨qa, qb, hD, hzz⟩ := id hst
  go_wp2_with (first
    | (go_at_call 11; (with_reducible refine (HNX.out _ hD).mono ?_); rintro e w1 ⟨rfl, hb1⟩; have hst := hst.go hb1; obtain ⟨qa, qb, hD, hzz⟩ := id hst)
    | (go_at_call 36; (with_reducible refine (HLE.out _ hD).mono ?_); rintro e w2 ⟨rfl, hb2⟩; have hst := hst.go hb2; obtain ⟨qa, qb, hD, hzz⟩ := id hst)
    | (go_at_call 29; (with_reducible refine (HLA.out _ hD).mono ?_); rintro e w3 ⟨rfl, hb3⟩; have hst := hst.go hb3; obtain ⟨qa, qb, hD, hzz⟩ := id hst)
    | (go_at_call 37; (with_reducible refine (HLB.out _ hD).mono ?_); rintro e w4 ⟨rfl, hb4⟩; have hst := hst.go hb4; obtain ⟨qa, qb, hD, hzz⟩ := id hst)
    | (go_at_call 38; (with_reducible refine (HSP.out _ hD).mono ?_); rintro e w5 ⟨v5, rfl, hb5, hown5⟩; have hst := hst.go hb5; obtain ⟨qa, qb, hD, hzz⟩ := id hst; obtain ⟨a5, n5, c5, rfl, hn5, hd5⟩ := hown5.dn; have HD5 := Lib.hid hd5; have HN5 := Lib.hid (hn5.trans HL.out); clear hn5 hd5 hown5))
  have hst := hst.go ((RowKit.Below.refl w2.heap.size w2).drew)
  obtain ⟨qa, qb, hD, hzz⟩ := id hst
  refine wp_region_noPanic ?_
  refine region_ord (S := fun w' => w'.cell? ⟨w.heap.size, 0, none⟩ = some (.slice a n ca) ∧ w'.cell? ⟨w.heap.size + 1, 0, none⟩ = some (.slice b m cb)) [0, 2, 1, 3, 4, 5, 6, 7, 8, 9, 10, 11, 12, 13, 14] (by kernel_rfl) (by decide +kernel) (fun _ _ _ _ _ h => h) (⟨qa, qb⟩) (fun _ => ?_)
  repeat (first
    | (refine ord_skip rfl rfl rfl ?_; (try simp only [Act.put, List.setIfInBounds_toArray, List.set_cons_zero, List.set_cons_succ]))
    | (refine' ord_light (v := _) rfl rfl rfl (fun w' hSw => ?_) ?_; rotate_left; (focus ((try dsimp only at hSw); go_simp <;> (with_reducible rfl))); (try simp only [Act.put, List.setIfInBounds_toArray, List.set_cons_zero, List.set_cons_succ]))
    | (refine ord_heavy rfl rfl (fun K hK => ?_); go_simp; (go_at_call 29; (with_reducible refine (HLA.out _ hD).mono ?_); rintro e w3 ⟨rfl, hb3⟩; have hst := hst.go hb3; obtain ⟨qa, qb, hD, hzz⟩ := id hst); (try go_wp2_with fail); refine hK.out _ _ (⟨hst.1, hst.2.1⟩) ?_; clear hK K; (try simp only [Act.put, List.setIfInBounds_toArray, List.set_cons_zero, List.set_cons_succ]))
    | (refine ord_heavy rfl rfl (fun K hK => ?_); go_simp; (go_at_call 37; (with_reducible refine (HLB.out _ hD).mono ?_); rintro e w4 ⟨rfl, hb4⟩; have hst := hst.go hb4; obtain ⟨qa, qb, hD, hzz⟩ := id hst); (try go_wp2_with fail); refine hK.out _ _ (⟨hst.1, hst.2.1⟩) ?_; clear hK K; (try simp only [Act.put, List.setIfInBounds_toArray, List.set_cons_zero, List.set_cons_succ]))
    | (refine ord_heavy rfl rfl (fun K hK => ?_); go_simp; (try go_wp2_with fail); refine hK.out _ _ (⟨hst.1, hst.2.1⟩) ?_; clear hK K; (try simp only [Act.put, List.setIfInBounds_toArray, List.set_cons_zero, List.set_cons_succ])))
  refine ord_nil (NoPanic.normal ?_)
  go_wp2_with ((go_at_call 38; (with_reducible refine (HSP.out _ hD).mono ?_); rintro e w5 ⟨v5, rfl, hb5, hown5⟩; have hst := hst.go hb5; obtain ⟨qa, qb, hD, hzz⟩ := id hst; obtain ⟨a5, n5, c5, rfl, hn5, hd5⟩ := hown5.dn; have HD5 := Lib.hid hd5; have HN5 := Lib.hid (hn5.trans HL.out); clear hn5 hd5 hown5))
  go_loopw [39] (fun v wr => ∃ j : Nat, j ≤ n5 ∧ v = .int .i64 j ∧ RowKit.Below w5.heap.size w5 wr) (fun v _ => n5 - (intOf v).toNat)
  case atStart => exact ⟨0, by omega, rfl, RowKit.Below.refl _ _⟩
  case round =>
    obtain ⟨j, hj, rfl, hbel⟩ := hrel
    have hj0 : (0 : Int) ≤ (j : Int) := Int.natCast_nonneg _
    have hst6 := hst.go hbel
    clear qa qb hD hzz
    obtain ⟨qa, qb, hD, hzz⟩ := id hst6
    by_cases hjn : j < n5
    · have hj1 : (j : Int) < (n5 : Int) := by omega
      rcases HD5.out.2.2.2 with h1 | ⟨b1, o1, rfl, hb1, hcell1⟩
      · omega
      obtain ⟨⟨p1, p2⟩, hp⟩ : ∃ p, r[j]? = some p := ⟨_, List.getElem?_eq_getElem (by rw [HL.out, ← HN5.out]; exact hjn)⟩
      obtain ⟨x1, x2⟩ := hcell1 j _ hp
      dsimp only at x1 x2
      have x1 := (hbel.cell (p := ⟨b1, _, none⟩) hb1).trans x1
      have x2 := (hbel.cell (p := ⟨b1, _, none⟩) hb1).trans x2
      have hh := HHB.out _ (List.mem_of_getElem? hp)
      dsimp only at hh
      have hn5 : n5 ≤ 15001 := by rw [HN5.out]; exact hn
      have hsn := Sn.new p1 p2 60 hst6
      clear hcell1 hp
      obtain ⟨⟨-, qb7, hD7, -⟩, x3, x4, -, -⟩ := id hsn
      go_wp2_with (first
        | (go_at_call 39; (with_reducible refine (HHA.out p1 hh.1 _ hD7).mono ?_); rintro e w6 ⟨rfl, hb6⟩; have hsn := hsn.go hb6; obtain ⟨⟨-, qb7, hD7, -⟩, x3, x4, -, -⟩ := id hsn)
        | (go_at_call 39; (with_reducible refine (HHA.out p2 hh.2 _ hD7).mono ?_); rintro e w7 ⟨rfl, hb7⟩; have hsn := hsn.go hb7; obtain ⟨⟨-, qb7, hD7, -⟩, x3, x4, -, -⟩ := id hsn))
      go_roundw
      case rel => exact ⟨j + 1, by omega, by go_num, hbel.trans (hsn.2.2.2.1.mono hbel.size)⟩
      case measure => simp [intOf]; omega
    · have hj1 : ¬ (j : Int) < (n5 : Int) := by omega
      go_wp2_with fail
      go_ret
      exact ⟨rfl, hD⟩
end Go.Proofs.YtgbonpmakahibaaDoor.Dy
