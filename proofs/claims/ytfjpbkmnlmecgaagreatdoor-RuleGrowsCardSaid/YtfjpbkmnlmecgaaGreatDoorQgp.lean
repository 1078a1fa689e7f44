/- Several of the texts below, joined: RuT RuU RuV RuW RuX. -/
import Derived.Test.YtfjpbkmnlmecgaaGreatDoorQgg
import Derived.Test.YtfjpbkmnlmecgaaGreatDoorQgo
import Derived.Test.YtfjpbkmnlmecgaaGreatDoorQgi
import Derived.Deep.RegionHeld3
section
/- The parser in memory: what stays (Base), where its reader stands (Pw). -/
namespace Go.Proofs.YtfjpbkmnlmecgaaGreatDoor.Ru
open Go.RowKit Go.PlainAid Go.Maps Go.Proofs.YtfjpbkmnlmecgaaGreatDoor Go.Proofs.YtfjpbkmnlmecgaaGreatDoor.Bz
set_option linter.unusedVariables false
set_option linter.unusedSimpArgs false
set_option maxHeartbeats 4000000
set_option maxRecDepth 20000

/-- The reader of a parser stands at s; N: the blocks ahead of it stay, but for the reader's own. -/
def Pw (W0 : World) (g : Nat) (ts : List Tok) (s : RS) (w : World) : Prop :=
  W0.grownBy w (some g) ∧ Rd tokV w g W0.heap.size ts s.pos s.off s.e ∧ g < W0.heap.size
theorem Pw.size {W0 w : World} {g : Nat} {ts : List Tok} {s : RS} (h : Pw W0 g ts s w) : W0.heap.size ≤ w.heap.size := h.1.size
theorem Pw.after {W0 w w' : World} {g : Nat} {ts : List Tok} {s : RS} (h : Pw W0 g ts s w) (hb : Below W0.heap.size w w') : Pw W0 g ts s w' := by
  obtain ⟨h1, h2, h3⟩ := h
  refine ⟨⟨hb.os.trans h1.os, hb.tape.trans h1.tape, hb.output.trans h1.output, Nat.le_trans h1.size hb.size, fun k hk hr => (hb.block k hk).trans (h1.block k hk hr)⟩, ?_, h3⟩
  obtain ⟨a, cap, ⟨c0, c1, c2, c3, f0, f1, f2, f3, hz⟩, hc, hm, hx⟩ := h2
  have hsz := hb.size
  have hbg : w'.heap[g]? = w.heap[g]? := hb.block g h3
  refine ⟨a, cap, ⟨?_, ?_, ?_, ?_, ?_, ?_, ?_, ?_, by omega⟩, hc, hm, ?_⟩
  · rw [World.cell?_of_block (w := w) hbg]; exact c0
  · rw [World.cell?_of_block (w := w) hbg]; exact c1
  · rw [World.cell?_of_block (w := w) hbg]; exact c2
  · rw [World.cell?_of_block (w := w) hbg]; exact c3
  · rw [World.frozen?_of_block (w := w) hbg]; exact f0
  · rw [World.frozen?_of_block (w := w) hbg]; exact f1
  · rw [World.frozen?_of_block (w := w) hbg]; exact f2
  · rw [World.frozen?_of_block (w := w) hbg]; exact f3
  · rcases hx with hx | ⟨b, o, ha, n1, n2, hbl, hcell⟩
    · exact .inl hx
    · refine .inr ⟨b, o, ha, n1, n2, by omega, fun j hj => ?_⟩
      rw [World.cell?_of_block (w := w) (hb.block b n2)]; exact hcell j hj
theorem Pw.below {W0 w w' : World} {g : Nat} {ts : List Tok} {s : RS} (h : Pw W0 g ts s w) (hb : Below w.heap.size w w') : Pw W0 g ts s w' := h.after (hb.mono h.size)
theorem Pw.call {W0 w w' : World} {g : Nat} {ts : List Tok} {s : RS} (h : Pw W0 g ts s w) (hg : w.grownBy w' (some g)) {p o e : Nat} (hr : Rd tokV w' g W0.heap.size ts p o e) : Pw W0 g ts ⟨p, o, e⟩ w' :=
  ⟨gb_trans h.1 hg, hr, h.2.2⟩
/-- What a parser's blocks hold, as long as only the reader's block is written. -/
structure Base (W0 : World) (g P t : Nat) (ns : List ByteArray) (a : Option Addr) (n cap : Nat) (adm : List Nat) : Prop where
  hP : ∀ w, W0.grownBy w (some g) → w.heap[P]? = some (.cells #[.pointer (some ⟨g, 0, none⟩), .pointer (some ⟨t, 0, none⟩), .slice a n cap] 136 (0, 0))
  hT : ∀ w, W0.grownBy w (some g) → Tb w t ns
  hA : ∀ w, W0.grownBy w (some g) → Bs w a n cap adm
theorem Base.cells {W0 w : World} {g P t : Nat} {ns : List ByteArray} {a : Option Addr} {n cap : Nat} {adm : List Nat} {ts : List Tok} {s : RS} (hB : Base W0 g P t ns a n cap adm) (h : Pw W0 g ts s w) :
    w.cell? ⟨P, 0, none⟩ = some (.pointer (some ⟨g, 0, none⟩)) ∧ w.cell? ⟨P, 1, none⟩ = some (.pointer (some ⟨t, 0, none⟩)) ∧ w.cell? ⟨P, 2, none⟩ = some (.slice a n cap) := by
  have hq := hB.hP w h.1
  exact ⟨by rw [cell_of_row _ _ 0 _ _ _ hq]; rfl, by rw [cell_of_row _ _ 1 _ _ _ hq]; rfl, by rw [cell_of_row _ _ 2 _ _ _ hq]; rfl⟩
def envOf (ns : List ByteArray) (adm : List Nat) : Env := ⟨fun s => if 0 < numB ns s then some (numB ns s) else none, adm⟩
/-- What a step of the parser answers. -/
def StP (W0 : World) (g : Nat) (ts : List Tok) (w : World) (v : Value) (s : RS) (e : Ending) (w' : World) : Prop :=
  e = .returned v ∧ Pw W0 g ts s w' ∧ w.grownBy w' (some g)
theorem p_peek {W0 w : World} {g : Nat} {ts : List Tok} {s : RS} (h : Pw W0 g ts s w) (hi : InT ts s) :
    Calls Tryz.prog 66 #[.pointer (some ⟨g, 0, none⟩)] w fun en w' => en = .returned (aggP (pk ts s)) ∧ Below w.heap.size w w' := peek_any w g _ ts s.pos s.off s.e h.2.1 hi
theorem p_accept {W0 w : World} {g : Nat} {ts : List Tok} {s : RS} (x : ByteArray) (h : Pw W0 g ts s w) (hi : InT ts s) :
    Calls Tryz.prog 149 #[.pointer (some ⟨g, 0, none⟩), .string x] w (StP W0 g ts w (.bool (accB ts x s)) (accS ts x s)) :=
  (accept_any w g _ ts s.pos s.off s.e x h.2.1 hi).mono fun e w' ⟨h1, h2, h3⟩ => ⟨h1, h.call h2 h3, h2⟩
theorem p_expect {W0 w : World} {g : Nat} {ts : List Tok} {s : RS} (x : ByteArray) (h : Pw W0 g ts s w) (hi : InT ts s) :
    Calls Tryz.prog 150 #[.pointer (some ⟨g, 0, none⟩), .string x] w (StP W0 g ts w (.tuple #[]) (expS ts x s)) :=
  (expect_any w g _ ts s.pos s.off s.e x h.2.1 hi).mono fun e w' ⟨h1, h2, h3⟩ => ⟨h1, h.call h2 h3, h2⟩
theorem p_fail {W0 w : World} {g : Nat} {ts : List Tok} {s : RS} (c : Nat) (h : Pw W0 g ts s w) (hi : InT ts s) :
    Calls Tryz.prog 67 #[.pointer (some ⟨g, 0, none⟩), .int .i64 c] w (StP W0 g ts w (.tuple #[]) (failS ts c s)) :=
  (fail_any w g _ ts s.pos s.off s.e c h.2.1 hi).mono fun e w' ⟨h1, h2, h3⟩ => ⟨h1, h.call h2 h3, h2⟩
theorem p_number {W0 w : World} {g : Nat} {ts : List Tok} {s : RS} (lo hi : Int) (h : Pw W0 g ts s w) (hi' : InT ts s) :
    Calls Tryz.prog 154 #[.pointer (some ⟨g, 0, none⟩), .int .i64 lo, .int .i64 hi] w (StP W0 g ts w (.int .i64 (numV ts lo hi s)) (numS ts lo hi s)) :=
  (Go.Proofs.YtfjpbkmnlmecgaaGreatDoor.number_any w g _ ts s.pos s.off s.e lo hi h.2.1 hi').mono fun e w' ⟨h1, h2, h3⟩ => ⟨h1, h.call h2 h3, h2⟩
theorem p_name {W0 w : World} {g : Nat} {ts : List Tok} {s : RS} (h : Pw W0 g ts s w) (hi : InT ts s) :
    Calls Tryz.prog 217 #[.pointer (some ⟨g, 0, none⟩)] w (fun e w' => ∃ x, StP W0 g ts w (.string x) (nameS ts s) e w') :=
  (name_any w g _ ts s.pos s.off s.e h.2.1 hi).mono fun e w' ⟨h1, h2, h3⟩ => ⟨_, h1, h.call h2 h3, h2⟩
end Go.Proofs.YtfjpbkmnlmecgaaGreatDoor.Ru
end

section
/- The parser: role. -/
namespace Go.Proofs.YtfjpbkmnlmecgaaGreatDoor.Ru
open Go.RowKit Go.PlainAid Go.Maps Go.Proofs.YtfjpbkmnlmecgaaGreatDoor Go.Proofs.YtfjpbkmnlmecgaaGreatDoor.Bz
set_option linter.unusedVariables false
set_option linter.unusedSimpArgs false
set_option maxHeartbeats 4000000
set_option maxRecDepth 20000

theorem role_e {W0 w : World} {g P t : Nat} {ns : List ByteArray} {a : Option Addr} {n cap : Nat} {adm : List Nat} {ts : List Tok} {s : RS} (hB : Base W0 g P t ns a n cap adm) (hw : Pw W0 g ts s w) (hi : InT ts s) (want : Bool) (ua : Option Addr) (un uc : Nat) (used : List Nat) (hu : Bs w ua un uc used) (x : ByteArray) (kd nn ps : Int)
    (HT : Hid (aggP (pk ts s) = .agg #[.int .u8 1, .string x, .int .i64 nn, .int .i64 ps])) (hx : x.size ≤ 1000000) (hv : validB x = true) (h0 : 0 < numB ns x) (h1 : hasB adm (numB ns x : Nat) = want) (h2 : hasB used (numB ns x : Nat) = false) :
    Calls Tryz.prog 151 #[.pointer (some ⟨P, 0, none⟩), .bool want, .agg #[.slice ua un uc]] w (StP W0 g ts w (.int .i64 ((numB ns x : Nat))) (nameS ts s)) := by
  have HPK := Lib.hid (fun w' (hb : Below w.heap.size w w') => p_peek (hw.below hb) hi)
  have HPC := Lib.hid (fun w' (hb : Below w.heap.size w w') => hB.cells (hw.below hb))
  have HNM := Lib.hid (fun w' (hb : Below w.heap.size w w') => p_name (hw.below hb) hi)
  have HNF := Lib.hid (fun c w' (h : Pw W0 g ts (failS ts c s) w') => p_name h (fail_in hi))
  have HFA := Lib.hid (fun c w' (hb : Below w.heap.size w w') => p_fail c (hw.below hb) hi)
  have HPF := Lib.hid (fun c w' (h : Pw W0 g ts (failS ts c s) w') => hB.cells h)
  have q0 := (hB.cells hw).1
  have hP : P < w.heap.size := World.block_lt_of_cell? _ _ q0
  have HNB := Lib.hid (fun w' (hb : Below w.heap.size w w') => number_any t ns x w' (hB.hT _ (hw.below hb).1) hx)
  have HH1 := Lib.hid (fun w' k (hb : Below w.heap.size w w') => has_any a n cap adm k w' (hB.hA _ (hw.below hb).1))
  have HH2 := Lib.hid (fun w' k (hb : Below w.heap.size w w') => has_any ua un uc used k w' (hu.below hb))
  have HV := Lib.hid hv
  rw [decide_eq_true h0] at HNB
  have H1 := Lib.hid h1
  have H2 := Lib.hid h2
  clear h0 h1 h2 hv
  generalize numB ns x = k at *
  clear hw hB hi hu
  go_enter Tryz.func151, Tryz.ntmps151
  go_upto_region 4 with (first | (go_at_call 66; refine (HPK.out _ (by go_grown)).mono ?_; rintro en w2 ⟨rfl, hb2⟩; rw [HT.out]; have hb3 : Below w.heap.size w w2 := ((Below.refl _ w).alloc (Nat.le_refl _) _).trans (hb2.mono (by simp)); have hb4 := hb3.alloc hb3.size (.cells #[.int .u8 1, .string x, .int .i64 nn, .int .i64 ps] 139)) | (go_at_call 207; refine (valid_any _ _).mono ?_; rintro en w5 ⟨rfl, hb5⟩; rw [HV.out]; have hb6 : Below w.heap.size w w5 := hb4.trans (hb5.mono hb4.size)))
  have hs2 := hb2.size
  have hs5 := hb5.size
  simp only [World.size_alloc] at hs2 hs5
  have k5 : w5.cell? ⟨w2.heap.size, 1, none⟩ = some (.string x) := (hb5.cell (p := ⟨w2.heap.size, 1, none⟩) (by simp)).trans (by simp)
  have u5 : w5.cell? ⟨w.heap.size, 0, none⟩ = some (.slice ua un uc) := (hb5.cell (p := ⟨w.heap.size, 0, none⟩) (by simp; omega)).trans ((World.cell?_alloc_lt _ _ _ (show w.heap.size < w2.heap.size by omega)).trans ((hb2.cell (p := ⟨w.heap.size, 0, none⟩) (by simp)).trans (by simp)))
  obtain ⟨p5, p1, -⟩ := HPC.out w5 hb6
  have hP5 : P < w5.heap.size := Nat.lt_of_lt_of_le hP hb6.size
  clear hb2 hb3 hb4 hb5
  go_region_held3 (fun w' => w'.cell? ⟨P, 1, none⟩ = some (.pointer (some ⟨t, 0, none⟩)) ∧ w'.cell? ⟨w2.heap.size, 1, none⟩ = some (.string x)) (first | exact ⟨p1, k5⟩ | exact ⟨p7, k7⟩) (first | (go_at_call 216; refine (HNB.out _ hb6.drew).mono ?_; rintro en w7 ⟨rfl, hb7⟩; have p7 := (hb7.cell (p := ⟨P, 1, none⟩) hP5).trans p1; have k7 := (hb7.cell (p := ⟨w2.heap.size, 1, none⟩) (show w2.heap.size < w5.heap.size by omega)).trans k5))
  all_goals (have hb8 : Below w.heap.size w w7 := hb6.trans ((Below.refl _ _).drew.trans (hb7.mono hb6.size)))
  all_goals (have u7 : w7.cell? ⟨w.heap.size, 0, none⟩ = some (.slice ua un uc) := (hb7.cell (p := ⟨w.heap.size, 0, none⟩) (show w.heap.size < w5.heap.size by omega)).trans u5)
  all_goals (have hs9 : w5.heap.size ≤ w7.heap.size := hb7.size)
  all_goals (clear hb7 k5 u5 p1 p5 p7 k7)
  all_goals (obtain ⟨r0, r1, r2⟩ := HPC.out w7 hb8)
  all_goals (have hs7 := hb8.size)
  all_goals (have hs8 : w.heap.size < w7.heap.size := by omega)
  all_goals go_wp2_with (first | (go_at_call 77; (with_reducible refine (HH1.out _ _ hb8).mono ?_); rintro en w8 ⟨rfl, hb9⟩; rw [H1.out]; have u8 := (hb9.cell (p := ⟨w.heap.size, 0, none⟩) hs8).trans u7; have hb10 := hb8.trans (hb9.mono hb8.size); clear u7; obtain ⟨r8, -, -⟩ := HPC.out w8 hb10) | (go_at_call 77; (with_reducible refine (HH2.out _ _ hb10).mono ?_); rintro en w9 ⟨rfl, hb11⟩; rw [H2.out]; have hb12 := hb10.trans (hb11.mono hb10.size); obtain ⟨r9, -, -⟩ := HPC.out w9 hb12) | (go_at_call 217; (with_reducible refine (HNM.out _ hb12).mono ?_); rintro en w13 ⟨y, rfl, hpw, hgr⟩; replace hpw := Lib.hid hpw; replace hgr := Lib.hid hgr))
  all_goals go_ret
  all_goals exact ⟨rfl, hpw.out, gb_trans (gb_of_below hb12 _) hgr.out⟩
theorem role_d {W0 w : World} {g P t : Nat} {ns : List ByteArray} {a : Option Addr} {n cap : Nat} {adm : List Nat} {ts : List Tok} {s : RS} (hB : Base W0 g P t ns a n cap adm) (hw : Pw W0 g ts s w) (hi : InT ts s) (want : Bool) (ua : Option Addr) (un uc : Nat) (used : List Nat) (hu : Bs w ua un uc used) (x : ByteArray) (kd nn ps : Int)
    (HT : Hid (aggP (pk ts s) = .agg #[.int .u8 1, .string x, .int .i64 nn, .int .i64 ps])) (hx : x.size ≤ 1000000) (hv : validB x = true) (h0 : 0 < numB ns x) (h1 : hasB adm (numB ns x : Nat) = want) (h2 : hasB used (numB ns x : Nat) = true) :
    Calls Tryz.prog 151 #[.pointer (some ⟨P, 0, none⟩), .bool want, .agg #[.slice ua un uc]] w (StP W0 g ts w (.int .i64 ((numB ns x : Nat))) (nameS ts (failS ts 5 s))) := by
  have HPK := Lib.hid (fun w' (hb : Below w.heap.size w w') => p_peek (hw.below hb) hi)
  have HPC := Lib.hid (fun w' (hb : Below w.heap.size w w') => hB.cells (hw.below hb))
  have HNM := Lib.hid (fun w' (hb : Below w.heap.size w w') => p_name (hw.below hb) hi)
  have HNF := Lib.hid (fun c w' (h : Pw W0 g ts (failS ts c s) w') => p_name h (fail_in hi))
  have HFA := Lib.hid (fun c w' (hb : Below w.heap.size w w') => p_fail c (hw.below hb) hi)
  have HPF := Lib.hid (fun c w' (h : Pw W0 g ts (failS ts c s) w') => hB.cells h)
  have q0 := (hB.cells hw).1
  have hP : P < w.heap.size := World.block_lt_of_cell? _ _ q0
  have HNB := Lib.hid (fun w' (hb : Below w.heap.size w w') => number_any t ns x w' (hB.hT _ (hw.below hb).1) hx)
  have HH1 := Lib.hid (fun w' k (hb : Below w.heap.size w w') => has_any a n cap adm k w' (hB.hA _ (hw.below hb).1))
  have HH2 := Lib.hid (fun w' k (hb : Below w.heap.size w w') => has_any ua un uc used k w' (hu.below hb))
  have HV := Lib.hid hv
  rw [decide_eq_true h0] at HNB
  have H1 := Lib.hid h1
  have H2 := Lib.hid h2
  clear h0 h1 h2 hv
  generalize numB ns x = k at *
  clear hw hB hi hu
  go_enter Tryz.func151, Tryz.ntmps151
  go_upto_region 4 with (first | (go_at_call 66; refine (HPK.out _ (by go_grown)).mono ?_; rintro en w2 ⟨rfl, hb2⟩; rw [HT.out]; have hb3 : Below w.heap.size w w2 := ((Below.refl _ w).alloc (Nat.le_refl _) _).trans (hb2.mono (by simp)); have hb4 := hb3.alloc hb3.size (.cells #[.int .u8 1, .string x, .int .i64 nn, .int .i64 ps] 139)) | (go_at_call 207; refine (valid_any _ _).mono ?_; rintro en w5 ⟨rfl, hb5⟩; rw [HV.out]; have hb6 : Below w.heap.size w w5 := hb4.trans (hb5.mono hb4.size)))
  have hs2 := hb2.size
  have hs5 := hb5.size
  simp only [World.size_alloc] at hs2 hs5
  have k5 : w5.cell? ⟨w2.heap.size, 1, none⟩ = some (.string x) := (hb5.cell (p := ⟨w2.heap.size, 1, none⟩) (by simp)).trans (by simp)
  have u5 : w5.cell? ⟨w.heap.size, 0, none⟩ = some (.slice ua un uc) := (hb5.cell (p := ⟨w.heap.size, 0, none⟩) (by simp; omega)).trans ((World.cell?_alloc_lt _ _ _ (show w.heap.size < w2.heap.size by omega)).trans ((hb2.cell (p := ⟨w.heap.size, 0, none⟩) (by simp)).trans (by simp)))
  obtain ⟨p5, p1, -⟩ := HPC.out w5 hb6
  have hP5 : P < w5.heap.size := Nat.lt_of_lt_of_le hP hb6.size
  clear hb2 hb3 hb4 hb5
  go_region_held3 (fun w' => w'.cell? ⟨P, 1, none⟩ = some (.pointer (some ⟨t, 0, none⟩)) ∧ w'.cell? ⟨w2.heap.size, 1, none⟩ = some (.string x)) (first | exact ⟨p1, k5⟩ | exact ⟨p7, k7⟩) (first | (go_at_call 216; refine (HNB.out _ hb6.drew).mono ?_; rintro en w7 ⟨rfl, hb7⟩; have p7 := (hb7.cell (p := ⟨P, 1, none⟩) hP5).trans p1; have k7 := (hb7.cell (p := ⟨w2.heap.size, 1, none⟩) (show w2.heap.size < w5.heap.size by omega)).trans k5))
  all_goals (have hb8 : Below w.heap.size w w7 := hb6.trans ((Below.refl _ _).drew.trans (hb7.mono hb6.size)))
  all_goals (have u7 : w7.cell? ⟨w.heap.size, 0, none⟩ = some (.slice ua un uc) := (hb7.cell (p := ⟨w.heap.size, 0, none⟩) (show w.heap.size < w5.heap.size by omega)).trans u5)
  all_goals (have hs9 : w5.heap.size ≤ w7.heap.size := hb7.size)
  all_goals (clear hb7 k5 u5 p1 p5 p7 k7)
  all_goals (obtain ⟨r0, r1, r2⟩ := HPC.out w7 hb8)
  all_goals (have hs7 := hb8.size)
  all_goals (have hs8 : w.heap.size < w7.heap.size := by omega)
  all_goals go_wp2_with (first | (go_at_call 77; (with_reducible refine (HH1.out _ _ hb8).mono ?_); rintro en w8 ⟨rfl, hb9⟩; rw [H1.out]; have u8 := (hb9.cell (p := ⟨w.heap.size, 0, none⟩) hs8).trans u7; have hb10 := hb8.trans (hb9.mono hb8.size); clear u7; obtain ⟨r8, -, -⟩ := HPC.out w8 hb10) | (go_at_call 77; (with_reducible refine (HH2.out _ _ hb10).mono ?_); rintro en w9 ⟨rfl, hb11⟩; rw [H2.out]; have hb12 := hb10.trans (hb11.mono hb10.size); obtain ⟨r9, -, -⟩ := HPC.out w9 hb12) | (go_at_call 67; refine (HFA.out 5 _ hb12).mono ?_; rintro en w10 ⟨rfl, hpf, hgf⟩; obtain ⟨r10, -, -⟩ := HPF.out 5 w10 hpf; replace hpf := Lib.hid hpf; replace hgf := Lib.hid hgf) | (go_at_call 217; (with_reducible refine (HNF.out 5 _ hpf.out).mono ?_); rintro en w13 ⟨y, rfl, hpw, hgr⟩; replace hpw := Lib.hid hpw; replace hgr := Lib.hid hgr))
  all_goals go_ret
  all_goals exact ⟨rfl, hpw.out, gb_trans (gb_of_below hb12 _) (gb_trans hgf.out hgr.out)⟩
theorem role_ct {W0 w : World} {g P t : Nat} {ns : List ByteArray} {a : Option Addr} {n cap : Nat} {adm : List Nat} {ts : List Tok} {s : RS} (hB : Base W0 g P t ns a n cap adm) (hw : Pw W0 g ts s w) (hi : InT ts s) (ua : Option Addr) (un uc : Nat) (used : List Nat) (hu : Bs w ua un uc used) (x : ByteArray) (kd nn ps : Int)
    (HT : Hid (aggP (pk ts s) = .agg #[.int .u8 1, .string x, .int .i64 nn, .int .i64 ps])) (hx : x.size ≤ 1000000) (hv : validB x = true) (h0 : 0 < numB ns x) (h1 : hasB adm (numB ns x : Nat) = false) :
    Calls Tryz.prog 151 #[.pointer (some ⟨P, 0, none⟩), .bool true, .agg #[.slice ua un uc]] w (StP W0 g ts w (.int .i64 ((numB ns x : Nat))) (nameS ts (failS ts 10 s))) := by
  have HPK := Lib.hid (fun w' (hb : Below w.heap.size w w') => p_peek (hw.below hb) hi)
  have HPC := Lib.hid (fun w' (hb : Below w.heap.size w w') => hB.cells (hw.below hb))
  have HNM := Lib.hid (fun w' (hb : Below w.heap.size w w') => p_name (hw.below hb) hi)
  have HNF := Lib.hid (fun c w' (h : Pw W0 g ts (failS ts c s) w') => p_name h (fail_in hi))
  have HFA := Lib.hid (fun c w' (hb : Below w.heap.size w w') => p_fail c (hw.below hb) hi)
  have HPF := Lib.hid (fun c w' (h : Pw W0 g ts (failS ts c s) w') => hB.cells h)
  have q0 := (hB.cells hw).1
  have hP : P < w.heap.size := World.block_lt_of_cell? _ _ q0
  have HNB := Lib.hid (fun w' (hb : Below w.heap.size w w') => number_any t ns x w' (hB.hT _ (hw.below hb).1) hx)
  have HH1 := Lib.hid (fun w' k (hb : Below w.heap.size w w') => has_any a n cap adm k w' (hB.hA _ (hw.below hb).1))
  have HH2 := Lib.hid (fun w' k (hb : Below w.heap.size w w') => has_any ua un uc used k w' (hu.below hb))
  have HV := Lib.hid hv
  rw [decide_eq_true h0] at HNB
  have H1 := Lib.hid h1
  clear h0 h1 hv HH2
  generalize numB ns x = k at *
  clear hw hB hi hu
  go_enter Tryz.func151, Tryz.ntmps151
  go_upto_region 4 with (first | (go_at_call 66; refine (HPK.out _ (by go_grown)).mono ?_; rintro en w2 ⟨rfl, hb2⟩; rw [HT.out]; have hb3 : Below w.heap.size w w2 := ((Below.refl _ w).alloc (Nat.le_refl _) _).trans (hb2.mono (by simp)); have hb4 := hb3.alloc hb3.size (.cells #[.int .u8 1, .string x, .int .i64 nn, .int .i64 ps] 139)) | (go_at_call 207; refine (valid_any _ _).mono ?_; rintro en w5 ⟨rfl, hb5⟩; rw [HV.out]; have hb6 : Below w.heap.size w w5 := hb4.trans (hb5.mono hb4.size)))
  have hs2 := hb2.size
  have hs5 := hb5.size
  simp only [World.size_alloc] at hs2 hs5
  have k5 : w5.cell? ⟨w2.heap.size, 1, none⟩ = some (.string x) := (hb5.cell (p := ⟨w2.heap.size, 1, none⟩) (by simp)).trans (by simp)
  have u5 : w5.cell? ⟨w.heap.size, 0, none⟩ = some (.slice ua un uc) := (hb5.cell (p := ⟨w.heap.size, 0, none⟩) (by simp; omega)).trans ((World.cell?_alloc_lt _ _ _ (show w.heap.size < w2.heap.size by omega)).trans ((hb2.cell (p := ⟨w.heap.size, 0, none⟩) (by simp)).trans (by simp)))
  obtain ⟨p5, p1, -⟩ := HPC.out w5 hb6
  have hP5 : P < w5.heap.size := Nat.lt_of_lt_of_le hP hb6.size
  clear hb2 hb3 hb4 hb5
  go_region_held3 (fun w' => w'.cell? ⟨P, 1, none⟩ = some (.pointer (some ⟨t, 0, none⟩)) ∧ w'.cell? ⟨w2.heap.size, 1, none⟩ = some (.string x)) (first | exact ⟨p1, k5⟩ | exact ⟨p7, k7⟩) (first | (go_at_call 216; refine (HNB.out _ hb6.drew).mono ?_; rintro en w7 ⟨rfl, hb7⟩; have p7 := (hb7.cell (p := ⟨P, 1, none⟩) hP5).trans p1; have k7 := (hb7.cell (p := ⟨w2.heap.size, 1, none⟩) (show w2.heap.size < w5.heap.size by omega)).trans k5))
  all_goals (have hb8 : Below w.heap.size w w7 := hb6.trans ((Below.refl _ _).drew.trans (hb7.mono hb6.size)))
  all_goals (have u7 : w7.cell? ⟨w.heap.size, 0, none⟩ = some (.slice ua un uc) := (hb7.cell (p := ⟨w.heap.size, 0, none⟩) (show w.heap.size < w5.heap.size by omega)).trans u5)
  all_goals (have hs9 : w5.heap.size ≤ w7.heap.size := hb7.size)
  all_goals (clear hb7 k5 u5 p1 p5 p7 k7)
  all_goals (obtain ⟨r0, r1, r2⟩ := HPC.out w7 hb8)
  all_goals (have hs7 := hb8.size)
  all_goals (have hs8 : w.heap.size < w7.heap.size := by omega)
  all_goals go_wp2_with (first | (go_at_call 77; (with_reducible refine (HH1.out _ _ hb8).mono ?_); rintro en w8 ⟨rfl, hb9⟩; rw [H1.out]; have u8 := (hb9.cell (p := ⟨w.heap.size, 0, none⟩) hs8).trans u7; have hb10 := hb8.trans (hb9.mono hb8.size); clear u7; obtain ⟨r8, -, -⟩ := HPC.out w8 hb10) | (go_at_call 67; refine (HFA.out 10 _ hb10).mono ?_; rintro en w10 ⟨rfl, hpf, hgf⟩; obtain ⟨r10, -, -⟩ := HPF.out 10 w10 hpf; replace hpf := Lib.hid hpf; replace hgf := Lib.hid hgf) | (go_at_call 217; (with_reducible refine (HNF.out 10 _ hpf.out).mono ?_); rintro en w13 ⟨y, rfl, hpw, hgr⟩; replace hpw := Lib.hid hpw; replace hgr := Lib.hid hgr))
  all_goals go_ret
  all_goals exact ⟨rfl, hpw.out, gb_trans (gb_of_below hb10 _) (gb_trans hgf.out hgr.out)⟩
theorem role_cf {W0 w : World} {g P t : Nat} {ns : List ByteArray} {a : Option Addr} {n cap : Nat} {adm : List Nat} {ts : List Tok} {s : RS} (hB : Base W0 g P t ns a n cap adm) (hw : Pw W0 g ts s w) (hi : InT ts s) (ua : Option Addr) (un uc : Nat) (used : List Nat) (hu : Bs w ua un uc used) (x : ByteArray) (kd nn ps : Int)
    (HT : Hid (aggP (pk ts s) = .agg #[.int .u8 1, .string x, .int .i64 nn, .int .i64 ps])) (hx : x.size ≤ 1000000) (hv : validB x = true) (h0 : 0 < numB ns x) (h1 : hasB adm (numB ns x : Nat) = true) :
    Calls Tryz.prog 151 #[.pointer (some ⟨P, 0, none⟩), .bool false, .agg #[.slice ua un uc]] w (StP W0 g ts w (.int .i64 ((numB ns x : Nat))) (nameS ts (failS ts 10 s))) := by
  have HPK := Lib.hid (fun w' (hb : Below w.heap.size w w') => p_peek (hw.below hb) hi)
  have HPC := Lib.hid (fun w' (hb : Below w.heap.size w w') => hB.cells (hw.below hb))
  have HNM := Lib.hid (fun w' (hb : Below w.heap.size w w') => p_name (hw.below hb) hi)
  have HNF := Lib.hid (fun c w' (h : Pw W0 g ts (failS ts c s) w') => p_name h (fail_in hi))
  have HFA := Lib.hid (fun c w' (hb : Below w.heap.size w w') => p_fail c (hw.below hb) hi)
  have HPF := Lib.hid (fun c w' (h : Pw W0 g ts (failS ts c s) w') => hB.cells h)
  have q0 := (hB.cells hw).1
  have hP : P < w.heap.size := World.block_lt_of_cell? _ _ q0
  have HNB := Lib.hid (fun w' (hb : Below w.heap.size w w') => number_any t ns x w' (hB.hT _ (hw.below hb).1) hx)
  have HH1 := Lib.hid (fun w' k (hb : Below w.heap.size w w') => has_any a n cap adm k w' (hB.hA _ (hw.below hb).1))
  have HH2 := Lib.hid (fun w' k (hb : Below w.heap.size w w') => has_any ua un uc used k w' (hu.below hb))
  have HV := Lib.hid hv
  rw [decide_eq_true h0] at HNB
  have H1 := Lib.hid h1
  clear h0 h1 hv HH2
  generalize numB ns x = k at *
  clear hw hB hi hu
  go_enter Tryz.func151, Tryz.ntmps151
  go_upto_region 4 with (first | (go_at_call 66; refine (HPK.out _ (by go_grown)).mono ?_; rintro en w2 ⟨rfl, hb2⟩; rw [HT.out]; have hb3 : Below w.heap.size w w2 := ((Below.refl _ w).alloc (Nat.le_refl _) _).trans (hb2.mono (by simp)); have hb4 := hb3.alloc hb3.size (.cells #[.int .u8 1, .string x, .int .i64 nn, .int .i64 ps] 139)) | (go_at_call 207; refine (valid_any _ _).mono ?_; rintro en w5 ⟨rfl, hb5⟩; rw [HV.out]; have hb6 : Below w.heap.size w w5 := hb4.trans (hb5.mono hb4.size)))
  have hs2 := hb2.size
  have hs5 := hb5.size
  simp only [World.size_alloc] at hs2 hs5
  have k5 : w5.cell? ⟨w2.heap.size, 1, none⟩ = some (.string x) := (hb5.cell (p := ⟨w2.heap.size, 1, none⟩) (by simp)).trans (by simp)
  have u5 : w5.cell? ⟨w.heap.size, 0, none⟩ = some (.slice ua un uc) := (hb5.cell (p := ⟨w.heap.size, 0, none⟩) (by simp; omega)).trans ((World.cell?_alloc_lt _ _ _ (show w.heap.size < w2.heap.size by omega)).trans ((hb2.cell (p := ⟨w.heap.size, 0, none⟩) (by simp)).trans (by simp)))
  obtain ⟨p5, p1, -⟩ := HPC.out w5 hb6
  have hP5 : P < w5.heap.size := Nat.lt_of_lt_of_le hP hb6.size
  clear hb2 hb3 hb4 hb5
  go_region_held3 (fun w' => w'.cell? ⟨P, 1, none⟩ = some (.pointer (some ⟨t, 0, none⟩)) ∧ w'.cell? ⟨w2.heap.size, 1, none⟩ = some (.string x)) (first | exact ⟨p1, k5⟩ | exact ⟨p7, k7⟩) (first | (go_at_call 216; refine (HNB.out _ hb6.drew).mono ?_; rintro en w7 ⟨rfl, hb7⟩; have p7 := (hb7.cell (p := ⟨P, 1, none⟩) hP5).trans p1; have k7 := (hb7.cell (p := ⟨w2.heap.size, 1, none⟩) (show w2.heap.size < w5.heap.size by omega)).trans k5))
  all_goals (have hb8 : Below w.heap.size w w7 := hb6.trans ((Below.refl _ _).drew.trans (hb7.mono hb6.size)))
  all_goals (have u7 : w7.cell? ⟨w.heap.size, 0, none⟩ = some (.slice ua un uc) := (hb7.cell (p := ⟨w.heap.size, 0, none⟩) (show w.heap.size < w5.heap.size by omega)).trans u5)
  all_goals (have hs9 : w5.heap.size ≤ w7.heap.size := hb7.size)
  all_goals (clear hb7 k5 u5 p1 p5 p7 k7)
  all_goals (obtain ⟨r0, r1, r2⟩ := HPC.out w7 hb8)
  all_goals (have hs7 := hb8.size)
  all_goals (have hs8 : w.heap.size < w7.heap.size := by omega)
  all_goals go_wp2_with (first | (go_at_call 77; (with_reducible refine (HH1.out _ _ hb8).mono ?_); rintro en w8 ⟨rfl, hb9⟩; rw [H1.out]; have u8 := (hb9.cell (p := ⟨w.heap.size, 0, none⟩) hs8).trans u7; have hb10 := hb8.trans (hb9.mono hb8.size); clear u7; obtain ⟨r8, -, -⟩ := HPC.out w8 hb10) | (go_at_call 67; refine (HFA.out 10 _ hb10).mono ?_; rintro en w10 ⟨rfl, hpf, hgf⟩; obtain ⟨r10, -, -⟩ := HPF.out 10 w10 hpf; replace hpf := Lib.hid hpf; replace hgf := Lib.hid hgf) | (go_at_call 217; (with_reducible refine (HNF.out 10 _ hpf.out).mono ?_); rintro en w13 ⟨y, rfl, hpw, hgr⟩; replace hpw := Lib.hid hpw; replace hgr := Lib.hid hgr))
  all_goals go_ret
  all_goals exact ⟨rfl, hpw.out, gb_trans (gb_of_below hb10 _) (gb_trans hgf.out hgr.out)⟩
theorem role_b {W0 w : World} {g P t : Nat} {ns : List ByteArray} {a : Option Addr} {n cap : Nat} {adm : List Nat} {ts : List Tok} {s : RS} (hB : Base W0 g P t ns a n cap adm) (hw : Pw W0 g ts s w) (hi : InT ts s) (want : Bool) (ua : Option Addr) (un uc : Nat) (used : List Nat) (hu : Bs w ua un uc used) (x : ByteArray) (kd nn ps : Int)
    (HT : Hid (aggP (pk ts s) = .agg #[.int .u8 1, .string x, .int .i64 nn, .int .i64 ps])) (hx : x.size ≤ 1000000) (hv : validB x = true) (h0 : numB ns x = 0) :
    Calls Tryz.prog 151 #[.pointer (some ⟨P, 0, none⟩), .bool want, .agg #[.slice ua un uc]] w (StP W0 g ts w (.int .i64 (0)) (nameS ts (failS ts 9 s))) := by
  have HPK := Lib.hid (fun w' (hb : Below w.heap.size w w') => p_peek (hw.below hb) hi)
  have HPC := Lib.hid (fun w' (hb : Below w.heap.size w w') => hB.cells (hw.below hb))
  have HNM := Lib.hid (fun w' (hb : Below w.heap.size w w') => p_name (hw.below hb) hi)
  have HNF := Lib.hid (fun c w' (h : Pw W0 g ts (failS ts c s) w') => p_name h (fail_in hi))
  have HFA := Lib.hid (fun c w' (hb : Below w.heap.size w w') => p_fail c (hw.below hb) hi)
  have HPF := Lib.hid (fun c w' (h : Pw W0 g ts (failS ts c s) w') => hB.cells h)
  have q0 := (hB.cells hw).1
  have hP : P < w.heap.size := World.block_lt_of_cell? _ _ q0
  have HNB := Lib.hid (fun w' (hb : Below w.heap.size w w') => number_any t ns x w' (hB.hT _ (hw.below hb).1) hx)
  have HH1 := Lib.hid (fun w' k (hb : Below w.heap.size w w') => has_any a n cap adm k w' (hB.hA _ (hw.below hb).1))
  have HH2 := Lib.hid (fun w' k (hb : Below w.heap.size w w') => has_any ua un uc used k w' (hu.below hb))
  have HV := Lib.hid hv
  rw [h0] at HNB
  clear h0 hv HH1 HH2
  clear hw hB hi hu
  go_enter Tryz.func151, Tryz.ntmps151
  go_upto_region 4 with (first | (go_at_call 66; refine (HPK.out _ (by go_grown)).mono ?_; rintro en w2 ⟨rfl, hb2⟩; rw [HT.out]; have hb3 : Below w.heap.size w w2 := ((Below.refl _ w).alloc (Nat.le_refl _) _).trans (hb2.mono (by simp)); have hb4 := hb3.alloc hb3.size (.cells #[.int .u8 1, .string x, .int .i64 nn, .int .i64 ps] 139)) | (go_at_call 207; refine (valid_any _ _).mono ?_; rintro en w5 ⟨rfl, hb5⟩; rw [HV.out]; have hb6 : Below w.heap.size w w5 := hb4.trans (hb5.mono hb4.size)))
  have hs2 := hb2.size
  have hs5 := hb5.size
  simp only [World.size_alloc] at hs2 hs5
  have k5 : w5.cell? ⟨w2.heap.size, 1, none⟩ = some (.string x) := (hb5.cell (p := ⟨w2.heap.size, 1, none⟩) (by simp)).trans (by simp)
  have u5 : w5.cell? ⟨w.heap.size, 0, none⟩ = some (.slice ua un uc) := (hb5.cell (p := ⟨w.heap.size, 0, none⟩) (by simp; omega)).trans ((World.cell?_alloc_lt _ _ _ (show w.heap.size < w2.heap.size by omega)).trans ((hb2.cell (p := ⟨w.heap.size, 0, none⟩) (by simp)).trans (by simp)))
  obtain ⟨p5, p1, -⟩ := HPC.out w5 hb6
  have hP5 : P < w5.heap.size := Nat.lt_of_lt_of_le hP hb6.size
  clear hb2 hb3 hb4 hb5
  go_region_held3 (fun w' => w'.cell? ⟨P, 1, none⟩ = some (.pointer (some ⟨t, 0, none⟩)) ∧ w'.cell? ⟨w2.heap.size, 1, none⟩ = some (.string x)) (first | exact ⟨p1, k5⟩ | exact ⟨p7, k7⟩) (first | (go_at_call 216; refine (HNB.out _ hb6.drew).mono ?_; rintro en w7 ⟨rfl, hb7⟩; have p7 := (hb7.cell (p := ⟨P, 1, none⟩) hP5).trans p1; have k7 := (hb7.cell (p := ⟨w2.heap.size, 1, none⟩) (show w2.heap.size < w5.heap.size by omega)).trans k5))
  all_goals (have hb8 : Below w.heap.size w w7 := hb6.trans ((Below.refl _ _).drew.trans (hb7.mono hb6.size)))
  all_goals (have u7 : w7.cell? ⟨w.heap.size, 0, none⟩ = some (.slice ua un uc) := (hb7.cell (p := ⟨w.heap.size, 0, none⟩) (show w.heap.size < w5.heap.size by omega)).trans u5)
  all_goals (have hs9 : w5.heap.size ≤ w7.heap.size := hb7.size)
  all_goals (clear hb7 k5 u5 p1 p5 p7 k7)
  all_goals (obtain ⟨r0, r1, r2⟩ := HPC.out w7 hb8)
  all_goals (have hs7 := hb8.size)
  all_goals (have hs8 : w.heap.size < w7.heap.size := by omega)
  all_goals go_wp2_with (first | (go_at_call 67; refine (HFA.out 9 _ hb8).mono ?_; rintro en w10 ⟨rfl, hpf, hgf⟩; obtain ⟨r10, -, -⟩ := HPF.out 9 w10 hpf; replace hpf := Lib.hid hpf; replace hgf := Lib.hid hgf) | (go_at_call 217; (with_reducible refine (HNF.out 9 _ hpf.out).mono ?_); rintro en w13 ⟨y, rfl, hpw, hgr⟩; replace hpw := Lib.hid hpw; replace hgr := Lib.hid hgr))
  all_goals go_ret
  all_goals exact ⟨rfl, hpw.out, gb_trans (gb_of_below hb8 _) (gb_trans hgf.out hgr.out)⟩
theorem role_v {W0 w : World} {g P t : Nat} {ns : List ByteArray} {a : Option Addr} {n cap : Nat} {adm : List Nat} {ts : List Tok} {s : RS} (hB : Base W0 g P t ns a n cap adm) (hw : Pw W0 g ts s w) (hi : InT ts s) (want : Bool) (ua : Option Addr) (un uc : Nat) (used : List Nat) (hu : Bs w ua un uc used) (x : ByteArray) (kd nn ps : Int)
    (HT : Hid (aggP (pk ts s) = .agg #[.int .u8 1, .string x, .int .i64 nn, .int .i64 ps])) (hv : validB x = false) :
    Calls Tryz.prog 151 #[.pointer (some ⟨P, 0, none⟩), .bool want, .agg #[.slice ua un uc]] w (StP W0 g ts w (.int .i64 (0)) (nameS ts s)) := by
  have HPK := Lib.hid (fun w' (hb : Below w.heap.size w w') => p_peek (hw.below hb) hi)
  have HPC := Lib.hid (fun w' (hb : Below w.heap.size w w') => hB.cells (hw.below hb))
  have HNM := Lib.hid (fun w' (hb : Below w.heap.size w w') => p_name (hw.below hb) hi)
  have HNF := Lib.hid (fun c w' (h : Pw W0 g ts (failS ts c s) w') => p_name h (fail_in hi))
  have HFA := Lib.hid (fun c w' (hb : Below w.heap.size w w') => p_fail c (hw.below hb) hi)
  have HPF := Lib.hid (fun c w' (h : Pw W0 g ts (failS ts c s) w') => hB.cells h)
  have q0 := (hB.cells hw).1
  have hP : P < w.heap.size := World.block_lt_of_cell? _ _ q0
  have HV := Lib.hid hv
  clear hv
  clear hw hB hi hu
  go_enter Tryz.func151, Tryz.ntmps151
  go_wp2_with (first | (go_at_call 66; refine (HPK.out _ (by go_grown)).mono ?_; rintro en w2 ⟨rfl, hb2⟩; rw [HT.out]; have hb3 : Below w.heap.size w w2 := ((Below.refl _ w).alloc (Nat.le_refl _) _).trans (hb2.mono (by simp)); have hb4 := hb3.alloc hb3.size (.cells #[.int .u8 1, .string x, .int .i64 nn, .int .i64 ps] 139)) | (go_at_call 207; refine (valid_any _ _).mono ?_; rintro en w5 ⟨rfl, hb5⟩; rw [HV.out]; have hb6 : Below w.heap.size w w5 := hb4.trans (hb5.mono hb4.size); obtain ⟨r5, -, -⟩ := HPC.out w5 hb6) | (go_at_call 217; (with_reducible refine (HNM.out _ hb6).mono ?_); rintro en w13 ⟨y, rfl, hpw, hgr⟩; replace hpw := Lib.hid hpw; replace hgr := Lib.hid hgr))
  all_goals go_ret
  all_goals exact ⟨rfl, hpw.out, gb_trans (gb_of_below hb6 _) hgr.out⟩
theorem role_k {W0 w : World} {g P t : Nat} {ns : List ByteArray} {a : Option Addr} {n cap : Nat} {adm : List Nat} {ts : List Tok} {s : RS} (hB : Base W0 g P t ns a n cap adm) (hw : Pw W0 g ts s w) (hi : InT ts s) (want : Bool) (ua : Option Addr) (un uc : Nat) (used : List Nat) (hu : Bs w ua un uc used) (x : ByteArray) (kd nn ps : Int)
    (HT : Hid (aggP (pk ts s) = .agg #[.int .u8 kd, .string x, .int .i64 nn, .int .i64 ps])) (hk : ¬ kd = 1) :
    Calls Tryz.prog 151 #[.pointer (some ⟨P, 0, none⟩), .bool want, .agg #[.slice ua un uc]] w (StP W0 g ts w (.int .i64 (0)) (nameS ts s)) := by
  have HPK := Lib.hid (fun w' (hb : Below w.heap.size w w') => p_peek (hw.below hb) hi)
  have HPC := Lib.hid (fun w' (hb : Below w.heap.size w w') => hB.cells (hw.below hb))
  have HNM := Lib.hid (fun w' (hb : Below w.heap.size w w') => p_name (hw.below hb) hi)
  have HNF := Lib.hid (fun c w' (h : Pw W0 g ts (failS ts c s) w') => p_name h (fail_in hi))
  have HFA := Lib.hid (fun c w' (hb : Below w.heap.size w w') => p_fail c (hw.below hb) hi)
  have HPF := Lib.hid (fun c w' (h : Pw W0 g ts (failS ts c s) w') => hB.cells h)
  have q0 := (hB.cells hw).1
  have hP : P < w.heap.size := World.block_lt_of_cell? _ _ q0
  clear hw hB hi hu
  go_enter Tryz.func151, Tryz.ntmps151
  go_wp2_with (first | (go_at_call 66; refine (HPK.out _ (by go_grown)).mono ?_; rintro en w2 ⟨rfl, hb2⟩; rw [HT.out]; have hb3 : Below w.heap.size w w2 := ((Below.refl _ w).alloc (Nat.le_refl _) _).trans (hb2.mono (by simp)); have hb4 := hb3.alloc hb3.size (.cells #[.int .u8 kd, .string x, .int .i64 nn, .int .i64 ps] 139); obtain ⟨r5, -, -⟩ := HPC.out _ hb4) | (go_at_call 217; (with_reducible refine (HNM.out _ hb4).mono ?_); rintro en w13 ⟨y, rfl, hpw, hgr⟩; replace hpw := Lib.hid hpw; replace hgr := Lib.hid hgr))
  all_goals go_ret
  all_goals exact ⟨rfl, hpw.out, gb_trans (gb_of_below hb4 _) hgr.out⟩
end Go.Proofs.YtfjpbkmnlmecgaaGreatDoor.Ru
end

section
/- The parser: role, all cases. -/
namespace Go.Proofs.YtfjpbkmnlmecgaaGreatDoor.Ru
open Go.RowKit Go.PlainAid Go.Maps Go.Proofs.YtfjpbkmnlmecgaaGreatDoor Go.Proofs.YtfjpbkmnlmecgaaGreatDoor.Bz
set_option linter.unusedVariables false
set_option linter.unusedSimpArgs false

theorem valid_size {x : ByteArray} (h : validB x = true) : x.size ≤ 1000000 := by
  unfold validB at h
  simp only [Bool.and_eq_true, decide_eq_true_eq] at h
  omega
theorem role_any {W0 w : World} {g P t : Nat} {ns : List ByteArray} {a : Option Addr} {n cap : Nat} {adm : List Nat} {ts : List Tok} {s : RS} (hB : Base W0 g P t ns a n cap adm) (hw : Pw W0 g ts s w) (hi : InT ts s) (want : Bool) (ua : Option Addr) (un uc : Nat) (used : List Nat) (hu : Bs w ua un uc used) :
    Calls Tryz.prog 151 #[.pointer (some ⟨P, 0, none⟩), .bool want, .agg #[.slice ua un uc]] w (StP W0 g ts w (.int .i64 ((roleV ts (envOf ns adm) want used s : Nat) : Int)) (roleS ts (envOf ns adm) want used s)) := by
  have HT : Hid (aggP (pk ts s) = .agg #[.int .u8 (pk ts s).kind, .string ⟨(pk ts s).text.toArray⟩, .int .i64 (pk ts s).n, .int .i64 (pk ts s).pos]) := rfl
  have hz : failS ts 0 s = s := fail_zero ts s
  unfold roleV roleS roleC envOf
  dsimp only
  by_cases hk : (pk ts s).kind = 1
  · cases hv : validB ⟨(pk ts s).text.toArray⟩
    · rw [if_neg (by simp)]
      rw [hk] at HT
      rw [hz]
      exact role_v hB hw hi want ua un uc used hu _ 1 _ _ HT hv
    · rw [if_pos ⟨hk, rfl⟩]
      rw [hk] at HT
      by_cases h0 : 0 < numB ns ⟨(pk ts s).text.toArray⟩
      · rw [if_pos h0]
        dsimp only
        cases h1 : hasB adm (numB ns ⟨(pk ts s).text.toArray⟩ : Nat)
        · cases want
          · rw [if_neg (by simp)]
            cases h2 : hasB used (numB ns ⟨(pk ts s).text.toArray⟩ : Nat)
            · rw [if_neg (by simp), hz]
              exact role_e hB hw hi false ua un uc used hu _ 1 _ _ HT (valid_size hv) hv h0 h1 h2
            · rw [if_pos rfl]
              exact role_d hB hw hi false ua un uc used hu _ 1 _ _ HT (valid_size hv) hv h0 h1 h2
          · rw [if_pos (by simp)]
            exact role_ct hB hw hi ua un uc used hu _ 1 _ _ HT (valid_size hv) hv h0 h1
        · cases want
          · rw [if_pos (by simp)]
            exact role_cf hB hw hi ua un uc used hu _ 1 _ _ HT (valid_size hv) hv h0 h1
          · rw [if_neg (by simp)]
            cases h2 : hasB used (numB ns ⟨(pk ts s).text.toArray⟩ : Nat)
            · rw [if_neg (by simp), hz]
              exact role_e hB hw hi true ua un uc used hu _ 1 _ _ HT (valid_size hv) hv h0 h1 h2
            · rw [if_pos rfl]
              exact role_d hB hw hi true ua un uc used hu _ 1 _ _ HT (valid_size hv) hv h0 h1 h2
      · rw [if_neg h0]
        exact role_b hB hw hi want ua un uc used hu _ 1 _ _ HT (valid_size hv) hv (by omega)
  · rw [if_neg (fun h => hk h.1), hz]
    exact role_k hB hw hi want ua un uc used hu _ _ _ _ HT (by omega)
end Go.Proofs.YtfjpbkmnlmecgaaGreatDoor.Ru
end

section
/- Sets that the parser makes: they lie behind block N. -/
namespace Go.Proofs.YtfjpbkmnlmecgaaGreatDoor.Ru
open Go.RowKit Go.PlainAid Go.Maps Go.Proofs.YtfjpbkmnlmecgaaGreatDoor Go.Proofs.YtfjpbkmnlmecgaaGreatDoor.Bz
set_option linter.unusedVariables false
set_option linter.unusedSimpArgs false

theorem Bs_grown2 {w w' : World} {a : Option Addr} {n cap : Nat} {l : List Nat} {row : Option Nat} (h : Bs w a n cap l) (hg : w.grownBy w' row) (hr : ∀ p, a = some p → some p.block ≠ row) : Bs w' a n cap l := by
  obtain ⟨ws, ⟨h1, h2, h3, h4⟩, hrp⟩ := h
  refine ⟨ws, ⟨h1, h2, h3, ?_⟩, hrp⟩
  rcases h4 with h4 | ⟨b, o, h4, ⟨hb, cs, fz, ht⟩, hc⟩
  · exact .inl h4
  · have hbk := hg.block b hb (hr _ h4)
    refine .inr ⟨b, o, h4, ⟨Nat.lt_of_lt_of_le hb hg.size, cs, fz, hbk.trans ht⟩, fun j hj => ?_⟩
    rw [World.cell?_of_block (w := w) hbk]; exact hc j hj
/-- A set whose words lie behind block N. -/
def Bq (N : Nat) (w : World) (a : Option Addr) (n cap : Nat) (l : List Nat) : Prop := Bs w a n cap l ∧ ∀ p, a = some p → N ≤ p.block
theorem Bq.nil (N : Nat) (w : World) : Bq N w none 0 0 [] := ⟨Bs.nil w, fun p h => by cases h⟩
theorem Bq.below {N : Nat} {w w' : World} {a : Option Addr} {n cap : Nat} {l : List Nat} (h : Bq N w a n cap l) (hb : Below w.heap.size w w') : Bq N w' a n cap l := ⟨h.1.below hb, h.2⟩
theorem Bq.read {N g : Nat} {w w' : World} {a : Option Addr} {n cap : Nat} {l : List Nat} (h : Bq N w a n cap l) (hg : w.grownBy w' (some g)) (hn : g < N) : Bq N w' a n cap l :=
  ⟨Bs_grown2 h.1 hg (fun p hp e => by have := h.2 p hp; injection e with e; omega), h.2⟩
theorem Bq.with {N : Nat} {w w' : World} {a a' : Option Addr} {n cap n' cap' : Nat} {l l' : List Nat} (h : Bq N w a n cap l) (hs : N ≤ w.heap.size) (hb : Bs w' a' n' cap' l') (hf : a' = a ∨ ∃ b, a' = some ⟨b, 0, none⟩ ∧ w.heap.size ≤ b) : Bq N w' a' n' cap' l' := by
  refine ⟨hb, fun p hp => ?_⟩
  rcases hf with rfl | ⟨b, rfl, hbs⟩
  · exact h.2 p hp
  · injection hp with hp; subst hp; exact Nat.le_trans hs hbs
/-- A store into a block that holds no words. -/
theorem Bq.set {N c i : Nat} {w : World} {a : Option Addr} {n cap : Nat} {l : List Nat} {cs : Array Value} {T : TypeId} {fz : Nat × Nat} {v : Value} (h : Bq N w a n cap l) (hc : w.heap[c]? = some (.cells cs T fz)) (hT : T ≠ 29) : Bq N (w.setCell ⟨c, i, none⟩ v) a n cap l := by
  refine ⟨?_, h.2⟩
  obtain ⟨ws, ⟨h1, h2, h3, h4⟩, hrp⟩ := h.1
  refine ⟨ws, ⟨h1, h2, h3, ?_⟩, hrp⟩
  rcases h4 with h4 | ⟨b, o, h4, ⟨hb, cs', fz', ht⟩, hcl⟩
  · exact .inl h4
  · have hne : b ≠ c := by intro e; subst e; rw [hc] at ht; injection ht with ht; injection ht with _ ht; exact hT ht
    have hbk := Below.heap_setCell w ⟨c, i, none⟩ v b hne
    refine .inr ⟨b, o, h4, ⟨by simpa [World.setCell] using hb, cs', fz', hbk.trans ht⟩, fun j hj => ?_⟩
    rw [World.cell?_of_block (w := w) hbk]; exact hcl j hj
end Go.Proofs.YtfjpbkmnlmecgaaGreatDoor.Ru
end

section
/- The parser: condition. -/
namespace Go.Proofs.YtfjpbkmnlmecgaaGreatDoor.Ru
open Go.RowKit Go.PlainAid Go.Maps Go.Proofs.YtfjpbkmnlmecgaaGreatDoor Go.Proofs.YtfjpbkmnlmecgaaGreatDoor.Bz
set_option linter.unusedVariables false
set_option linter.unusedSimpArgs false
set_option maxHeartbeats 4000000
set_option maxRecDepth 20000

/-- The cube under way in block c. -/
def Cq (N : Nat) (w : World) (c : Nat) (yes no : List Nat) : Prop :=
  ∃ ya yn yc na nn nc, w.heap[c]? = some (.cells #[.slice ya yn yc, .slice na nn nc] 41 (0, 0)) ∧ Bq N w ya yn yc yes ∧ Bq N w na nn nc no
/-- Where the reader stands. -/
def posOf (w : World) (g : Nat) : Nat := match w.cell? ⟨g, 1, none⟩ with | some (.int _ p) => p.toNat | _ => 0
theorem Pw.pos {W0 w : World} {g : Nat} {ts : List Tok} {s : RS} (h : Pw W0 g ts s w) : posOf w g = s.pos := by
  obtain ⟨_, ⟨a, cap, hb4, _⟩, _⟩ := h
  unfold posOf
  rw [hb4.2.1]
  exact Int.toNat_natCast _
/-- What the loop keeps: r is what will come out. -/
def CnJ (W0 : World) (g c : Nat) (ts : List Tok) (E : Env) (r : (List Nat × List Nat) × RS) (v : Value) (w : World) : Prop :=
  ∃ yes no s, Cq W0.heap.size w c yes no ∧ Pw W0 g ts s w ∧ InT ts s ∧
    ((v = .bool true ∧ ∃ f, condS ts E f yes no s = r ∧ ts.length + 2 ≤ f + s.pos) ∨ (v = .bool false ∧ ((yes, no), s) = r))
theorem role_pos {ts : List Tok} {E : Env} {want : Bool} {used : List Nat} {s : RS} (h : InT ts s) : s.pos ≤ (roleS ts E want used s).pos := (na_le (e := feF s.e _) h).2
theorem acc_pos {ts : List Tok} {x : ByteArray} {s : RS} (h : InT ts s) : s.pos ≤ (accS ts x s).pos := (ac_le x h).2
/-- What condition answers. -/
def CnP (W0 w : World) (g : Nat) (ts : List Tok) (r : (List Nat × List Nat) × RS) (e : Ending) (w' : World) : Prop :=
  ∃ ya yn yc na nn nc, e = .returned (.agg #[.slice ya yn yc, .slice na nn nc]) ∧ Bq W0.heap.size w' ya yn yc r.1.1 ∧ Bq W0.heap.size w' na nn nc r.1.2 ∧ Pw W0 g ts r.2 w' ∧ InT ts r.2 ∧ w.grownBy w' (some g)
def msr : Value → Nat → Nat
  | .bool true, n => n
  | _, _ => 0
theorem gb_set_new {w w' : World} {row : Option Nat} {c i : Nat} {v : Value} (h : w.grownBy w' row) (hc : w.heap.size ≤ c) : w.grownBy (w'.setCell ⟨c, i, none⟩ v) row :=
  ⟨h.os, h.tape, h.output, by rw [World.size_setCell]; exact h.size, fun k hk hr => (Below.heap_setCell _ _ _ _ (by dsimp only; omega)).trans (h.block k hk hr)⟩
theorem stw2 {w : World} {g : Nat} {x y u v : Value} (t0 : w.cell? ⟨g, 0, none⟩ = some x) (t1 : w.cell? ⟨g, 1, none⟩ = some y) :
    ((w.setCell ⟨g, 0, none⟩ u).setCell ⟨g, 1, none⟩ v).cell? ⟨g, 0, none⟩ = some u ∧ ((w.setCell ⟨g, 0, none⟩ u).setCell ⟨g, 1, none⟩ v).cell? ⟨g, 1, none⟩ = some v := by
  constructor
  · rw [World.cell?_setCell_other _ _ _ _ (fun e => by injection e with e1 e2; omega)]
    exact World.cell?_setCell_same _ _ _ t0
  · exact World.cell?_setCell_same _ _ _ ((World.cell?_setCell_other _ _ _ _ (fun e => by injection e with e1 e2; omega)).trans t1)
theorem cellc {w : World} {t : Nat} {x y : Value} {T : TypeId} (h : w.heap[t]? = some (.cells #[x, y] T (0, 0))) : w.cell? ⟨t, 0, none⟩ = some x ∧ w.cell? ⟨t, 1, none⟩ = some y ∧ w.frozen? ⟨t, 0, none⟩ = false ∧ w.frozen? ⟨t, 1, none⟩ = false :=
  ⟨by rw [cell_of_row _ _ 0 _ _ _ h]; rfl, by rw [cell_of_row _ _ 1 _ _ _ h]; rfl, by unfold World.frozen?; dsimp only; rw [h]; simp, by unfold World.frozen?; dsimp only; rw [h]; simp⟩
theorem cond_any {W0 w : World} {g P t : Nat} {ns : List ByteArray} {a : Option Addr} {n cap : Nat} {adm : List Nat} {ts : List Tok} {s : RS} (hB : Base W0 g P t ns a n cap adm) (hw : Pw W0 g ts s w) (hi : InT ts s) :
    Calls Tryz.prog 152 #[.pointer (some ⟨P, 0, none⟩)] w (CnP W0 w g ts (condS ts (envOf ns adm) (ts.length + 2) [] [] s)) := by
  have hNS := hw.size
  obtain ⟨r, hr⟩ : ∃ r, condS ts (envOf ns adm) (ts.length + 2) [] [] s = r := ⟨_, rfl⟩
  have HSTART : Hid (CnJ W0 g (w.heap.size + 1) ts (envOf ns adm) r (.bool true) ((w.alloc (.cells #[.slice none 0 0, .slice none 0 0] 41)).alloc (.cells #[.slice none 0 0, .slice none 0 0] 41))) := by
    refine ⟨[], [], s, ⟨none, 0, 0, none, 0, 0, ?_, Bq.nil _ _, Bq.nil _ _⟩, hw.below (((Below.refl _ w).alloc (Nat.le_refl _) _).alloc (by simp) _), hi, .inl ⟨rfl, _, hr, by omega⟩⟩
    have := heap_alloc_new (w.alloc (.cells #[.slice none 0 0, .slice none 0 0] 41)) (.cells #[.slice none 0 0, .slice none 0 0] 41)
    rwa [World.size_alloc] at this
  rw [hr]
  clear hr
  go_enter Tryz.func152, Tryz.ntmps152
  go_wp2_with fail
  go_loopw [4] (fun v wr => CnJ W0 g (w.heap.size + 1) ts (envOf ns adm) r v wr ∧ w.grownBy wr (some g) ∧ w.heap.size + 2 ≤ wr.heap.size ∧ wr.heap[w.heap.size]? = some (.cells #[.slice none 0 0, .slice none 0 0] 41 (0, 0))) (fun v wr => msr v (1 + ts.length - posOf wr g))
  case atStart => exact ⟨HSTART, gb_of_below (((Below.refl _ w).alloc (Nat.le_refl _) _).alloc (by simp) _) _, by simp, by
    rw [Below.heap_alloc _ _ _ (by simp)]
    exact heap_alloc_new _ _⟩
  case round =>
    obtain ⟨⟨yes, no, s1, ⟨ya, yn, yc, na, nn, nc, hc, hy, hn⟩, hp1, hi1, hv⟩, hgr, hsz, hc0⟩ := hrel
    clear HSTART
    obtain ⟨k0, k1, f0, f1⟩ := cellc hc
    obtain ⟨j0, j1, e0, e1⟩ := cellc hc0
    rcases hv with ⟨rfl, f, hf, hfl⟩ | ⟨rfl, hf⟩
    · obtain ⟨f, rfl⟩ : ∃ f', f = f' + 1 := ⟨f - 1, by unfold InT at hi1; omega⟩
      have hcl : w.heap.size + 1 < wr.heap.size := by omega
      have hrl : w.heap.size < wr.heap.size := by omega
      have hgl := hp1.2.2
      have hgc : w.heap.size + 1 ≠ g := by omega
      have hgc' : w.heap.size ≠ g := by omega
      obtain ⟨x0, -, -⟩ := hB.cells hp1
      have HN := Lib.hid (p_accept ⟨#[110, 111, 116]⟩ hp1 hi1)
      have hi3 : InT ts (accS ts wNot s1) := acc_in hi1
      have hi5 := role_in (E := envOf ns adm) (want := false) (used := orL yes no) hi3
      unfold condS at hf
      dsimp only at hf
      have HF := Lib.hid hf
      have HCEL := Lib.hid (fun w' s' (h : Pw W0 g ts s' w') => hB.cells h)
      have HRL := Lib.hid (fun w' oa on oc (h : Pw W0 g ts (accS ts wNot s1) w') (hu : Bs w' oa on oc (orL yes no)) => role_any hB h hi3 false oa on oc (orL yes no) hu)
      have HAN := Lib.hid (fun w' (h : Pw W0 g ts (roleS ts (envOf ns adm) false (orL yes no) (accS ts wNot s1)) w') => p_accept ⟨#[97, 110, 100]⟩ h hi5)
      clear hf
      cases hb : accB ts wNot s1
      · have HBN : Hid (accB ts ⟨#[110, 111, 116]⟩ s1 = false) := hb
        go_wp2_with (first | (go_at_call 149; (with_reducible refine HN.out.mono ?_); rintro en w3 ⟨rfl, hp3, hg3⟩; rw [HBN.out]; have hc3 := (hg3.block _ hcl (fun e => hgc (Option.some.inj e))).trans hc; obtain ⟨k30, k31, -, -⟩ := cellc hc3; obtain ⟨x3, -, -⟩ := HCEL.out _ _ hp3; have hy3 := hy.read hg3 hgl; have hn3 := hn.read hg3 hgl; have hz3 := Nat.lt_of_lt_of_le hcl hg3.size) | (go_at_call 24; refine (or_any _ _ _ _ _ _ yes no _ hy3.1 hn3.1).mono ?_; rintro en w4 ⟨oa, on, oc, rfl, hbo, hb4⟩) | (go_at_call 151; refine (HRL.out _ oa on oc (hp3.below hb4) hbo).mono ?_; rintro en w5 ⟨rfl, hp5, hg5⟩; have hc5 := (hg5.block _ (Nat.lt_of_lt_of_le hz3 hb4.size) (fun e => hgc (Option.some.inj e))).trans ((hb4.block _ hz3).trans hc3); obtain ⟨k50, k51, -, -⟩ := cellc hc5; have hy5 := (hy3.below hb4).read hg5 hgl; have hn5 := (hn3.below hb4).read hg5 hgl; have hz5 := Nat.lt_of_lt_of_le (Nat.lt_of_lt_of_le hz3 hb4.size) hg5.size) | (go_at_call 59; refine (withN_any _ _ _ yes _ _ hy5.1).mono ?_; rintro en w6 ⟨ta, tn, tc, rfl, hbt, hb6, hft⟩; have hc6 := (hb6.block _ hz5).trans hc5; obtain ⟨k60, k61, f60, f61⟩ := cellc hc6; have ht6 := hy5.with hp5.size hbt hft; have ho6 := hn5.below hb6; have hp6 := hp5.below hb6; have hp7 := hp6.after ((Below.refl _ w6).setCell (p := ⟨w.heap.size + 1, 0, none⟩) (show W0.heap.size ≤ w.heap.size + 1 by omega) (.slice ta tn tc)); obtain ⟨x7, -, -⟩ := HCEL.out _ _ hp7; have hc7 := heap_setCell_same _ _ 0 _ _ (.slice ta tn tc) hc6; have ht7 := ht6.set (i := 0) (v := .slice ta tn tc) hc6 (by decide); have ho7 := ho6.set (i := 0) (v := .slice ta tn tc) hc6 (by decide)) | (go_at_call 149; (with_reducible refine (HAN.out _ hp7).mono ?_); rintro en w8 ⟨rfl, hp8, hg8⟩))
        have hcg8 := (hg8.block (w.heap.size + 1) (show w.heap.size + 1 < (w6.setCell _ _).heap.size by rw [World.size_setCell]; exact Nat.lt_of_lt_of_le hz5 hb6.size) (fun e => hgc (Option.some.inj e))).trans hc7
        have hF := HF.out
        rw [hb] at hF
        have hpa := acc_pos (x := wNot) hi1
        have hpr := role_pos (E := envOf ns adm) (want := false) (used := orL yes no) hi3
        refine ⟨⟨⟨_, _, _, ⟨_, _, _, _, _, _, hcg8, ht7.read hg8 hgl, ho7.read hg8 hgl⟩, hp8, acc_in hi5, ?_⟩, gb_trans (gb_set_new (gb_trans hgr (gb_trans hg3 (gb_trans (gb_of_below hb4 _) (gb_trans hg5 (gb_of_below hb6 _))))) (by omega)) hg8, ?_, ?_⟩, ?_⟩
        · cases ha : accB ts wAnd (roleS ts (envOf ns adm) false (orL yes no) (accS ts wNot s1))
          · rw [ha] at hF
            exact .inr ⟨congrArg Value.bool ha, hF⟩
          · rw [ha] at hF
            have hq := acc_yes ha
            exact .inl ⟨congrArg Value.bool ha, f, hF, by show ts.length + 2 ≤ f + (accS ts wAnd _).pos; omega⟩
        · exact Nat.le_trans (show w.heap.size + 2 ≤ (w6.setCell _ _).heap.size by rw [World.size_setCell]; have := hb6.size; omega) hg8.size
        · have z3 := Nat.lt_of_lt_of_le hrl hg3.size
          have z4 := Nat.lt_of_lt_of_le z3 hb4.size
          have z5 := Nat.lt_of_lt_of_le z4 hg5.size
          have z6 := Nat.lt_of_lt_of_le z5 hb6.size
          have ne : some w.heap.size ≠ some g := fun e => hgc' (Option.some.inj e)
          exact (hg8.block _ (by rw [World.size_setCell]; exact z6) ne).trans ((Below.heap_setCell _ _ _ _ (by dsimp only; omega)).trans ((hb6.block _ z5).trans ((hg5.block _ z4 ne).trans ((hb4.block _ z3).trans ((hg3.block _ hrl ne).trans hc0)))))
        · rw [Pw.pos hp1, Pw.pos hp8]
          unfold InT at hi1
          cases ha : accB ts wAnd (roleS ts (envOf ns adm) false (orL yes no) (accS ts wNot s1))
          · rw [show accB ts ⟨#[97, 110, 100]⟩ (roleS ts (envOf ns adm) false (orL yes no) (accS ts wNot s1)) = false from ha]
            show 0 < 1 + ts.length - s1.pos
            omega
          · have hq := acc_yes ha
            rw [show accB ts ⟨#[97, 110, 100]⟩ (roleS ts (envOf ns adm) false (orL yes no) (accS ts wNot s1)) = true from ha]
            show 1 + ts.length - (accS ts wAnd (roleS ts (envOf ns adm) false (orL yes no) (accS ts wNot s1))).pos < 1 + ts.length - s1.pos
            omega
      · have HBN : Hid (accB ts ⟨#[110, 111, 116]⟩ s1 = true) := hb
        go_wp2_with (first | (go_at_call 149; (with_reducible refine HN.out.mono ?_); rintro en w3 ⟨rfl, hp3, hg3⟩; rw [HBN.out]; have hc3 := (hg3.block _ hcl (fun e => hgc (Option.some.inj e))).trans hc; obtain ⟨k30, k31, -, -⟩ := cellc hc3; obtain ⟨x3, -, -⟩ := HCEL.out _ _ hp3; have hy3 := hy.read hg3 hgl; have hn3 := hn.read hg3 hgl; have hz3 := Nat.lt_of_lt_of_le hcl hg3.size) | (go_at_call 24; refine (or_any _ _ _ _ _ _ yes no _ hy3.1 hn3.1).mono ?_; rintro en w4 ⟨oa, on, oc, rfl, hbo, hb4⟩) | (go_at_call 151; refine (HRL.out _ oa on oc (hp3.below hb4) hbo).mono ?_; rintro en w5 ⟨rfl, hp5, hg5⟩; have hc5 := (hg5.block _ (Nat.lt_of_lt_of_le hz3 hb4.size) (fun e => hgc (Option.some.inj e))).trans ((hb4.block _ hz3).trans hc3); obtain ⟨k50, k51, -, -⟩ := cellc hc5; have hy5 := (hy3.below hb4).read hg5 hgl; have hn5 := (hn3.below hb4).read hg5 hgl; have hz5 := Nat.lt_of_lt_of_le (Nat.lt_of_lt_of_le hz3 hb4.size) hg5.size) | (go_at_call 59; refine (withN_any _ _ _ no _ _ hn5.1).mono ?_; rintro en w6 ⟨ta, tn, tc, rfl, hbt, hb6, hft⟩; have hc6 := (hb6.block _ hz5).trans hc5; obtain ⟨k60, k61, f60, f61⟩ := cellc hc6; have ht6 := hn5.with hp5.size hbt hft; have ho6 := hy5.below hb6; have hp6 := hp5.below hb6; have hp7 := hp6.after ((Below.refl _ w6).setCell (p := ⟨w.heap.size + 1, 1, none⟩) (show W0.heap.size ≤ w.heap.size + 1 by omega) (.slice ta tn tc)); obtain ⟨x7, -, -⟩ := HCEL.out _ _ hp7; have hc7 := heap_setCell_same _ _ 1 _ _ (.slice ta tn tc) hc6; have ht7 := ht6.set (i := 1) (v := .slice ta tn tc) hc6 (by decide); have ho7 := ho6.set (i := 1) (v := .slice ta tn tc) hc6 (by decide)) | (go_at_call 149; (with_reducible refine (HAN.out _ hp7).mono ?_); rintro en w8 ⟨rfl, hp8, hg8⟩))
        have hcg8 := (hg8.block (w.heap.size + 1) (show w.heap.size + 1 < (w6.setCell _ _).heap.size by rw [World.size_setCell]; exact Nat.lt_of_lt_of_le hz5 hb6.size) (fun e => hgc (Option.some.inj e))).trans hc7
        have hF := HF.out
        rw [hb] at hF
        have hpa := acc_pos (x := wNot) hi1
        have hpr := role_pos (E := envOf ns adm) (want := false) (used := orL yes no) hi3
        refine ⟨⟨⟨_, _, _, ⟨_, _, _, _, _, _, hcg8, ho7.read hg8 hgl, ht7.read hg8 hgl⟩, hp8, acc_in hi5, ?_⟩, gb_trans (gb_set_new (gb_trans hgr (gb_trans hg3 (gb_trans (gb_of_below hb4 _) (gb_trans hg5 (gb_of_below hb6 _))))) (by omega)) hg8, ?_, ?_⟩, ?_⟩
        · cases ha : accB ts wAnd (roleS ts (envOf ns adm) false (orL yes no) (accS ts wNot s1))
          · rw [ha] at hF
            exact .inr ⟨congrArg Value.bool ha, hF⟩
          · rw [ha] at hF
            have hq := acc_yes ha
            exact .inl ⟨congrArg Value.bool ha, f, hF, by show ts.length + 2 ≤ f + (accS ts wAnd _).pos; omega⟩
        · exact Nat.le_trans (show w.heap.size + 2 ≤ (w6.setCell _ _).heap.size by rw [World.size_setCell]; have := hb6.size; omega) hg8.size
        · have z3 := Nat.lt_of_lt_of_le hrl hg3.size
          have z4 := Nat.lt_of_lt_of_le z3 hb4.size
          have z5 := Nat.lt_of_lt_of_le z4 hg5.size
          have z6 := Nat.lt_of_lt_of_le z5 hb6.size
          have ne : some w.heap.size ≠ some g := fun e => hgc' (Option.some.inj e)
          exact (hg8.block _ (by rw [World.size_setCell]; exact z6) ne).trans ((Below.heap_setCell _ _ _ _ (by dsimp only; omega)).trans ((hb6.block _ z5).trans ((hg5.block _ z4 ne).trans ((hb4.block _ z3).trans ((hg3.block _ hrl ne).trans hc0)))))
        · rw [Pw.pos hp1, Pw.pos hp8]
          unfold InT at hi1
          cases ha : accB ts wAnd (roleS ts (envOf ns adm) false (orL yes no) (accS ts wNot s1))
          · rw [show accB ts ⟨#[97, 110, 100]⟩ (roleS ts (envOf ns adm) false (orL yes no) (accS ts wNot s1)) = false from ha]
            show 0 < 1 + ts.length - s1.pos
            omega
          · have hq := acc_yes ha
            rw [show accB ts ⟨#[97, 110, 100]⟩ (roleS ts (envOf ns adm) false (orL yes no) (accS ts wNot s1)) = true from ha]
            show 1 + ts.length - (accS ts wAnd (roleS ts (envOf ns adm) false (orL yes no) (accS ts wNot s1))).pos < 1 + ts.length - s1.pos
            omega
    · have hz : w.heap.size < wr.heap.size := by omega
      obtain ⟨cs0, cs1⟩ := stw2 (u := .slice ya yn yc) (v := .slice na nn nc) j0 j1
      have hd0 := heap_setCell_same _ _ 0 _ _ (.slice ya yn yc) hc0
      subst hf
      go_wp2_with fail
      refine bodyPost_ret (v := .agg #[.slice ya yn yc, .slice na nn nc]) (by simp [results, Tryz.results152, go_sem, cs0, cs1]) rfl ?_
      exact ⟨_, _, _, _, _, _, rfl, (hy.set (i := 0) (v := .slice ya yn yc) hc0 (by decide)).set (i := 1) (v := .slice na nn nc) hd0 (by decide), (hn.set (i := 0) (v := .slice ya yn yc) hc0 (by decide)).set (i := 1) (v := .slice na nn nc) hd0 (by decide), hp1.after (((Below.refl _ wr).setCell (p := ⟨w.heap.size, 0, none⟩) hNS _).setCell (p := ⟨w.heap.size, 1, none⟩) hNS _), hi1, gb_set_new (gb_set_new hgr (Nat.le_refl _)) (Nat.le_refl _)⟩
end Go.Proofs.YtfjpbkmnlmecgaaGreatDoor.Ru
end
