/- Several of the texts below, joined: RuAw RvG RwA RwB RwC. -/
import Derived.Test.YtfjpbkmnlmecgaaGreatDoorQgp
import Derived.Test.YtfjpbkmnlmecgaaGreatDoorQgt
import Derived.Test.YtfjpbkmnlmecgaaGreatDoorQgs
import Derived.Test.YtfjpbkmnlmecgaaGreatDoorQgi
import Derived.Test.YtfjpbkmnlmecgaaGreatDoorQge
section
/- Plain: the chapter's examples are parsed. -/
namespace Go.Proofs.YtfjpbkmnlmecgaaGreatDoor.Ru
open Go.RowKit Go.PlainAid Go.Proofs.YtfjpbkmnlmecgaaGreatDoor Go.Proofs.YtfjpbkmnlmecgaaGreatDoor.Bz
set_option linter.unusedVariables false
set_option linter.unusedSimpArgs false
set_option maxRecDepth 100000

def src1 : List UInt8 := [97, 115, 115, 105, 103, 110, 32, 97, 117, 100, 105, 116, 111, 114, 32, 98, 121, 32, 104, 114, 32, 105, 102, 32, 99, 108, 101, 114, 107, 32, 97, 110, 100, 32, 110, 111, 116, 32, 97, 117, 100, 105, 116, 111, 114, 32, 111, 110, 32, 51, 45, 55, 44, 32, 49, 48, 32, 102, 111, 114, 32, 51, 48, 59]
def src2 : List UInt8 := [97, 115, 115, 105, 103, 110, 32, 104, 114, 32, 98, 121, 32, 104, 114, 59]
def src3 : List UInt8 := [97, 115, 115, 105, 103, 110, 32, 99, 108, 101, 114, 107, 32, 98, 121, 32, 104, 114, 32, 111, 110, 32, 55, 45, 51, 59]
def out1 : List UInt8 := [97, 115, 115, 105, 103, 110, 32, 97, 117, 100, 105, 116, 111, 114, 32, 98, 121, 32, 104, 114, 32, 105, 102, 32, 99, 108, 101, 114, 107, 32, 97, 110, 100, 32, 110, 111, 116, 32, 97, 117, 100, 105, 116, 111, 114, 32, 111, 110, 32, 51, 45, 55, 44, 49, 48, 32, 102, 111, 114, 32, 51, 48, 59, 10]
def envA : Env := envOf threeN [3]
def ts1 : List Tok := (scanP src1).1
def ts2 : List Tok := (scanP src2).1
def ts3 : List Tok := (scanP src3).1
theorem sc1 : (scanP src1).2 = (0, 0) := by decide +kernel
theorem sc2 : (scanP src2).2 = (0, 0) := by decide +kernel
theorem sc3 : (scanP src3).2 = (0, 0) := by decide +kernel
theorem len1 : (parseT ts1 envA).1.length = 1 := by decide +kernel
theorem par1 : parseT ts1 envA = ([⟨false, 3, 2, [1], [2], ofL [(3, 7), (10, 10)], 30⟩], 0, 0) := by kernel_rfl
theorem par2 : (parseT ts2 envA).2 = (7, 10) := by decide +kernel
theorem par3 : (parseT ts3 envA).2 = (24, 2) := by decide +kernel
theorem can1 : ofL [(3, 7), (10, 10)] = [(3, 7), (10, 10)] := by
  unfold ofL
  rw [if_pos (by decide)]
  exact canL_eq ⟨by intro p hp; simp at hp; rcases hp with rfl | rfl <;> (unfold Dy.Okp; dsimp only; omega), by decide⟩ (fun _ => rfl)
theorem awP1 : parseR src1 envA = ([⟨false, 3, 2, [1], [2], [(3, 7), (10, 10)], 30⟩], 0, 0) := by
  unfold parseR
  rw [if_pos (by rw [sc1])]
  rw [← can1]; exact par1
theorem awP2 : (parseR src2 envA).2 = (7, 10) := by
  unfold parseR
  rw [if_pos (by rw [sc2])]
  exact par2
theorem awP3 : (parseR src3 envA).2 = (24, 2) := by
  unfold parseR
  rw [if_pos (by rw [sc3])]
  exact par3
end Go.Proofs.YtfjpbkmnlmecgaaGreatDoor.Ru
end

section
/- Contract: the laws' awake. -/
namespace Go.Proofs.YtfjpbkmnlmecgaaGreatDoor.Ru
open Go.RowKit Go.PlainAid Go.Maps Go.Shelf Go.Proofs.YtfjpbkmnlmecgaaGreatDoor Go.Proofs.YtfjpbkmnlmecgaaGreatDoor.Bz
set_option linter.unusedVariables false
set_option linter.unusedSimpArgs false
set_option maxHeartbeats 4000000
set_option maxRecDepth 20000

def r1 : Rl := ⟨false, 3, 2, [1], [2], [(3, 7), (10, 10)], 30⟩
theorem dec30 : Lib.decDigits 30 = [51, 48] := Lib.decDigits_two (by omega) (by omega)
theorem text1 : Dy.textL [(3, 7), (10, 10)] = [51, 45, 55, 44, 49, 48] := by
  unfold Dy.textL
  rw [if_neg (by simp), if_neg (by decide)]
  have e1 : Dy.spanT (3, 7) = [51, 45, 55] := by
    unfold Dy.spanT
    simp [Lib.itoa, Lib.decDigits_one]
  have e2 : Dy.spanT (10, 10) = [49, 48] := by
    unfold Dy.spanT
    simp [Lib.itoa, Lib.decDigits_two]
  simp only [List.map_cons, List.map_nil, e1, e2]
  decide
theorem lits1 : litsL threeN r1 = (true, ⟨(out1.take 45).toArray⟩) := by decide +kernel
theorem print1 : printP threeN [r1] = out1 := by
  have h : lineP threeN r1 = (⟨out1.toArray⟩, true) := by
    unfold lineP longL daysL
    rw [lits1, if_pos (show (!r1.revoke && decide (r1.longest ≠ 0)) = true by decide), if_neg (show ¬ r1.days = allD by decide)]
    show (_, _) = _
    rw [show r1.days = [(3, 7), (10, 10)] from rfl, text1, show r1.longest.toNat = 30 from rfl, dec30]
    decide +kernel
  unfold printP okAll flatL
  simp only [List.all_cons, List.all_nil, List.flatMap_cons, List.flatMap_nil, h, Bool.and_true, if_true, List.append_nil]
theorem perm1 : permB r1 [1] 7 36 = true := by decide
theorem perm2 : permB r1 [1] 7 37 = false := by decide
theorem perm3 : permB r1 [1] 8 9 = false := by decide
theorem ofL3 : Go.Proofs.YtfjpbkmnlmecgaaGreatDoor.Bz.ofL [3] = [3] := by decide +kernel
theorem ofL1 : Go.Proofs.YtfjpbkmnlmecgaaGreatDoor.Bz.ofL [1] = [1] := by decide +kernel
theorem three_size : ∀ s ∈ threeN, s.size ≤ 1000 := by
  have h : threeN.all (fun s => decide (s.size ≤ 1000)) = true := by decide +kernel
  intro s hs
  simpa using List.all_eq_true.1 h s hs
theorem iw_lit (w : World) (x : Int) : Iw (w.alloc (.cells #[.int .i64 x] 3)) (some ⟨w.heap.size, 0, none⟩) 1 1 [x] := by
  refine ⟨rfl, Nat.le_refl _, by omega, .inr ⟨_, _, rfl, by simp, fun j hj => ?_⟩⟩
  match j, hj with
  | 0, _ => exact (new1 w (.int .i64 x) 3).1
/-- What the tables of the library hold. -/
structure Wz (w : World) : Prop where
  tz : Tz w
  p10 : Dy.Pow10 w
theorem Wz.below {w w' : World} (h : Wz w) (hb : Below w.heap.size w w') : Wz w' := ⟨h.tz.below hb, h.p10.below hb⟩
theorem of_lit (w : World) (x : Int) (l : List Nat) (hl : Go.Proofs.YtfjpbkmnlmecgaaGreatDoor.Bz.ofL [x] = l) :
    Calls Tryz.prog 36 #[.slice (some ⟨w.heap.size, 0, none⟩) 1 1] (w.alloc (.cells #[.int .i64 x] 3)) (SetPost (w.alloc (.cells #[.int .i64 x] 3)) l) := by
  rw [← hl]; exact of_any _ _ _ _ _ (iw_lit w x) (by omega)
theorem parse_env (src : List UInt8) (t : Nat) (a : Option Addr) (n cap : Nat) (w : World) (hT : Tb w t threeN) (hA : Bs w a n cap [3]) (hs : src.length ≤ 8000) :
    Calls Tryz.prog 25 #[.string ⟨src.toArray⟩, .pointer (some ⟨t, 0, none⟩), .agg #[.slice a n cap]] w (PaP w (parseR src envA)) :=
  parse_any ⟨src.toArray⟩ t threeN a n cap [3] w hT hA (by rw [size_mk]; omega)
theorem awake_any (w : World) (hW : Wz w) : Calls Tryz.prog 12 #[] w fun e w' => e = .returned (.bool true) ∧ Below w.heap.size w w' := by
  have hsn := sn_built w threeN 3 rfl (by decide) (by decide) #[.string ⟨#[99, 108, 101, 114, 107]⟩, .string ⟨#[97, 117, 100, 105, 116, 111, 114]⟩, .string ⟨#[104, 114]⟩] (fun j hj => by
    match j, hj with
    | 0, _ => rfl
    | 1, _ => rfl
    | 2, _ => rfl)
  have HNO := Lib.hid (nof_any _ 3 3 threeN 63 _ hsn (by omega) (by omega) three_ok.1 three_ok.2)
  have hBn := (Below.refl w.heap.size w).alloc (Nat.le_refl _) (.cells #[.string ⟨#[99, 108, 101, 114, 107]⟩, .string ⟨#[97, 117, 100, 105, 116, 111, 114]⟩, .string ⟨#[104, 114]⟩] 9)
  clear hsn
  have tk0 : Hid True := trivial
  go_enter Tryz.func12, Tryz.ntmps12
  go_upto_region 10 with (first
    | (go_at_call 52; refine HNO.out.mono ?_; rintro en w1 ⟨p, rfl, hT1, hb1⟩; have hB1 := hBn.trans (hb1.mono hBn.size); have HT1 := Lib.hid hT1; clear hT1)
    | (go_at_call 36; clear tk0; refine (of_lit _ 3 [3] ofL3).mono ?_; rintro en w2 ⟨a2, n2, c2, rfl, hs2, hb2⟩; have tk1 : Hid True := trivial; have hd2 := bel1 hb2; have hB2 := hB1.trans (hd2.mono hB1.size); have HS2 := Lib.hid hs2; clear hs2)
    | (go_at_call 25; clear tk1; refine (parse_env src1 p _ _ _ _ (HT1.out.below hd2) HS2.out (by decide)).mono ?_; rw [awP1]; rintro en w3 ⟨a3, n3, c3, rfl, hR3, hb3⟩; have tk2 : Hid True := trivial; have hd3 := hd2.trans (hb3.mono hd2.size); have hB3 := hB2.trans (hb3.mono hB2.size); have HR3 := Lib.hid hR3; have hn3 := hR3.len; clear hR3; replace hn3 : n3 = 1 := hn3; subst hn3)
    | (go_at_call 36; clear tk2; refine (of_lit _ 3 [3] ofL3).mono ?_; rintro en w4 ⟨a4, n4, c4, rfl, hs4, hb4⟩; have tk3 : Hid True := trivial; have hd4 := bel1 hb4; have hB4 := hB3.trans (hd4.mono hB3.size); have HS4 := Lib.hid hs4; clear hs4)
    | (go_at_call 25; clear tk3; refine (parse_env src2 p _ _ _ _ (HT1.out.below (hd3.trans (hd4.mono hd3.size))) HS4.out (by decide)).mono ?_; rintro en w5 ⟨a5, n5, c5, rfl, hR5, hb5⟩; rw [show (parseR src2 envA).2.1 = 7 from congrArg (·.1) awP2, show (parseR src2 envA).2.2 = 10 from congrArg (·.2) awP2]; have tk4 : Hid True := trivial; have hd5 := (hd3.trans (hd4.mono hd3.size)).trans (hb5.mono (Nat.le_trans hd3.size hd4.size)); have hB5 := hB4.trans (hb5.mono hB4.size); clear hR5)
    | (go_at_call 36; clear tk4; refine (of_lit _ 3 [3] ofL3).mono ?_; rintro en w6 ⟨a6, n6, c6, rfl, hs6, hb6⟩; have tk5 : Hid True := trivial; have hd6 := bel1 hb6; have hB6 := hB5.trans (hd6.mono hB5.size); have HS6 := Lib.hid hs6; clear hs6)
    | (go_at_call 25; clear tk5; refine (parse_env src3 p _ _ _ _ (HT1.out.below (hd5.trans (hd6.mono hd5.size))) HS6.out (by decide)).mono ?_; rintro en w7 ⟨a7, n7, c7, rfl, hR7, hb7⟩; rw [show (parseR src3 envA).2.1 = 24 from congrArg (·.1) awP3, show (parseR src3 envA).2.2 = 2 from congrArg (·.2) awP3]; have tk6 : Hid True := trivial; have hd7 := (hd5.trans (hd6.mono hd5.size)).trans (hb7.mono (Nat.le_trans hd5.size hd6.size)); have hB7 := hB6.trans (hb7.mono hB6.size); clear hR7)
    | (go_at_call 36; clear tk6; refine (of_lit _ 1 [1] ofL1).mono ?_; rintro en w8 ⟨a8, n8, c8, rfl, hs8, hb8⟩; have hd8 := bel1 hb8; have hB8 := hB7.trans (hd8.mono hB7.size); have HS8 := Lib.hid hs8; clear hs8))
  -- REGION10
  obtain ⟨W9, hW9e⟩ : ∃ W, W = w8.alloc (.cells #[.slice a8 n8 c8] 39) := ⟨_, rfl⟩
  have hk8 := new1 w8 (.slice a8 n8 c8) 39
  rw [← hW9e] at hk8 ⊢
  have hB9a : Below w8.heap.size w8 W9 := by rw [hW9e]; exact (Below.refl _ _).alloc (Nat.le_refl _) _
  have hz9 : W9.heap.size = w8.heap.size + 1 := by rw [hW9e]; simp
  clear hW9e
  have h38 : Below w3.heap.size w3 W9 := (((((hd4.trans (hb5.mono hd4.size)).trans (hd6.mono (Nat.le_trans hd4.size hb5.size))).trans (hb7.mono (Nat.le_trans (Nat.le_trans hd4.size hb5.size) hd6.size))).trans (hd8.mono (Nat.le_trans (Nat.le_trans (Nat.le_trans hd4.size hb5.size) hd6.size) hb7.size)))).trans (hB9a.mono (Nat.le_trans (Nat.le_trans (Nat.le_trans (Nat.le_trans hd4.size hb5.size) hd6.size) hb7.size) hd8.size))
  have HRR := Lib.hid (HR3.out.below h38)
  have HT9 := Lib.hid (HT1.out.below (hd3.trans (h38.mono hd3.size)))
  have HS9 := Lib.hid (HS8.out.below hB9a)
  have hB9 : Below w.heap.size w W9 := hB8.trans (hB9a.mono hB8.size)
  have hW9 := hW.below hB9
  obtain ⟨b, o, ⟨rv, ad, tg, p1, q1, z1, p2, q2, z2, p3, q3, z3, lg⟩, rfl, hbl, hrw, hcell⟩ := HRR.out.at (j := 0) rfl
  obtain ⟨e0, e1, e2, e3, e4, e5, e6, e7⟩ := id hrw
  dsimp only at e0 e1 e2 e6
  subst e0 e1 e2 e6
  have HQ : Hid (∀ w', Below W9.heap.size W9 w' → w'.cell? ⟨b, o, none⟩ = some (.bool false) ∧ w'.cell? ⟨b, o + 1, none⟩ = some (.int .i64 3) ∧ w'.cell? ⟨b, o + 2, none⟩ = some (.int .i64 2) ∧ w'.cell? ⟨b, o + 3, none⟩ = some (.slice p1 q1 z1) ∧ w'.cell? ⟨b, o + 4, none⟩ = some (.slice p2 q2 z2) ∧ w'.cell? ⟨b, o + 5, none⟩ = some (.slice p3 q3 z3) ∧ w'.cell? ⟨b, o + 6, none⟩ = some (.int .i64 30) ∧ w'.cell? ⟨w8.heap.size, 0, none⟩ = some (.slice a8 n8 c8)) := fun w' hb => by
    have k := fun c v h => (hb.cell (p := ⟨b, o + 0 * 7 + c, none⟩) hbl).trans (hcell c v h)
    simp only [Nat.zero_mul, Nat.add_zero] at k
    exact ⟨k 0 _ rfl, k 1 _ rfl, k 2 _ rfl, k 3 _ rfl, k 4 _ rfl, k 5 _ rfl, k 6 _ rfl, (hb.cell (p := ⟨w8.heap.size, 0, none⟩) (by show w8.heap.size < W9.heap.size; omega)).trans hk8.1⟩
  have print1' : (⟨(printP threeN [r1]).toArray⟩ : ByteArray) = ⟨#[97, 115, 115, 105, 103, 110, 32, 97, 117, 100, 105, 116, 111, 114, 32, 98, 121, 32, 104, 114, 32, 105, 102, 32, 99, 108, 101, 114, 107, 32, 97, 110, 100, 32, 110, 111, 116, 32, 97, 117, 100, 105, 116, 111, 114, 32, 111, 110, 32, 51, 45, 55, 44, 49, 48, 32, 102, 111, 114, 32, 51, 48, 59, 10]⟩ := by rw [print1]; rfl
  have tk7 : Hid True := trivial
  have hkD := (Below.refl W9.heap.size W9).drew
  clear hcell e3 e4 e5 e7 hb1 hb2 hb3 hb4 hb5 hb6 hb7 hb8 hd2 hd3 hd4 hd5 hd6 hd7 hd8 hk8 HNO
  refine wp_region_noPanic ?_
  refine region_ord (S := fun w' => w'.cell? ⟨b, o, none⟩ = some (.bool false) ∧ w'.cell? ⟨b, o + 1, none⟩ = some (.int .i64 3) ∧ w'.cell? ⟨b, o + 2, none⟩ = some (.int .i64 2) ∧ w'.cell? ⟨b, o + 3, none⟩ = some (.slice p1 q1 z1) ∧ w'.cell? ⟨b, o + 4, none⟩ = some (.slice p2 q2 z2) ∧ w'.cell? ⟨b, o + 5, none⟩ = some (.slice p3 q3 z3) ∧ w'.cell? ⟨b, o + 6, none⟩ = some (.int .i64 30) ∧ w'.cell? ⟨w8.heap.size, 0, none⟩ = some (.slice a8 n8 c8)) [0, 1, 2, 3, 4, 5, 6, 7, 8, 9, 10, 11, 12, 13, 14, 15, 16, 17, 18, 19, 20, 21, 22, 23, 24, 25, 26, 27, 28, 29, 30, 31, 32, 33, 34, 35, 36, 37, 38, 39, 40, 41, 42, 43] (by kernel_rfl) (by decide +kernel) (fun _ _ _ _ _ h => h) (HQ.out _ hkD) (fun _ => ?_)
  repeat (first
    | (refine ord_skip rfl rfl rfl ?_; (try simp only [Act.put, List.setIfInBounds_toArray, List.set_cons_zero, List.set_cons_succ]))
    | (refine' ord_light (v := _) rfl rfl rfl (fun w' hSw => ?_) ?_; rotate_left; (focus ((try dsimp only at hSw); go_simp <;> (with_reducible rfl))); (try simp only [Act.put, List.setIfInBounds_toArray, List.set_cons_zero, List.set_cons_succ]))
    | (refine ord_heavy rfl rfl (fun K hK => ?_); go_simp; (go_at_call 17; clear tk7; refine (print_any (some ⟨b, o, none⟩) 1 c3 p [r1] threeN _ (HRR.out.below hkD) (HT9.out.below hkD) (by decide) three_size (fun r hr => by simp at hr; subst hr; exact ⟨by decide, by decide⟩) (hW9.tz.below hkD) (hW9.p10.below hkD) (by decide)).mono ?_; rw [print1']; rintro en w10 ⟨rfl, hb10⟩; have tk8 : Hid True := trivial; have hk10 := hkD.trans (hb10.mono hkD.size); have s10 := HQ.out _ hk10); (try go_wp2_with fail); refine hK.out _ _ (by first | exact HQ.out _ hkD | exact s10 | exact s11 | exact s12 | exact s13) ?_; clear hK K; (try simp only [Act.put, List.setIfInBounds_toArray, List.set_cons_zero, List.set_cons_succ]))
    | (refine ord_heavy rfl rfl (fun K hK => ?_); go_simp; (go_at_call 21; clear tk8; refine (permits_any ⟨false, 3, 2, p1, q1, z1, p2, q2, z2, p3, q3, z3, 30⟩ r1 a8 n8 c8 [1] 7 36 _ (hrw.below hk10) (HS9.out.below hk10)).mono ?_; rw [perm1]; rintro en w11 ⟨rfl, hb11⟩; have tk9 : Hid True := trivial; have hk11 := hk10.trans (hb11.mono hk10.size); have s11 := HQ.out _ hk11); (try go_wp2_with fail); refine hK.out _ _ (by first | exact HQ.out _ hkD | exact s10 | exact s11 | exact s12 | exact s13) ?_; clear hK K; (try simp only [Act.put, List.setIfInBounds_toArray, List.set_cons_zero, List.set_cons_succ]))
    | (refine ord_heavy rfl rfl (fun K hK => ?_); go_simp; (go_at_call 21; clear tk9; refine (permits_any ⟨false, 3, 2, p1, q1, z1, p2, q2, z2, p3, q3, z3, 30⟩ r1 a8 n8 c8 [1] 7 37 _ (hrw.below hk11) (HS9.out.below hk11)).mono ?_; rw [perm2]; rintro en w12 ⟨rfl, hb12⟩; have tk10 : Hid True := trivial; have hk12 := hk11.trans (hb12.mono hk11.size); have s12 := HQ.out _ hk12); (try go_wp2_with fail); refine hK.out _ _ (by first | exact HQ.out _ hkD | exact s10 | exact s11 | exact s12 | exact s13) ?_; clear hK K; (try simp only [Act.put, List.setIfInBounds_toArray, List.set_cons_zero, List.set_cons_succ]))
    | (refine ord_heavy rfl rfl (fun K hK => ?_); go_simp; (go_at_call 21; clear tk10; refine (permits_any ⟨false, 3, 2, p1, q1, z1, p2, q2, z2, p3, q3, z3, 30⟩ r1 a8 n8 c8 [1] 8 9 _ (hrw.below hk12) (HS9.out.below hk12)).mono ?_; rw [perm3]; rintro en w13 ⟨rfl, hb13⟩; have tk11 : Hid True := trivial; have hk13 := hk12.trans (hb13.mono hk12.size); have s13 := HQ.out _ hk13); (try go_wp2_with fail); refine hK.out _ _ (by first | exact HQ.out _ hkD | exact s10 | exact s11 | exact s12 | exact s13) ?_; clear hK K; (try simp only [Act.put, List.setIfInBounds_toArray, List.set_cons_zero, List.set_cons_succ]))
    | (refine ord_heavy rfl rfl (fun K hK => ?_); go_simp; (try go_wp2_with fail); refine hK.out _ _ (by first | exact HQ.out _ hkD | exact s10 | exact s11 | exact s12 | exact s13) ?_; clear hK K; (try simp only [Act.put, List.setIfInBounds_toArray, List.set_cons_zero, List.set_cons_succ])))
  refine ord_nil (NoPanic.normal ?_)
  go_wp2_with fail
  go_ret
  exact ⟨rfl, hB9.trans (hk13.mono hB9.size)⟩
end Go.Proofs.YtfjpbkmnlmecgaaGreatDoor.Ru
end

section
/- The harness: arbaclaw10.Set, arbaclaw23.When. -/
namespace Go.Proofs.YtfjpbkmnlmecgaaGreatDoor.Ru
open Go.RowKit Go.PlainAid Go.Maps Go.Shelf Go.Proofs.YtfjpbkmnlmecgaaGreatDoor Go.Proofs.YtfjpbkmnlmecgaaGreatDoor.Bz
set_option linter.unusedVariables false
set_option linter.unusedSimpArgs false
set_option maxHeartbeats 4000000
set_option maxRecDepth 20000

/-- The roles below k of a mask. -/
def maskU (m k : Nat) : List Nat := (List.range k).filter (fun r => decide (1 ≤ r) && m.testBit r)
def maskL (m : Nat) : List Nat := maskU m 64
theorem asc_mask (m k : Nat) (hk : k ≤ 4096) : Asc (maskU m k) := ⟨(pw_range k).filter _, fun x hx => by unfold maskU at hx; simp at hx; omega⟩
theorem mem_mask {m k x : Nat} : x ∈ maskU m k ↔ x < k ∧ 1 ≤ x ∧ m.testBit x = true := by unfold maskU; simp
theorem mem_with {l : List Nat} {k x : Nat} (hk : k ≤ 4095) : x ∈ withL l (k : Int) ↔ x < 4096 ∧ (x ∈ l ∨ x = k) := by
  unfold withL
  rw [if_pos (by omega)]
  simp
theorem asc_with (l : List Nat) (k : Nat) (hk : k ≤ 4095) : Asc (withL l (k : Int)) := by
  unfold withL
  rw [if_pos (by omega)]
  exact ⟨(pw_range 4096).filter _, fun x hx => by simp at hx; exact hx.1⟩
theorem mask_step (m k : Nat) (h1 : 1 ≤ k) (hk : k ≤ 63) (hb : m.testBit k = true) : withL (maskU m k) (k : Int) = maskU m (k + 1) :=
  asc_ext (asc_with _ _ (by omega)) (asc_mask _ _ (by omega)) fun x => by
    rw [mem_with (by omega), mem_mask, mem_mask]
    constructor
    · rintro ⟨_, ⟨h, h2, h3⟩ | rfl⟩
      · exact ⟨by omega, h2, h3⟩
      · exact ⟨by omega, h1, hb⟩
    · rintro ⟨h, h2, h3⟩
      by_cases e : x = k
      · exact ⟨by omega, .inr e⟩
      · exact ⟨by omega, .inl ⟨by omega, h2, h3⟩⟩
theorem mask_skip (m k : Nat) (hb : m.testBit k = false) : maskU m (k + 1) = maskU m k := by
  unfold maskU
  rw [List.range_succ, List.filter_append]
  simp [hb]
theorem mask_one (m : Nat) : maskU m 1 = [] := by
  unfold maskU
  simp [List.range_succ]
theorem shr_bit (m k : Nat) : ((m : Int) / 2 ^ k).tmod 2 = if m.testBit k then 1 else 0 := by
  have h1 : ((m : Int) / 2 ^ k) = ((m / 2 ^ k : Nat) : Int) := by rw [Int.natCast_ediv]; simp
  rw [h1, Nat.testBit_eq_decide_div_mod_eq, Int.tmod_eq_emod_of_nonneg (Int.natCast_nonneg _)]
  by_cases h : m / 2 ^ k % 2 = 1
  · rw [decide_eq_true h, if_pos rfl]; omega
  · rw [decide_eq_false h, if_neg (by decide)]; omega
theorem ofL0 : Go.Proofs.YtfjpbkmnlmecgaaGreatDoor.Bz.ofL [] = [] := by decide +kernel
theorem iw_nil (w : World) : Iw w none 0 0 [] := ⟨rfl, Nat.le_refl _, by omega, .inl ⟨rfl, rfl, rfl⟩⟩
theorem Bs_set {w : World} {a : Option Addr} {n cap : Nat} {l : List Nat} {c i : Nat} {cs : Array Value} {T : TypeId} {fz : Nat × Nat} {v : Value} (h : Bs w a n cap l) (hc : w.heap[c]? = some (.cells cs T fz)) (hT : T ≠ 29) : Bs (w.setCell ⟨c, i, none⟩ v) a n cap l :=
  (Bq.set (N := 0) ⟨h, fun _ _ => Nat.zero_le _⟩ hc hT).1
theorem mset_any (m : Nat) (hm : m < 18446744073709551616) (w : World) : Calls Tryz.prog 20 #[.int .u64 (m : Nat)] w (SetPost w (maskL m)) := by
  have HO := Lib.hid (of_any none 0 0 [] (w.alloc (.cells #[.slice none 0 0] 39)) (iw_nil _) (by omega))
  rw [ofL0] at HO
  go_enter Tryz.func20, Tryz.ntmps20
  go_wp2_with (go_at_call 36; refine HO.out.mono ?_; rintro en w1 ⟨a1, n1, c1, rfl, hs1, hb1⟩)
  have hz1 := hb1.size
  rw [World.size_alloc] at hz1
  have hr1 := (hb1.block w.heap.size (by simp)).trans (heap_alloc_new w (.cells #[.slice none 0 0] 39))
  have hal : Below w1.heap.size w1 (w1.alloc (.cells #[.slice a1 n1 c1] 39)) := (Below.refl _ _).alloc (Nat.le_refl _) _
  have hB1 : Below w.heap.size w (w1.alloc (.cells #[.slice a1 n1 c1] 39)) := (bel1 hb1).trans (hal.mono (by omega))
  have HST : Hid (∃ (k : Nat) (a : Option Addr) (n c : Nat), 1 ≤ k ∧ k ≤ 64 ∧ Value.int .i64 1 = .int .i64 k ∧ (w1.alloc (.cells #[.slice a1 n1 c1] 39)).heap[w1.heap.size]? = some (.cells #[.slice a n c] 39 (0, 0)) ∧ (w1.alloc (.cells #[.slice a1 n1 c1] 39)).heap[w.heap.size]? = some (.cells #[.slice none 0 0] 39 (0, 0)) ∧ Bs (w1.alloc (.cells #[.slice a1 n1 c1] 39)) a n c (maskU m k) ∧ Below w.heap.size w (w1.alloc (.cells #[.slice a1 n1 c1] 39))) :=
    ⟨1, a1, n1, c1, Nat.le_refl _, by omega, rfl, heap_alloc_new _ _, (hal.block _ (by omega)).trans hr1, by rw [mask_one]; exact hs1.below hal, hB1⟩
  clear hs1 hb1 hr1
  go_wp2_with fail
  go_loopw [4] (fun v wr => ∃ (k : Nat) (a : Option Addr) (n c : Nat), 1 ≤ k ∧ k ≤ 64 ∧ v = .int .i64 k ∧ wr.heap[w1.heap.size]? = some (.cells #[.slice a n c] 39 (0, 0)) ∧ wr.heap[w.heap.size]? = some (.cells #[.slice none 0 0] 39 (0, 0)) ∧ Bs wr a n c (maskU m k) ∧ Below w.heap.size w wr) (fun v _ => 64 - (intOf v).toNat)
  case atStart => exact HST.out
  case round =>
    clear HST
    obtain ⟨k, a, n, c, hk1, hk2, rfl, ho, hr, hs, hbw⟩ := hrel
    have hol := heap_lt ho
    obtain ⟨k0, f0⟩ := cell1 ho
    obtain ⟨r0, g0⟩ := cell1 hr
    by_cases hk : k < 64
    · have hki : (k : Int) < 64 := by omega
      have hk0 : (0 : Int) ≤ k := by omega
      have hsh := shr_bit m k
      have HW := Lib.hid (withN_any a n c (maskU m k) (k : Int) wr hs)
      cases hb : m.testBit k
      · rw [hb] at hsh
        have e := mask_skip m k hb
        rw [← e] at hs
        have HS := Lib.hid hs
        clear hs e hb HW
        go_wp2_with fail
        go_roundw
        case rel => exact ⟨k + 1, a, n, c, by omega, by omega, by go_num, ho, hr, HS.out, hbw⟩
        case measure => simp [intOf]; omega
      · rw [hb] at hsh
        have e := mask_step m k hk1 (by omega) hb
        have HE := Lib.hid e
        clear e hb hs
        go_wp2_with (go_at_call 59; refine HW.out.mono ?_; rintro en w6 ⟨ta, tn, tc, rfl, hbt, hb6, hft⟩; have ho6 := (hb6.block _ hol).trans ho; obtain ⟨k6, f6⟩ := cell1 ho6; rw [HE.out] at hbt)
        have ho7 := heap_setCell_same _ _ 0 _ _ (.slice ta tn tc) ho6
        have hr7 := (Below.heap_setCell w6 ⟨w1.heap.size, 0, none⟩ (.slice ta tn tc) w.heap.size (by dsimp only; omega)).trans ((hb6.block _ (heap_lt hr)).trans hr)
        go_roundw
        case rel => exact ⟨k + 1, ta, tn, tc, by omega, by omega, by go_num, ho7, hr7, Bs_set hbt ho6 (by decide), (hbw.trans (hb6.mono hbw.size)).setCell (p := ⟨w1.heap.size, 0, none⟩) (by dsimp only; omega) _⟩
        case measure => simp [intOf]; omega
    · obtain rfl : k = 64 := by omega
      have cs := World.cell?_setCell_same wr ⟨w.heap.size, 0, none⟩ (.slice a n c) r0
      go_wp2_with fail
      refine bodyPost_ret (v := .agg #[.slice a n c]) (by simp [results, Tryz.results20, go_sem, cs]) rfl ?_
      exact ⟨a, n, c, rfl, Bs_set hs hr (by decide), hbw.setCell (p := ⟨w.heap.size, 0, none⟩) (Nat.le_refl _) _⟩
end Go.Proofs.YtfjpbkmnlmecgaaGreatDoor.Ru
end

section
/- The harness: arbaclaw23.When. -/
namespace Go.Proofs.YtfjpbkmnlmecgaaGreatDoor.Ru
open Go.RowKit Go.PlainAid Go.Maps Go.Shelf Go.Proofs.YtfjpbkmnlmecgaaGreatDoor Go.Proofs.YtfjpbkmnlmecgaaGreatDoor.Bz
set_option linter.unusedVariables false
set_option linter.unusedSimpArgs false
set_option maxHeartbeats 4000000
set_option maxRecDepth 20000

theorem Dn_block {N c i : Nat} {w : World} {a : Option Addr} {n cap : Nat} {l : List (Int × Int)} {cs : Array Value} {T : TypeId} {fz : Nat × Nat} {v : Value} (h : Dy.Dn N w a n cap l) (hc : w.heap[c]? = some (.cells cs T fz)) (hT : T ≠ 158) (hU : T ≠ 29) : Dy.Dn N (w.setCell ⟨c, i, none⟩ v) a n cap l :=
  Dn_far h (gb_set (g := c) w i v) (fun q e => by cases e; exact type_far hc hU hT)
theorem dm_take (l : List (Int × Int)) (j : Nat) (p : Int × Int) (h : l[j]? = some p) (d : Int) : Dy.Dm (l.take (j + 1)) d = (Dy.Dm (l.take j) d || Dy.Dm [p] d) := by
  rw [Dy.take_snoc' h, Dy.dm_append]
theorem hwhen_any (a : Option Addr) (n c : Nat) (l : List (Int × Int)) (w : World) (h : Dy.Ds w a n c l) (hc : Dy.Can l) :
    Calls Tryz.prog 54 #[.slice a n c] w fun e w' => ∃ a' n' c', e = .returned (.agg #[.slice a' n' c']) ∧ Dy.Dn w.heap.size w' a' n' c' l ∧ Below w.heap.size w w' := by
  have HD := Lib.hid (fun w' (hb : Below w.heap.size w w') => h.below hb (Nat.le_refl _))
  have HL := Lib.hid h.1
  have hcap := h.2.1
  have hmx := h.2.2.1
  unfold maxLen at hmx
  have hnn : n ≤ 15001 := by rw [← h.1]; exact Dy.can_len hc
  have hr0 := heap_alloc_new w (.cells #[.slice none 0 0] 44)
  have hr1 := heap_alloc_new (w.alloc (.cells #[.slice none 0 0] 44)) (.cells #[.slice none 0 0] 44)
  rw [World.size_alloc] at hr1
  have hr0' := (Below.heap_alloc (w.alloc (.cells #[.slice none 0 0] 44)) (.cells #[.slice none 0 0] 44) w.heap.size (by simp)).trans hr0
  have hB0 := ((Below.refl w.heap.size w).alloc (Nat.le_refl _) (.cells #[.slice none 0 0] 44)).alloc (by simp) (.cells #[.slice none 0 0] 44)
  have H4 := Lib.hid h.2.2.2
  clear h hr0
  go_enter Tryz.func54, Tryz.ntmps54
  go_wp2_with fail
  go_loopw [11] (fun v wr => ∃ (j : Nat) (sa : Option Addr) (sn sc : Nat) (r : List (Int × Int)), j ≤ n ∧ v = .int .i64 j ∧ wr.heap[w.heap.size + 1]? = some (.cells #[.slice sa sn sc] 44 (0, 0)) ∧ wr.heap[w.heap.size]? = some (.cells #[.slice none 0 0] 44 (0, 0)) ∧ Hid (Dy.Dn w.heap.size wr sa sn sc r) ∧ Hid (Dy.Can r) ∧ Hid (∀ d, Dy.Dm r d = Dy.Dm (l.take j) d) ∧ Below w.heap.size w wr) (fun v wr => n - (intOf v).toNat)
  case atStart => exact ⟨0, none, 0, 0, [], by omega, rfl, hr1, hr0', Dy.Dn.nil _ _, Dy.can_nil, fun d => rfl, hB0⟩
  case round =>
    clear hr1 hr0' hB0
    obtain ⟨j, sa, sn, sc, r, hj, rfl, ho, hr, hs, hcr, hm, hbw⟩ := hrel
    have hol := heap_lt ho
    obtain ⟨k0, f0⟩ := cell1 ho
    obtain ⟨r0, g0⟩ := cell1 hr
    by_cases hjn : j < n
    · rcases H4.out with h0 | ⟨b, o, rfl, hb, hcell⟩
      · omega
      obtain ⟨⟨p1, p2⟩, hp⟩ : ∃ p, l[j]? = some p := ⟨_, List.getElem?_eq_getElem (by have h : l.length = n := HL.out; omega)⟩
      obtain ⟨x1, x2⟩ := hcell j _ hp
      have x1 := (hbw.cell (p := ⟨b, _, none⟩) hb).trans x1
      have x2 := (hbw.cell (p := ⟨b, _, none⟩) hb).trans x2
      dsimp only at x1 x2
      have hokp := hc.1 _ (List.mem_of_getElem? hp)
      have hj0 : (0 : Int) ≤ (j : Int) := Int.natCast_nonneg _
      have hj1 : (j : Int) < (n : Int) := by omega
      have HDT := Lib.hid (fun d => dm_take l j _ hp d)
      have hE0 : Dy.errL [(p1, p2)] = 0 := by
        unfold Dy.Okp at hokp
        dsimp only at hokp
        have e0 : Dy.errP (p1, p2) = 0 := by
          unfold Dy.errP
          rw [if_neg (by dsimp only; omega), if_neg (by dsimp only; omega)]
        have h := Dy.errL_step (l := [(p1, p2)]) (j := 0) rfl
        rw [if_pos e0] at h
        exact h
      have hBb : Below wr.heap.size wr ((wr.alloc (.cells #[.int .i64 p1, .int .i64 p2] 80)).alloc (.cells #[.int .i64 p1, .int .i64 p2] 158)) := ((Below.refl _ wr).alloc (Nat.le_refl _) _).alloc (by simp) _
      have HOF := Lib.hid (Dy.of_any (some ⟨wr.heap.size + 1, 0, none⟩) 1 1 [(p1, p2)] ((wr.alloc (.cells #[.int .i64 p1, .int .i64 p2] 80)).alloc (.cells #[.int .i64 p1, .int .i64 p2] 158)) (Dy.Ds.one _ p1 p2 _ _ (by simp)) (by omega))
      have HE0 := Lib.hid hE0
      clear hcell hp hE0
      go_wp2_with (first
        | (go_at_call 129; refine HOF.out.mono ?_; rintro en w5 ⟨a5, n5, c5, r5, rfl, hd5, hc5, hm5, hb5⟩; rw [HE0.out]; rw [decide_eq_true HE0.out] at hm5; have hd5b : Below wr.heap.size wr w5 := hBb.trans (hb5.mono hBb.size); have hz5 := hd5b.size; have hb6 : Below wr.heap.size wr (w5.alloc (.cells #[.slice a5 n5 c5] 44)) := hd5b.alloc hz5 _; have ho6 := (hb6.block _ hol).trans ho; obtain ⟨k6, f6⟩ := cell1 ho6; have HD6 := Lib.hid (hd5.below ((Below.refl _ w5).alloc (Nat.le_refl _) (.cells #[.slice a5 n5 c5] 44))); have HC5 := Lib.hid hc5; have HM5 := Lib.hid hm5; have HS6 := Lib.hid (hs.out.below hb6); clear hd5 hc5 hm5)
        | (go_at_call 130; refine (Dy.or_anyF sa a5 sn n5 sc c5 r r5 _ HS6.out.1 HD6.out.1 hcr.out HC5.out).mono ?_; rintro en w7 ⟨a7, n7, c7, l7, rfl, hd7, hc7, hm7, hb7⟩; have ho7 := (hb7.block _ (heap_lt ho6)).trans ho6; obtain ⟨k7, f7⟩ := cell1 ho7; have HD7 := Lib.hid hd7; have HC7 := Lib.hid hc7; have HM7 := Lib.hid hm7; have hz7 := hb7.size; clear hd7 hc7 hm7))
      rw [World.size_alloc] at hz7
      have hbE : Below w.heap.size w w7 := (hbw.trans (hb6.mono hbw.size)).trans (hb7.mono (by rw [World.size_alloc]; have := hbw.size; omega))
      have ho8 := heap_setCell_same _ _ 0 _ _ (.slice a7 n7 c7) ho7
      have hr8 := (Below.heap_setCell w7 ⟨w.heap.size + 1, 0, none⟩ (.slice a7 n7 c7) w.heap.size (by dsimp only; omega)).trans ((hb7.block _ (by rw [World.size_alloc]; have := heap_lt hr; omega)).trans ((hb6.block _ (heap_lt hr)).trans hr))
      go_roundw
      case rel => exact ⟨j + 1, a7, n7, c7, l7, by omega, by go_num, ho8, hr8, Dn_block (HD7.out.mono (by rw [World.size_alloc]; have := hbw.size; omega)) ho7 (by decide) (by decide), HC7.out, fun d => by rw [HM7.out d, HDT.out d, hm.out d, HM5.out d], hbE.setCell (p := ⟨w.heap.size + 1, 0, none⟩) (by dsimp only; omega) _⟩
      case measure => simp [intOf]; omega
    · obtain rfl : j = n := by omega
      have hrl : r = l := Dy.can_ext hcr.out hc fun d => by
        rw [hm.out d, List.take_of_length_le (by have h : l.length = j := HL.out; omega)]
      subst hrl
      have cs := World.cell?_setCell_same wr ⟨w.heap.size, 0, none⟩ (.slice sa sn sc) r0
      go_wp2_with fail
      refine bodyPost_ret (v := .agg #[.slice sa sn sc]) (by simp [results, Tryz.results54, go_sem, cs]) rfl ?_
      exact ⟨sa, sn, sc, rfl, Dn_block hs.out hr (by decide) (by decide), hbw.setCell (p := ⟨w.heap.size, 0, none⟩) (Nat.le_refl _) _⟩
end Go.Proofs.YtfjpbkmnlmecgaaGreatDoor.Ru
end

section
/- The harness: arbaclaw23.Rule. -/
namespace Go.Proofs.YtfjpbkmnlmecgaaGreatDoor.Ru
open Go.RowKit Go.PlainAid Go.Maps Go.Shelf Go.Proofs.YtfjpbkmnlmecgaaGreatDoor Go.Proofs.YtfjpbkmnlmecgaaGreatDoor.Bz
set_option linter.unusedVariables false
set_option linter.unusedSimpArgs false
set_option maxHeartbeats 4000000
set_option maxRecDepth 20000

/-- A rule of the specification. -/
structure Fr where
  revoke : Bool
  admin : Int
  target : Int
  yes : Nat
  no : Nat
  days : List (Int × Int)
  longest : Int
def toRl (f : Fr) : Rl := ⟨f.revoke, f.admin, f.target, maskL f.yes, maskL f.no, f.days, f.longest⟩
theorem hrule_any (rv : Bool) (ad tg lg : Int) (y z : Nat) (a : Option Addr) (n c : Nat) (days : List (Int × Int)) (w : World) (hy : y < 18446744073709551616) (hz : z < 18446744073709551616) (hd : Dy.Ds w a n c days) (hc : Dy.Can days) :
    Calls Tryz.prog 15 #[.agg #[.bool rv, .int .i64 ad, .int .i64 tg, .int .u64 (y : Nat), .int .u64 (z : Nat), .slice a n c, .int .i64 lg]] w fun e w' => ∃ h : Hr, e = .returned (.agg (hrL h).toArray) ∧ Rw 0 w' h (toRl ⟨rv, ad, tg, y, z, days, lg⟩) ∧ Below w.heap.size w w' := by
  have HY := Lib.hid (fun w' => mset_any y hy w')
  have HZ := Lib.hid (fun w' => mset_any z hz w')
  have HWN := Lib.hid (fun w' (hb : Below w.heap.size w w') => hwhen_any a n c days w' (hd.below hb (Nat.le_refl _)) hc)
  have HCN := Lib.hid hc
  unfold toRl
  dsimp only
  generalize maskL y = ly at *
  generalize maskL z = lz at *
  clear hd hc hy hz
  obtain ⟨W1, hW1⟩ : ∃ W1, W1 = (w.alloc (.cells #[.bool rv, .int .i64 ad, .int .i64 tg, .int .u64 (y : Nat), .int .u64 (z : Nat), .slice a n c, .int .i64 lg] 35)).alloc (.cells #[.bool false, .int .i64 0, .int .i64 0, .slice none 0 0, .slice none 0 0, .slice none 0 0, .int .i64 0] 46) := ⟨_, rfl⟩
  have hz1 : W1.heap.size = w.heap.size + 2 := by rw [hW1]; simp
  have HQ : Hid (∀ w', Below W1.heap.size W1 w' → w'.cell? ⟨w.heap.size, 0, none⟩ = some (.bool rv) ∧ w'.cell? ⟨w.heap.size, 1, none⟩ = some (.int .i64 ad) ∧ w'.cell? ⟨w.heap.size, 2, none⟩ = some (.int .i64 tg) ∧ w'.cell? ⟨w.heap.size, 3, none⟩ = some (.int .u64 (y : Nat)) ∧ w'.cell? ⟨w.heap.size, 4, none⟩ = some (.int .u64 (z : Nat)) ∧ w'.cell? ⟨w.heap.size, 5, none⟩ = some (.slice a n c) ∧ w'.cell? ⟨w.heap.size, 6, none⟩ = some (.int .i64 lg)) := fun w' hb => by
    rw [hz1, hW1] at hb
    have h1 : Below (w.heap.size + 1) (w.alloc (.cells #[.bool rv, .int .i64 ad, .int .i64 tg, .int .u64 (y : Nat), .int .u64 (z : Nat), .slice a n c, .int .i64 lg] 35)) w' := ((Below.refl _ _).alloc (by simp) _).trans (hb.mono (by omega))
    exact (box7 (Nat.le_refl _) h1).1
  have HB : Hid (∀ w', Below W1.heap.size W1 w' → Below w.heap.size w w') := fun w' hb => by
    rw [hz1, hW1] at hb
    have h1 : Below (w.heap.size + 1) (w.alloc (.cells #[.bool rv, .int .i64 ad, .int .i64 tg, .int .u64 (y : Nat), .int .u64 (z : Nat), .slice a n c, .int .i64 lg] 35)) w' := ((Below.refl _ _).alloc (by simp) _).trans (hb.mono (by omega))
    exact (box7 (Nat.le_refl _) h1).2
  have HR0 : Hid (∀ w', Below W1.heap.size W1 w' → w'.heap[w.heap.size + 1]? = some (.cells #[.bool false, .int .i64 0, .int .i64 0, .slice none 0 0, .slice none 0 0, .slice none 0 0, .int .i64 0] 46 (0, 0))) := fun w' hb => by
    have h := heap_alloc_new (w.alloc (.cells #[.bool rv, .int .i64 ad, .int .i64 tg, .int .u64 (y : Nat), .int .u64 (z : Nat), .slice a n c, .int .i64 lg] 35)) (.cells #[.bool false, .int .i64 0, .int .i64 0, .slice none 0 0, .slice none 0 0, .slice none 0 0, .int .i64 0] 46)
    rw [World.size_alloc, ← hW1] at h
    exact (hb.block _ (by omega)).trans h
  have HQ5 : Hid (∀ w', (w'.cell? ⟨w.heap.size, 0, none⟩ = some (.bool rv) ∧ w'.cell? ⟨w.heap.size, 1, none⟩ = some (.int .i64 ad) ∧ w'.cell? ⟨w.heap.size, 2, none⟩ = some (.int .i64 tg) ∧ w'.cell? ⟨w.heap.size, 3, none⟩ = some (.int .u64 (y : Nat)) ∧ w'.cell? ⟨w.heap.size, 4, none⟩ = some (.int .u64 (z : Nat)) ∧ w'.cell? ⟨w.heap.size, 5, none⟩ = some (.slice a n c) ∧ w'.cell? ⟨w.heap.size, 6, none⟩ = some (.int .i64 lg)) → ∀ w'', Below (w.heap.size + 1) w' w'' → w''.cell? ⟨w.heap.size, 0, none⟩ = some (.bool rv) ∧ w''.cell? ⟨w.heap.size, 1, none⟩ = some (.int .i64 ad) ∧ w''.cell? ⟨w.heap.size, 2, none⟩ = some (.int .i64 tg) ∧ w''.cell? ⟨w.heap.size, 3, none⟩ = some (.int .u64 (y : Nat)) ∧ w''.cell? ⟨w.heap.size, 4, none⟩ = some (.int .u64 (z : Nat)) ∧ w''.cell? ⟨w.heap.size, 5, none⟩ = some (.slice a n c) ∧ w''.cell? ⟨w.heap.size, 6, none⟩ = some (.int .i64 lg)) := fun w' h w'' hb => by
    have k := fun i => hb.cell (p := ⟨w.heap.size, i, none⟩) (Nat.lt_succ_self _)
    exact ⟨(k 0).trans h.1, (k 1).trans h.2.1, (k 2).trans h.2.2.1, (k 3).trans h.2.2.2.1, (k 4).trans h.2.2.2.2.1, (k 5).trans h.2.2.2.2.2.1, (k 6).trans h.2.2.2.2.2.2⟩
  have hk1 := (Below.refl W1.heap.size W1).drew
  have tk0 : Hid True := trivial
  go_enter Tryz.func15, Tryz.ntmps15
  go_wp2_with fail
  rw [← hW1]
  clear hW1
  refine wp_region_noPanic ?_
  refine region_ord (S := fun w' => w'.cell? ⟨w.heap.size, 0, none⟩ = some (.bool rv) ∧ w'.cell? ⟨w.heap.size, 1, none⟩ = some (.int .i64 ad) ∧ w'.cell? ⟨w.heap.size, 2, none⟩ = some (.int .i64 tg) ∧ w'.cell? ⟨w.heap.size, 3, none⟩ = some (.int .u64 (y : Nat)) ∧ w'.cell? ⟨w.heap.size, 4, none⟩ = some (.int .u64 (z : Nat)) ∧ w'.cell? ⟨w.heap.size, 5, none⟩ = some (.slice a n c) ∧ w'.cell? ⟨w.heap.size, 6, none⟩ = some (.int .i64 lg)) [0, 1, 2, 3, 4, 5, 6, 7, 9, 10, 13, 14, 16, 17, 8, 11, 12, 15, 18, 19] (by kernel_rfl) (by decide +kernel) (fun _ _ _ _ _ h => h) (HQ.out _ hk1) (fun _ => ?_)
  repeat (first
    | (refine ord_skip rfl rfl rfl ?_; (try simp only [Act.put, List.setIfInBounds_toArray, List.set_cons_zero, List.set_cons_succ]))
    | (refine' ord_light (v := _) rfl rfl rfl (fun w' hSw => ?_) ?_; rotate_left; (focus ((try dsimp only at hSw); go_simp <;> (with_reducible rfl))); (try simp only [Act.put, List.setIfInBounds_toArray, List.set_cons_zero, List.set_cons_succ]))
    | (refine ord_heavy rfl rfl (fun K hK => ?_); go_simp; (go_at_call 20; clear tk0; (with_reducible refine (HY.out _).mono ?_); rintro en w2 ⟨a2, n2, c2, rfl, hs2, hb2⟩; have tk1 : Hid True := trivial; have hk2 := hk1.trans (hb2.mono hk1.size); have HS2 := Lib.hid hs2; clear hs2); (try go_wp2_with fail); refine hK.out _ _ (by with_reducible first | exact HQ.out _ hk1 | exact HQ.out _ hk2 | exact HQ.out _ hk3 | exact HQ.out _ hk4 | exact Q5.out) ?_; clear hK K; (try simp only [Act.put, List.setIfInBounds_toArray, List.set_cons_zero, List.set_cons_succ]))
    | (refine ord_heavy rfl rfl (fun K hK => ?_); go_simp; (go_at_call 20; clear tk1; (with_reducible refine (HZ.out _).mono ?_); rintro en w3 ⟨a3, n3, c3, rfl, hs3, hb3⟩; have tk2 : Hid True := trivial; have hk3 := hk2.trans (hb3.mono hk2.size); have HS3 := Lib.hid hs3; have HS2' := Lib.hid (HS2.out.below hb3); clear hs3); (try go_wp2_with fail); refine hK.out _ _ (by with_reducible first | exact HQ.out _ hk1 | exact HQ.out _ hk2 | exact HQ.out _ hk3 | exact HQ.out _ hk4 | exact Q5.out) ?_; clear hK K; (try simp only [Act.put, List.setIfInBounds_toArray, List.set_cons_zero, List.set_cons_succ]))
    | (refine ord_heavy rfl rfl (fun K hK => ?_); go_simp; (go_at_call 54; clear tk2; (with_reducible refine (HWN.out _ (HB.out _ hk3)).mono ?_); rintro en w4 ⟨a4, n4, c4, rfl, hd4, hb4⟩; have hk4 := hk3.trans (hb4.mono hk3.size); have HD4 := Lib.hid hd4; have HS3' := Lib.hid (HS3.out.below hb4); have HS2'' := Lib.hid (HS2'.out.below hb4); have hR4 := HR0.out _ hk4; obtain ⟨⟨m0, m1, m2, m3, m4, m5, m6⟩, f0, f1, f2, f3, f4, f5, f6⟩ := cell7 hR4; have HSV := Lib.hid (seven (.bool rv) (.int .i64 ad) (.int .i64 tg) (.slice a2 n2 c2) (.slice a3 n3 c3) (.slice a4 n4 c4) (.int .i64 lg) hR4); have Q5 := Lib.hid (HQ5.out _ (HQ.out _ hk4) _ (HSV.out.2.2.1 (w.heap.size + 1) (Nat.le_refl _))); clear hd4); (try go_wp2_with fail); refine hK.out _ _ (by with_reducible first | exact HQ.out _ hk1 | exact HQ.out _ hk2 | exact HQ.out _ hk3 | exact HQ.out _ hk4 | exact Q5.out) ?_; clear hK K; (try simp only [Act.put, List.setIfInBounds_toArray, List.set_cons_zero, List.set_cons_succ]))
    | (refine ord_heavy rfl rfl (fun K hK => ?_); go_simp; (try go_wp2_with fail); refine hK.out _ _ (by with_reducible first | exact HQ.out _ hk1 | exact HQ.out _ hk2 | exact HQ.out _ hk3 | exact HQ.out _ hk4 | exact Q5.out) ?_; clear hK K; (try simp only [Act.put, List.setIfInBounds_toArray, List.set_cons_zero, List.set_cons_succ])))
  refine ord_nil (NoPanic.normal ?_)
  go_wp2_with fail
  obtain ⟨s1, s2, s3, s4⟩ := HSV.out
  obtain ⟨⟨k0, k1, k2, k3, k4, k5, k6⟩, -⟩ := cell7 s1
  refine bodyPost_ret (v := .agg #[.bool rv, .int .i64 ad, .int .i64 tg, .slice a2 n2 c2, .slice a3 n3 c3, .slice a4 n4 c4, .int .i64 lg]) (by simp [results, Tryz.results15, go_sem, k0, k1, k2, k3, k4, k5, k6]) rfl ?_
  exact ⟨⟨rv, ad, tg, a2, n2, c2, a3, n3, c3, a4, n4, c4, lg⟩, rfl, s2 0 _ _ ⟨rfl, rfl, rfl, ⟨HS2''.out, fun _ _ => Nat.zero_le _⟩, ⟨HS3'.out, fun _ _ => Nat.zero_le _⟩, HD4.out.mono (Nat.zero_le _), rfl, HCN.out⟩, (HB.out _ hk4).trans (s3 w.heap.size (Nat.le_succ _))⟩
end Go.Proofs.YtfjpbkmnlmecgaaGreatDoor.Ru
end
