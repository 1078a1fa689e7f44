/- The walk of TokenNil: it returns true. -/
import Derived.Test.YtnjaflldlhiefaaTkNil
import Derived.Test.YtnjaflldlhiefaaTokenReadsW
import Derived.Test.YtnjaflldlhiefaaTkL
import Derived.Outline
namespace Go.Proofs.Ytnjaflldlhiefaa
open Go.RowKit Go.PlainAid
set_option linter.unusedVariables false
set_option linter.unusedSimpArgs false
set_option maxHeartbeats 4000000

section
variable {B : Nat} {W w : World}
theorem npeek_b (hb : Below B W w) (hB : B ≤ w.heap.size) : Calls Try.prog 29 #[.pointer none] w fun en w' => en = .returned (.agg #[.int .u8 0, .string ⟨#[]⟩, .int .i64 0, .int .i64 0]) ∧ Below B W w' :=
  (npeek_any w).mono fun _ _ ⟨h1, h2⟩ => ⟨h1, hb.trans (h2.mono hB)⟩
theorem nnext_b (hb : Below B W w) (hB : B ≤ w.heap.size) : Calls Try.prog 34 #[.pointer none] w fun en w' => en = .returned (.agg #[.int .u8 0, .string ⟨#[]⟩, .int .i64 0, .int .i64 0]) ∧ Below B W w' :=
  (nnext_any w).mono fun _ _ ⟨h1, h2⟩ => ⟨h1, hb.trans (h2.mono hB)⟩
theorem nis_b {x : ByteArray} (hb : Below B W w) (hB : B ≤ w.heap.size) : Calls Try.prog 35 #[.pointer none, .string x] w fun en w' => en = .returned (.bool false) ∧ Below B W w' :=
  (nis_any x w).mono fun _ _ ⟨h1, h2⟩ => ⟨h1, hb.trans (h2.mono hB)⟩
theorem naccept_b {x : ByteArray} (hb : Below B W w) (hB : B ≤ w.heap.size) : Calls Try.prog 36 #[.pointer none, .string x] w fun en w' => en = .returned (.bool false) ∧ Below B W w' :=
  (naccept_any x w).mono fun _ _ ⟨h1, h2⟩ => ⟨h1, hb.trans (h2.mono hB)⟩
theorem nname_b (hb : Below B W w) (hB : B ≤ w.heap.size) : Calls Try.prog 26 #[.pointer none] w fun en w' => en = .returned (.string ⟨#[]⟩) ∧ Below B W w' :=
  (nname_any w).mono fun _ _ ⟨h1, h2⟩ => ⟨h1, hb.trans (h2.mono hB)⟩
theorem nnumber_b {lo hi : Int} (hb : Below B W w) (hB : B ≤ w.heap.size) : Calls Try.prog 37 #[.pointer none, .int .i64 lo, .int .i64 hi] w fun en w' => en = .returned (.int .i64 0) ∧ Below B W w' :=
  (nnumber_any lo hi w).mono fun _ _ ⟨h1, h2⟩ => ⟨h1, hb.trans (h2.mono hB)⟩
end
abbrev rbox : Obj := .cells #[.slice none 0 0, .int .i64 0, .int .i64 0, .int .i64 0] 59
theorem rr_a {wG : World} {g n0 : Nat} (hr : ∀ z, z < n0 ∨ wG.heap.size ≤ z → Rd tokV wG g z [] 0 0 0) : RR (wG.alloc rbox) g wG.heap.size [] 0 0 0 :=
  ⟨(hr _ (.inr (Nat.le_refl _))).below ((Below.refl _ _).alloc (Nat.le_refl _) _), none, 0, Blk4.new _ _ _ _ _ _, Nat.le_refl _, by omega, .inl rfl⟩
theorem rr_b {wF wG : World} {g : Nat} (hb : Below (wF.alloc rbox).heap.size (wF.alloc rbox) wG) (hr : ∀ z, z < (wF.alloc rbox).heap.size ∨ wG.heap.size ≤ z → Rd tokV wG g z [] 0 0 0) : RR wG g wF.heap.size [] 0 0 0 :=
  ⟨hr _ (.inl (by simp)), none, 0, (Blk4.new _ _ _ _ _ _).below hb (by simp), Nat.le_refl _, by omega, .inl rfl⟩
def S4 (w : World) (q : Nat) (k t lo hi : Int) (w' : World) : Prop := w'.cell? ⟨q, 0, none⟩ = some (.int .u8 k) ∧ w'.cell? ⟨q, 1, none⟩ = some (.int .u8 t) ∧ w'.cell? ⟨q, 2, none⟩ = some (.int .i64 lo) ∧ w'.cell? ⟨q, 3, none⟩ = some (.int .i64 hi)
theorem s4 {w w' : World} {k t lo hi : Int} (h : Below (w.heap.size + 1) (w.alloc (.cells #[.int .u8 k, .int .u8 t, .int .i64 lo, .int .i64 hi] 61)) w') :
    w'.cell? ⟨w.heap.size, 0, none⟩ = some (.int .u8 k) ∧ w'.cell? ⟨w.heap.size, 1, none⟩ = some (.int .u8 t) ∧ w'.cell? ⟨w.heap.size, 2, none⟩ = some (.int .i64 lo) ∧ w'.cell? ⟨w.heap.size, 3, none⟩ = some (.int .i64 hi) := by
  obtain ⟨c0, c1, c2, c3, -⟩ := blk4 rfl (h.mono (by simp))
  exact ⟨c0, c1, c2, c3⟩

set_option maxRecDepth 100000 in
theorem tokenNil_walk (k t lo hi : Int) (w : World) (k0 : 0 ≤ k) (k1 : k ≤ 255) (t0 : 0 ≤ t) (t1 : t ≤ 255) :
    Calls Try.prog 8 #[.agg #[.int .u8 k, .int .u8 t, .int .i64 lo, .int .i64 hi]] w fun e w' => e = .returned (.bool true) ∧ Below w.heap.size w w' := by
  go_enter Try.func8, Try.ntmps8
  obtain ⟨W, hW⟩ : ∃ W, W = w.alloc (.cells #[.int .u8 k, .int .u8 t, .int .i64 lo, .int .i64 hi] 61) := ⟨_, rfl⟩
  have hWz : W.heap.size = w.heap.size + 1 := by rw [hW]; simp
  have HW := Lib.hid hW
  have hs4 := Lib.hid (fun w' (h : Below (w.heap.size + 1) W w') => s4 (w := w) (w' := w') (by rw [← HW.out]; exact h))
  clear hW
  go_wp2_with fail
  go_outline
  rw [← HW.out]
  refine (awake_any _).mono ?_
  rintro e w1 ⟨rfl, hb1⟩
  rw [hWz] at hb1
  have hz1 := hb1.size
  rw [hWz] at hz1
  obtain ⟨c0, c1, c2, c3⟩ := hs4.out _ hb1
  go_wp2_with fail
  refine (texts_any _ _ t0 t1).mono ?_
  rintro e w2 ⟨⟨x, rfl⟩, hb2⟩
  replace hb2 := hb1.trans (hb2.mono hz1)
  have hz2 := hb2.size
  rw [hWz] at hz2
  clear c0 c1 c2 c3
  go_wp2_with fail
  refine (nexpect_any _ _).mono ?_
  rintro e w3 ⟨rfl, hb3⟩
  replace hb3 := hb2.trans (hb3.mono hz2)
  have hz3 := hb3.size
  rw [hWz] at hz3
  clear hWz
  go_wp2_with (first | (go_at_call 33; refine (nfail_any _ _).mono ?_; rintro en w4 ⟨rfl, rfl⟩) | (go_at_call 27; refine (nerr_any _).mono ?_; rintro en w4 ⟨rfl, rfl⟩))
  go_region_held3 (fun w' => w'.cell? ⟨w.heap.size, 0, none⟩ = some (.int .u8 k) ∧ w'.cell? ⟨w.heap.size, 1, none⟩ = some (.int .u8 t) ∧ w'.cell? ⟨w.heap.size, 2, none⟩ = some (.int .i64 lo) ∧ w'.cell? ⟨w.heap.size, 3, none⟩ = some (.int .i64 hi))
    (first | exact hs4.out _ (below_drewN hb3 1) | exact hs4.out _ hA | exact hs4.out _ hB | exact hs4.out _ hC | exact hs4.out _ hD | exact hs4.out _ hE | exact hs4.out _ hF | exact hs4.out _ hG | exact hs4.out _ hH | exact hs4.out _ (hF.alloc hFz _) | exact hs4.out _ (hG.alloc hGz _))
    (first
      | (go_at_call 29; refine (npeek_b (below_drewN hb3 1) (by simpa using hz3)).mono ?_; rintro en wA ⟨rfl, hA⟩; have hAz : w.heap.size + 1 ≤ wA.heap.size := Nat.le_trans (Nat.le_of_eq (by rw [HW.out]; simp)) hA.size)
      | (go_at_call 34; refine (nnext_b hA hAz).mono ?_; rintro en wB ⟨rfl, hB⟩; have hBz : w.heap.size + 1 ≤ wB.heap.size := Nat.le_trans (Nat.le_of_eq (by rw [HW.out]; simp)) hB.size)
      | (go_at_call 35; refine (nis_b hB hBz).mono ?_; rintro en wC ⟨rfl, hC⟩; have hCz : w.heap.size + 1 ≤ wC.heap.size := Nat.le_trans (Nat.le_of_eq (by rw [HW.out]; simp)) hC.size)
      | (go_at_call 36; refine (naccept_b hC hCz).mono ?_; rintro en wD ⟨rfl, hD⟩; have hDz : w.heap.size + 1 ≤ wD.heap.size := Nat.le_trans (Nat.le_of_eq (by rw [HW.out]; simp)) hD.size)
      | (go_at_call 26; refine (nname_b hD hDz).mono ?_; rintro en wE ⟨rfl, hE⟩; have hEz : w.heap.size + 1 ≤ wE.heap.size := Nat.le_trans (Nat.le_of_eq (by rw [HW.out]; simp)) hE.size)
      | (go_at_call 37; refine (nnumber_b hE hEz).mono ?_; rintro en wF ⟨rfl, hF⟩; have hFz : w.heap.size + 1 ≤ wF.heap.size := Nat.le_trans (Nat.le_of_eq (by rw [HW.out]; simp)) hF.size)
      | (go_at_call 25; refine (nreader_any _).mono ?_; rintro en wG ⟨g, rfl, hbG, hgG, hlG, hrG⟩; have hG : Below (w.heap.size + 1) W wG := (by first | exact hF.trans (hbG.mono hFz) | exact (hF.alloc hFz _).trans (hbG.mono (by simp; omega))); have hGz : w.heap.size + 1 ≤ wG.heap.size := Nat.le_trans (Nat.le_of_eq (by rw [HW.out]; simp)) hG.size; have hgB : w.heap.size + 1 ≤ g := (by first | omega | (simp at hgG; omega)); replace hbG := Lib.hid hbG; replace hrG := Lib.hid hrG; replace hgG := Lib.hid hgG)
      | (go_at_call 28; (with_reducible refine (call_any _ g wG.heap.size [] 0 0 0 k t lo hi (rr_a hrG.out) (by omega) (Nat.le_refl _) (by simp) k0 k1 t0 t1).mono ?_); rintro en wH ⟨p, o, e, rfl, -, hR, hGG⟩; have hH : Below (w.heap.size + 1) W wH := (hG.alloc hGz _).trans (hGG.toBelow (by simp; omega) hgB (by omega)); replace hR := Lib.hid hR; replace hGG := Lib.hid hGG)
      | (go_at_call 28; (with_reducible refine (call_any _ g wF.heap.size [] 0 0 0 k t lo hi (rr_b hbG.out hrG.out) (by have := hgG.out; simp at this; omega) (Nat.le_refl _) (by simp) k0 k1 t0 t1).mono ?_); rintro en wH ⟨p, o, e, rfl, -, hR, hGG⟩; have hH : Below (w.heap.size + 1) W wH := hG.trans (hGG.toBelow (by omega) hgB (by omega)); replace hR := Lib.hid hR; replace hGG := Lib.hid hGG))
  all_goals
    have hwz : w.heap.size ≤ w.heap.size + 1 := Nat.le_succ _
    have hfin : Below w.heap.size w wH := ((Below.refl _ _).alloc (Nat.le_refl _) _).trans ((by rw [HW.out] at hH; exact hH : Below (w.heap.size + 1) (w.alloc _) wH).mono hwz)
    go_wp2_with fail
    go_returns
    exact ⟨rfl, hfin⟩
end Go.Proofs.Ytnjaflldlhiefaa
