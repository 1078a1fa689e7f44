/- Contracts of the reference's reader: Next, Is, Accept, Expect. -/
import Derived.Test.YtnjaflldlhiefaaTkX
namespace Go.Proofs.Ytnjaflldlhiefaa
open Go.RowKit Go.PlainAid
set_option linter.unusedVariables false
set_option linter.unusedSimpArgs false
set_option maxHeartbeats 1000000

theorem ris_any (w : World) (g z : Nat) (ts : List Tok) (pos off e : Nat) (x : ByteArray) (h : Rd tokW w g z ts pos off e) (hp : pos ≤ ts.length) :
    Calls Try.prog 56 #[.pointer (some ⟨g, 0, none⟩), .string x] w fun en w' => en = .returned (.bool (isB (pkF ts pos e) x)) ∧ Below w.heap.size w w' := by
  have hpk := Lib.hid (fun w' (hb : Below w.heap.size w w') => rpeek_any w' g z ts pos off e (h.below hb) hp)
  have hH := Lib.hid h
  have hgz := h.lt
  clear h
  by_cases he : e = 0
  · subst he
    generalize pkF ts pos 0 = t at *
    unfold aggR at *
    by_cases k1 : t.kind = 1
    · have k0 : (t.kind : Int) = 1 := by omega
      go_enter Try.func56, Try.ntmps56
      go_wp2_with (go_at_call 30; refine (hpk.out _ (by go_grown)).mono ?_; rintro en w2 ⟨rfl, hb2⟩; obtain ⟨ga, gcap, ⟨g0, g1, g2, g3, e0, e1, e2, e3, -⟩, -⟩ := hH.out.below hb2; clear g0 g1 g2 e0 e1 e2 e3; have l1 := Nat.lt_of_lt_of_le hgz hb2.size; have l2 : (g = w2.heap.size) = False := eq_false (by omega))
      go_returns
      exact ⟨ret_bool (by unfold isB; simp [k1]), by have := hb2.size; go_grown⟩
    · have k0 : ((t.kind : Int) == 1) = false := by simp; omega
      by_cases k3 : t.kind = 3
      · have k2 : (t.kind : Int) = 3 := by omega
        go_enter Try.func56, Try.ntmps56
        go_wp2_with (go_at_call 30; refine (hpk.out _ (by go_grown)).mono ?_; rintro en w2 ⟨rfl, hb2⟩; obtain ⟨ga, gcap, ⟨g0, g1, g2, g3, e0, e1, e2, e3, -⟩, -⟩ := hH.out.below hb2; clear g0 g1 g2 e0 e1 e2 e3; have l1 := Nat.lt_of_lt_of_le hgz hb2.size; have l2 : (g = w2.heap.size) = False := eq_false (by omega))
        go_returns
        exact ⟨ret_bool (by unfold isB; simp [k3]), by have := hb2.size; go_grown⟩
      · have k2 : ((t.kind : Int) == 3) = false := by simp; omega
        go_enter Try.func56, Try.ntmps56
        go_wp2_with (go_at_call 30; refine (hpk.out _ (by go_grown)).mono ?_; rintro en w2 ⟨rfl, hb2⟩; obtain ⟨ga, gcap, ⟨g0, g1, g2, g3, e0, e1, e2, e3, -⟩, -⟩ := hH.out.below hb2; clear g0 g1 g2 e0 e1 e2 e3; have l1 := Nat.lt_of_lt_of_le hgz hb2.size; have l2 : (g = w2.heap.size) = False := eq_false (by omega))
        go_returns
        exact ⟨ret_bool (by unfold isB; simp [k1, k3]), by have := hb2.size; go_grown⟩
  · have he2 : ((e : Int) == 0) = false := by simpa using he
    have hF : Hid (isB (pkF ts pos e) x = false) := by show _ = _; unfold pkF isB; rw [if_neg he]; rfl
    generalize pkF ts pos e = t at *
    unfold aggR at *
    go_enter Try.func56, Try.ntmps56
    go_wp2_with (go_at_call 30; refine (hpk.out _ (by go_grown)).mono ?_; rintro en w2 ⟨rfl, hb2⟩; obtain ⟨ga, gcap, ⟨g0, g1, g2, g3, e0, e1, e2, e3, -⟩, -⟩ := hH.out.below hb2; clear g0 g1 g2 e0 e1 e2 e3; have l1 := Nat.lt_of_lt_of_le hgz hb2.size; have l2 : (g = w2.heap.size) = False := eq_false (by omega))
    go_returns
    exact ⟨ret_bool hF.out.symm, by have := hb2.size; go_grown⟩

set_option maxHeartbeats 4000000 in
theorem rnext_any (w : World) (g z : Nat) (ts : List Tok) (pos off e : Nat) (h : Rd tokW w g z ts pos off e) (hp : pos ≤ ts.length) :
    Calls Try.prog 55 #[.pointer (some ⟨g, 0, none⟩)] w fun en w' => en = .returned (aggR (pkF ts pos e)) ∧ w.grownBy w' (some g) ∧ Rd tokW w' g z ts (nxF ts pos e) off e := by
  have hpk := Lib.hid (fun w' (hb : Below w.heap.size w w') => rpeek_any w' g z ts pos off e (h.below hb) hp)
  have hH := Lib.hid h
  have hgz := h.lt
  have hlt := fun k => pk_lt (ts := ts) (pos := pos) (e := e) k
  have hz : e ≠ 0 ∨ ts.length ≤ pos → (pkF ts pos e).kind = 0 := fun hh => by
    by_cases hk : (pkF ts pos e).kind = 0
    · exact hk
    · have := hlt hk; omega
  unfold nxF
  generalize pkF ts pos e = t at *
  have hcap : ts.length ≤ 9223372036854775807 := by obtain ⟨_, cap, _, h1, h2, _⟩ := h; omega
  clear h
  by_cases hk : t.kind = 0
  · rw [if_pos hk]
    have hk0 : (t.kind : Int) = 0 := by omega
    have hk1 : ((t.kind : Int) != 0) = false := by simp; omega
    clear hlt hz
    unfold aggR at *
    obtain ⟨n, hn⟩ : ∃ n, n = ts.length := ⟨_, rfl⟩
    by_cases he : e = 0
    · subst he
      by_cases hpl : pos < n
      · have hpl2 : (pos : Int) < (n : Int) := by omega
        go_enter Try.func55, Try.ntmps55
        go_wp2_with fail
        go_at_call 30
        refine (hpk.out _ (by go_grown)).mono ?_
        rintro en w2 ⟨rfl, hb2⟩
        obtain ⟨c0, c1, c2, c3, f0, f1, f2, f3, hsz2⟩ := blk4 rfl hb2
        obtain ⟨hb3, l1, l2, l3, l4, l5, l6, l7⟩ := rd_after hgz hb2
        obtain ⟨ga, gcap, ⟨g0, g1, g2, g3, e0, e1, e2, e3, -⟩, -⟩ := hH.out.below hb3
        rw [← hn] at g0
        clear g2 e0 e1 e2 e3 hn
        go_wp2_with fail
        go_quiet (fail)
        go_wp2_with fail
        refine bodyPost_ret (v := .agg #[.int .i64 t.kind, .string ⟨t.text.toArray⟩, .int .i64 t.n, .int .i64 t.pos]) (by simp [results, Try.results55, go_sem, c0, c1, c2, c3, l1, l2, l3, l4, l5, l6, l7, hk]) rfl ⟨rfl, hH.out.chain0 ?_⟩
        repeat (first | (with_reducible exact Below.refl _ _) | (with_reducible refine Below.alloc ?_ (by go_size) _) | (with_reducible refine Below.setCell ?_ (by go_size) _))
        exact below_drewN (hb3.alloc hb3.size _) _
      · have hpl2 : ¬ (pos : Int) < (n : Int) := by omega
        go_enter Try.func55, Try.ntmps55
        go_wp2_with fail
        go_at_call 30
        refine (hpk.out _ (by go_grown)).mono ?_
        rintro en w2 ⟨rfl, hb2⟩
        obtain ⟨c0, c1, c2, c3, f0, f1, f2, f3, hsz2⟩ := blk4 rfl hb2
        obtain ⟨hb3, l1, l2, l3, l4, l5, l6, l7⟩ := rd_after hgz hb2
        obtain ⟨ga, gcap, ⟨g0, g1, g2, g3, e0, e1, e2, e3, -⟩, -⟩ := hH.out.below hb3
        rw [← hn] at g0
        clear g2 e0 e1 e2 e3 hn
        go_wp2_with fail
        go_quiet (fail)
        go_wp2_with fail
        refine bodyPost_ret (v := .agg #[.int .i64 t.kind, .string ⟨t.text.toArray⟩, .int .i64 t.n, .int .i64 t.pos]) (by simp [results, Try.results55, go_sem, c0, c1, c2, c3, l1, l2, l3, l4, l5, l6, l7, hk]) rfl ⟨rfl, hH.out.chain0 ?_⟩
        repeat (first | (with_reducible exact Below.refl _ _) | (with_reducible refine Below.alloc ?_ (by go_size) _) | (with_reducible refine Below.setCell ?_ (by go_size) _))
        exact below_drewN (hb3.alloc hb3.size _) _
    · have he2 : ((e : Int) == 0) = false := by simpa using he
      go_enter Try.func55, Try.ntmps55
      go_wp2_with fail
      go_at_call 30
      refine (hpk.out _ (by go_grown)).mono ?_
      rintro en w2 ⟨rfl, hb2⟩
      obtain ⟨c0, c1, c2, c3, f0, f1, f2, f3, hsz2⟩ := blk4 rfl hb2
      obtain ⟨hb3, l1, l2, l3, l4, l5, l6, l7⟩ := rd_after hgz hb2
      obtain ⟨ga, gcap, ⟨g0, g1, g2, g3, e0, e1, e2, e3, -⟩, -⟩ := hH.out.below hb3
      rw [← hn] at g0
      clear g2 e0 e1 e2 e3 hn
      go_wp2_with fail
      go_quiet (fail)
      go_wp2_with fail
      refine bodyPost_ret (v := .agg #[.int .i64 t.kind, .string ⟨t.text.toArray⟩, .int .i64 t.n, .int .i64 t.pos]) (by simp [results, Try.results55, go_sem, c0, c1, c2, c3, l1, l2, l3, l4, l5, l6, l7, hk]) rfl ⟨rfl, hH.out.chain0 ?_⟩
      repeat (first | (with_reducible exact Below.refl _ _) | (with_reducible refine Below.alloc ?_ (by go_size) _) | (with_reducible refine Below.setCell ?_ (by go_size) _))
      exact below_drewN (hb3.alloc hb3.size _) _
  · rw [if_neg hk]
    obtain ⟨hlt, he⟩ := hlt hk
    subst he
    have hk0 : ¬ (t.kind : Int) = 0 := by omega
    have hk1 : ((t.kind : Int) != 0) = true := by simp; omega
    have hw : IntKind.i64.wrap ((pos : Int) + 1) = (pos : Int) + 1 := IntWalk.i64_in _ (by omega)
    obtain ⟨n, hn⟩ : ∃ n, n = ts.length := ⟨_, rfl⟩
    have hpl2 : (pos : Int) < (n : Int) := by omega
    clear hcap hp hlt hz
    unfold aggR at *
    go_enter Try.func55, Try.ntmps55
    go_wp2_with fail
    go_at_call 30
    refine (hpk.out _ (by go_grown)).mono ?_
    rintro en w2 ⟨rfl, hb2⟩
    obtain ⟨c0, c1, c2, c3, f0, f1, f2, f3, hsz2⟩ := blk4 rfl hb2
    obtain ⟨hb3, l1, l2, l3, l4, l5, l6, l7⟩ := rd_after hgz hb2
    obtain ⟨ga, gcap, ⟨g0, g1, g2, g3, e0, e1, e2, e3, -⟩, -⟩ := hH.out.below hb3
    rw [← hn] at g0
    clear g2 e0 e2 e3 hn
    go_wp2_with fail
    go_quiet (fail)
    go_wp2_with fail
    refine bodyPost_ret (v := .agg #[.int .i64 t.kind, .string ⟨t.text.toArray⟩, .int .i64 t.n, .int .i64 t.pos]) (by simp [results, Try.results55, go_sem, c0, c1, c2, c3, l1, l2, l3, l4, l5, l6, l7, hk]) rfl ⟨rfl, ?_⟩
    apply hH.out.chain1 (p := pos + 1) (v := .int .i64 (↑pos + 1)) rfl
    · repeat (first | (with_reducible exact Below.refl _ _) | (with_reducible refine Below.alloc ?_ (by go_size) _) | (with_reducible refine Below.setCell ?_ (by go_size) _))
    · exact below_drewN (hb3.alloc hb3.size _) _

theorem raccept_any (w : World) (g z : Nat) (ts : List Tok) (pos off e : Nat) (x : ByteArray) (h : Rd tokW w g z ts pos off e) (hp : pos ≤ ts.length) :
    Calls Try.prog 57 #[.pointer (some ⟨g, 0, none⟩), .string x] w fun en w' => en = .returned (.bool (isB (pkF ts pos e) x)) ∧ w.grownBy w' (some g) ∧ Rd tokW w' g z ts (acF ts pos e x) off e := by
  have his := Lib.hid (fun w' (hb : Below w.heap.size w w') => ris_any w' g z ts pos off e x (h.below hb) hp)
  have hnx := Lib.hid (fun w' (hb : Below w.heap.size w w') => rnext_any w' g z ts pos off e (h.below hb) hp)
  have hH := Lib.hid h
  have hnf : isB (pkF ts pos e) x = true → nxF ts pos e = pos + 1 := fun hb => by
    unfold nxF; rw [if_neg]
    intro hk; unfold isB at hb; simp [hk] at hb
  unfold acF
  generalize isB (pkF ts pos e) x = b at *
  clear h
  cases b
  · rw [if_neg (by simp)]
    clear hnf hnx
    go_enter Try.func57, Try.ntmps57
    go_wp2_with (go_at_call 56; refine (his.out _ (by go_grown)).mono ?_; rintro en w2 ⟨rfl, hb2⟩)
    go_returns
    exact ⟨rfl, hH.out.chain0 (by go_grown)⟩
  · rw [if_pos rfl]
    have hnx2 := Lib.hid (hnf rfl)
    clear hnf
    unfold aggR at *
    generalize pkF ts pos e = t at *
    go_enter Try.func57, Try.ntmps57
    go_wp2_with (first | (go_at_call 56; refine (his.out _ (by go_grown)).mono ?_; rintro en w2 ⟨rfl, hb2⟩) | (go_at_call 55; refine (hnx.out _ hb2).mono ?_; rintro en w3 ⟨rfl, hg3, hr3⟩; replace hg3 := Lib.hid hg3; replace hr3 := Lib.hid hr3))
    go_returns
    have hr := hr3.out
    rw [hnx2.out] at hr
    exact ⟨rfl, gb_trans (gb_of_below hb2 _) hg3.out, hr⟩

theorem rexpect_any (w : World) (g z : Nat) (ts : List Tok) (pos off e : Nat) (x : ByteArray) (h : Rd tokW w g z ts pos off e) (hp : pos ≤ ts.length) :
    Calls Try.prog 58 #[.pointer (some ⟨g, 0, none⟩), .string x] w fun en w' => en = .returned (.tuple #[]) ∧ w.grownBy w' (some g) ∧ Rd tokW w' g z ts (acF ts pos e x) (exO ts pos off e x) (exE ts pos e x) := by
  have hac := Lib.hid (raccept_any w g z ts pos off e x h hp)
  have hfa := Lib.hid (fun w' (hr : Rd tokW w' g z ts pos off e) => rfail_any w' g z ts pos off e 8 hr hp)
  clear h
  unfold acF exO exE at *
  generalize isB (pkF ts pos e) x = b at *
  cases b
  · rw [if_neg (by simp)] at hac
    simp only [Bool.false_eq_true, if_false]
    generalize foF ts pos off e 8 = o' at *
    generalize feF e 8 = e' at *
    go_enter Try.func58, Try.ntmps58
    go_wp2_with (first
      | (go_at_call 57; refine hac.out.mono ?_; rintro en w2 ⟨rfl, hg2, hr2⟩; replace hg2 := Lib.hid hg2; replace hr2 := Lib.hid hr2)
      | (go_at_call 61; refine (hfa.out _ hr2.out).mono ?_; rintro en w3 ⟨rfl, hg3, hr3⟩; replace hg3 := Lib.hid hg3; replace hr3 := Lib.hid hr3))
    go_returns
    exact ⟨rfl, gb_trans hg2.out hg3.out, hr3.out⟩
  · rw [if_pos rfl] at hac
    simp only [if_true]
    go_enter Try.func58, Try.ntmps58
    go_wp2_with (go_at_call 57; refine hac.out.mono ?_; rintro en w2 ⟨rfl, hg2, hr2⟩; replace hg2 := Lib.hid hg2; replace hr2 := Lib.hid hr2)
    go_returns
    exact ⟨rfl, hg2.out, hr2.out⟩

end Go.Proofs.Ytnjaflldlhiefaa
