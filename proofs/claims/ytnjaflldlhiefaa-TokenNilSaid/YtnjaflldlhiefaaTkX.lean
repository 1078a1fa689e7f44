/- Contracts of the reference's reader: Peek, offset, Fail, Next, Is, Accept, Expect. -/
import Derived.Test.YtnjaflldlhiefaaTkS
namespace Go.Proofs.Ytnjaflldlhiefaa
open Go.RowKit Go.PlainAid
set_option linter.unusedVariables false
set_option linter.unusedSimpArgs false
set_option maxHeartbeats 1000000

theorem rpeek_any (w : World) (g z : Nat) (ts : List Tok) (pos off e : Nat) (h : Rd tokW w g z ts pos off e) (hp : pos ≤ ts.length) :
    Calls Try.prog 30 #[.pointer (some ⟨g, 0, none⟩)] w fun en w' => en = .returned (aggR (pkF ts pos e)) ∧ Below w.heap.size w w' := by
  unfold pkF
  obtain ⟨a, cap, ⟨c0, c1, c2, c3, f0, f1, f2, f3, hz⟩, hc, hm, hx⟩ := h
  obtain ⟨n, hn⟩ : ∃ n, n = ts.length := ⟨_, rfl⟩
  rw [← hn] at c0 hc hp hx
  have hgz : g < w.heap.size := by omega
  by_cases he : e = 0
  · subst he
    rw [if_pos rfl]
    by_cases hlt : pos < n
    · rcases hx with hx | ⟨b, o, rfl, hne, _, hb, hcell⟩
      · rw [hx] at hn; simp at hn; omega
      obtain ⟨t, ht⟩ : ∃ t, ts[pos]? = some t := ⟨_, List.getElem?_eq_getElem (by omega)⟩
      have hget : ts.getD pos tz = t := by rw [List.getD_eq_getElem?_getD, ht]; rfl
      obtain ⟨p0, p1, p2, p3⟩ := tokR_cells hcell pos t hlt ht
      rw [hget]
      have hi1 : (pos : Int) < (n : Int) := by omega
      have hi2 : ¬ (n : Int) ≤ (pos : Int) := by omega
      have hi0 : (0 : Int) ≤ (pos : Int) := by omega
      clear hcell ht hget hn
      obtain ⟨k, tx, nn, ps⟩ := t
      unfold aggR
      dsimp only at p0 p1 p2 p3 ⊢
      go_enter Try.func30, Try.ntmps30
      go_wp2_with fail
      go_quiet (fail)
      go_wp2_with fail
      go_region
      all_goals
        go_wp2_with fail
        go_returns
        exact ⟨rfl, by (go_grown; all_goals (refine below_drewN ?_ _; go_grown))⟩
    · have hget : ts.getD pos tz = tz := by rw [List.getD_eq_getElem?_getD, List.getElem?_eq_none (by omega)]; rfl
      rw [hget]
      have hge : (n : Int) ≤ (pos : Int) := by omega
      clear hx hget hn
      unfold aggR tz
      go_enter Try.func30, Try.ntmps30
      go_wp2_with fail
      go_quiet (fail)
      go_wp2_with fail
      go_returns
      exact ⟨rfl, by (go_grown; all_goals (refine below_drewN ?_ _; go_grown))⟩
  · rw [if_neg he]
    have he2 : ((e : Int) != 0) = true := by simpa using he
    clear hx hn
    unfold aggR tz
    go_enter Try.func30, Try.ntmps30
    go_wp2_with fail
    go_quiet (fail)
    go_wp2_with fail
    go_returns
    exact ⟨rfl, by (go_grown; all_goals (refine below_drewN ?_ _; go_grown))⟩

set_option maxRecDepth 100000 in
theorem roffset_any (w : World) (g z : Nat) (ts : List Tok) (pos off e : Nat) (h : Rd tokW w g z ts pos off e) (hp : pos ≤ ts.length) :
    Calls Try.prog 75 #[.pointer (some ⟨g, 0, none⟩)] w fun en w' => en = .returned (.int .i64 (offF ts pos)) ∧ Below w.heap.size w w' := by
  obtain ⟨a, cap, ⟨c0, c1, c2, c3, f0, f1, f2, f3, hz⟩, hc, hm, hx⟩ := h
  obtain ⟨n, hn⟩ : ∃ n, n = ts.length := ⟨_, rfl⟩
  have hoff : Hid (offF ts pos = if n ≤ pos ∧ 0 < n then (ts.getD (n - 1) tz).pos else (ts.getD pos tz).pos) := by show _ = _; rw [hn]; rfl
  rw [← hn] at c0 hc hp hx
  have hgz : g < w.heap.size := by omega
  by_cases hlt : pos < n
  · rcases hx with hx | ⟨b, o, rfl, hne, _, hb, hcell⟩
    · rw [hx] at hn; simp at hn; omega
    obtain ⟨t, ht⟩ : ∃ t, ts[pos]? = some t := ⟨_, List.getElem?_eq_getElem (by omega)⟩
    obtain ⟨p0, p1, p2, p3⟩ := tokR_cells hcell pos t hlt ht
    have hres : Hid (offF ts pos = t.pos) := by show _ = _; rw [hoff.out, if_neg (by omega), List.getD_eq_getElem?_getD, ht]; rfl
    have hi1 : (pos : Int) < (n : Int) := by omega
    have hi0 : (0 : Int) ≤ (pos : Int) := by omega
    clear hcell ht hn hoff
    go_enter Try.func75, Try.ntmps75
    go_wp2_with fail
    go_quiet (fail)
    go_wp2_with fail
    go_quiet (fail)
    go_wp2_with fail
    go_ret
    exact ⟨ret_int (by rw [hres.out]), below_drewN (below_drewN (Below.refl _ _) _) _⟩
  · have hge : ¬ (pos : Int) < (n : Int) := by omega
    by_cases h0 : 0 < n
    · rcases hx with hx | ⟨b, o, rfl, hne, _, hb, hcell⟩
      · rw [hx] at hn; simp at hn; omega
      obtain ⟨t, ht⟩ : ∃ t, ts[n - 1]? = some t := ⟨_, List.getElem?_eq_getElem (by omega)⟩
      obtain ⟨p0, p1, p2, p3⟩ := tokR_cells hcell (n - 1) t (by omega) ht
      have hres : Hid (offF ts pos = t.pos) := by
        show _ = _
        rw [hoff.out, if_pos ⟨by omega, h0⟩, List.getD_eq_getElem?_getD, ht]; rfl
      have h01 : (0 : Int) < (n : Int) := by omega
      have hsub : IntKind.i64.wrap ((n : Int) - 1) = (n : Int) - 1 := IntWalk.i64_in _ (by omega)
      have hs0 : (0 : Int) ≤ (n : Int) - 1 := by omega
      have hs1 : (n : Int) - 1 < (n : Int) := by omega
      have hs2 : ((n : Int) - 1).toNat = n - 1 := by omega
      clear hcell ht hn hoff
      go_enter Try.func75, Try.ntmps75
      go_wp2_with fail
      go_quiet (fail)
      go_wp2_with fail
      go_quiet (fail)
      go_wp2_with fail
      go_ret
      exact ⟨ret_int (by rw [hres.out]), below_drewN (below_drewN (Below.refl _ _) _) _⟩
    · have hn0 : n = 0 := by omega
      have hres : Hid (offF ts pos = 0) := by show _ = _; rw [hoff.out, if_neg (by omega), List.getD_eq_getElem?_getD, List.getElem?_eq_none (by omega)]; rfl
      subst hn0
      clear hx hn hoff
      go_enter Try.func75, Try.ntmps75
      go_wp2_with fail
      go_quiet (fail)
      go_wp2_with fail
      go_ret
      exact ⟨ret_int (by rw [hres.out]; rfl), below_drewN (Below.refl _ _) _⟩

theorem rfail_any (w : World) (g z : Nat) (ts : List Tok) (pos off e c : Nat) (h : Rd tokW w g z ts pos off e) (hp : pos ≤ ts.length) :
    Calls Try.prog 61 #[.pointer (some ⟨g, 0, none⟩), .int .i64 c] w fun en w' => en = .returned (.tuple #[]) ∧ w.grownBy w' (some g) ∧ Rd tokW w' g z ts pos (foF ts pos off e c) (feF e c) := by
  have hof := Lib.hid (fun w' (hb : Below w.heap.size w w') => roffset_any w' g z ts pos off e (h.below hb) hp)
  have hH := Lib.hid h
  have hgz := h.lt
  obtain ⟨a, cap, ⟨c0, c1, c2, c3, f0, f1, f2, f3, hz⟩, hc, hm, hx⟩ := h
  clear c0 c1 c2 f0 f1 f2 f3 hz hc hm hx
  unfold foF feF
  by_cases he : e = 0
  · subst he
    by_cases hc : c = 0
    · subst hc
      rw [if_neg (by simp), if_pos rfl]
      go_enter Try.func61, Try.ntmps61
      go_wp2_with fail
      go_returns
      exact ⟨rfl, hH.out.chain0 (by go_grown)⟩
    · rw [if_pos ⟨rfl, hc⟩, if_pos rfl]
      have hc0 : ((c : Int) == 0) = false := by simpa using hc
      generalize offF ts pos = o at *
      go_enter Try.func61, Try.ntmps61
      go_wp2_with fail
      go_at_call 75
      refine (hof.out _ (by go_grown)).mono ?_
      rintro en w2 ⟨rfl, hb2⟩
      obtain ⟨ga, gcap, ⟨g0, g1, g2, g3, e0, e1, e2, e3, -⟩, -⟩ := hH.out.below hb2
      go_wp2_with fail
      go_returns
      refine ⟨rfl, ?_⟩
      apply hH.out.chain23
      · repeat (first | (with_reducible exact Below.refl _ _) | (with_reducible refine Below.alloc ?_ (by go_size) _) | (with_reducible refine Below.setCell ?_ (by go_size) _))
      · go_grown
  · have hd : ((e : Int) == 0) = false := by simpa using he
    rw [if_neg (by simp [he]), if_neg he]
    go_enter Try.func61, Try.ntmps61
    go_wp2_with fail
    go_returns
    exact ⟨rfl, hH.out.chain0 (by go_grown)⟩

end Go.Proofs.Ytnjaflldlhiefaa
