/- Contracts: the reader's take, Bytes; a new reader. -/
import Derived.Test.YtadomogbakcokaaGreatDoorCwB
namespace Go.Proofs.YtadomogbakcokaaGreatDoor
open Go.RowKit Go.PlainAid
set_option linter.unusedVariables false
set_option linter.unusedSimpArgs false
set_option maxHeartbeats 4000000
set_option maxRecDepth 20000

theorem Bw.pre {W : World} {a : Option Addr} {n c : Nat} {ps : List Nat} (h : Bw W a n c ps) {k : Nat} (hk : k ≤ n) : Bw W a k c (ps.take k) := by
  obtain ⟨h1, h2, h3, h4, h5⟩ := h
  refine ⟨by rw [List.length_take]; omega, by omega, h3, fun x hx => h4 x (List.mem_of_mem_take hx), ?_⟩
  rcases h5 with h5 | ⟨b, o, rfl, h6, h7⟩
  · exact .inl (by omega)
  · refine .inr ⟨b, o, rfl, h6, fun j hj => ?_⟩
    rw [h7 j (by omega)]
    unfold wd
    rw [List.getD_eq_getElem?_getD, List.getD_eq_getElem?_getD, List.getElem?_take_of_lt hj]
theorem Bw.suf {W : World} {b o n c : Nat} {ps : List Nat} (h : Bw W (some ⟨b, o, none⟩) n c ps) {k : Nat} (hk : k ≤ n) : Bw W (some ⟨b, o + k, none⟩) (n - k) (c - k) (ps.drop k) := by
  obtain ⟨h1, h2, h3, h4, h5⟩ := h
  refine ⟨by rw [List.length_drop]; omega, by omega, by omega, fun x hx => h4 x (List.mem_of_mem_drop hx), ?_⟩
  rcases h5 with h5 | ⟨b', o', e, h6, h7⟩
  · exact .inl (by omega)
  · cases e
    refine .inr ⟨b, o + k, rfl, h6, fun j hj => ?_⟩
    rw [Nat.add_assoc, h7 (k + j) (by omega)]
    unfold wd
    rw [List.getD_eq_getElem?_getD, List.getD_eq_getElem?_getD, List.getElem?_drop]
theorem take_end {g bb oo n c k : Nat} {ps : List Nat} {e : Int} {W w1 : World} {o' : Option Addr} {v : Value} (H : Rd W g (some ⟨bb, oo, none⟩) n c ps e) (hk : k ≤ n) (HR : w1.ownsRow W.heap.size 5 1 v (ps.take k).length ((ps.take k).map u8v)) (HB : Below W.heap.size W w1) (hle : (ps.take k).length = k)
    (hs : ∃ o2, o' = some ⟨bb, o2, none⟩ ∧ Bw W o' (n - k) (c - k) (ps.drop k)) :
    ∃ b m, v = .slice b k m ∧ Bw (w1.setCell ⟨g, 0, none⟩ (.slice o' (n - k) (c - k))) b k m (ps.take k) ∧ (∃ o2, o' = some ⟨bb, o2, none⟩ ∧ Rd (w1.setCell ⟨g, 0, none⟩ (.slice o' (n - k) (c - k))) g o' (n - k) (c - k) (ps.drop k) e) ∧ Kg g W (w1.setCell ⟨g, 0, none⟩ (.slice o' (n - k) (c - k))) := by
  obtain ⟨b, m, rfl, hbw, -, hx⟩ := row_bw HR (fun x hx => H.2.1.2.2.2.1 x (List.mem_of_mem_take hx))
  rw [hle] at hbw ⊢
  obtain ⟨o2, rfl, hsf⟩ := hs
  have hne : bb ≠ g := H.2.2.2 _ rfl
  refine ⟨b, m, rfl, hbw.kg (Kg.set _ _ _ _) (fun x e => by have := (hx x e).1; have := H.1.lt; omega), ⟨o2, rfl, (H.1.below HB).set0, (hsf.below HB).kg (Kg.set _ _ _ _) (fun x e => by cases e; exact hne), (fun e => by cases e), fun x e => by cases e; exact hne⟩, (Kg.of HB).tr (Kg.set _ _ _ _)⟩
theorem take_any (g bb oo n c k : Nat) (ps : List Nat) (e : Int) (W : World) (h : Rd W g (some ⟨bb, oo, none⟩) n c ps e) (hk : k ≤ n) (hn : n ≤ 1000) :
    Calls Tryz.prog 138 #[.pointer (some ⟨g, 0, none⟩), .int .i64 (k : Nat)] W fun r W' => ∃ b m o', r = .returned (.slice b k m) ∧ Bw W' b k m (ps.take k) ∧ Rd W' g (some ⟨bb, o', none⟩) (n - k) (c - k) (ps.drop k) e ∧ Kg g W W' := by
  have q0 := h.1.at.1
  have q1 := h.1.at.2.1
  have q2 := h.1.frz 0
  have hnc := h.2.1.2.1
  have hcm := h.2.1.2.2.1
  have hlen : (ps.take k).length = k := by have := h.2.1.1; rw [List.length_take]; omega
  have HC := Lib.hid (cloneB_any (some ⟨bb, oo, none⟩) k c (ps.take k) W (h.2.1.pre hk) (fun e => by cases e) (by omega))
  have H := Lib.hid h
  have HLE := Lib.hid hlen
  have hkc : k ≤ c := by omega
  have HKN := Lib.hid hk
  clear h hlen
  have HSF := Lib.hid (H.out.2.1.suf hk)
  by_cases hck : c = k
  · subst hck
    obtain rfl : n = c := by omega
    go_enter Tryz.func138, Tryz.ntmps138
    go_wp2_with (go_at_call 108; refine HC.out.mono ?_; rintro r w1 ⟨v, rfl, hrow, hb⟩; have HR := Lib.hid hrow; have HB := Lib.hid hb; replace q0 := (hb.cell (p := ⟨g, 0, none⟩) H.out.1.lt).trans q0; replace q1 := (hb.cell (p := ⟨g, 1, none⟩) H.out.1.lt).trans q1; replace q2 := (H.out.1.below hb).frz 0; clear hrow hb)
    go_ret
    have hs2 : Bw W (some ⟨bb, oo, none⟩) (n - n) (n - n) (ps.drop n) := by
      obtain ⟨h1, h2, h3, h4, h5⟩ := HSF.out
      exact ⟨h1, h2, h3, h4, .inl (Nat.sub_self n)⟩
    have key := take_end H.out HKN.out HR.out HB.out HLE.out ⟨oo, rfl, hs2⟩
    simp only [Nat.sub_self] at key ⊢
    obtain ⟨b, m, rfl, h1, ⟨o2, e2, h2⟩, h3⟩ := key
    cases e2
    exact ⟨b, m, _, rfl, h1, h2, h3⟩
  · go_enter Tryz.func138, Tryz.ntmps138
    go_wp2_with (go_at_call 108; refine HC.out.mono ?_; rintro r w1 ⟨v, rfl, hrow, hb⟩; have HR := Lib.hid hrow; have HB := Lib.hid hb; replace q0 := (hb.cell (p := ⟨g, 0, none⟩) H.out.1.lt).trans q0; replace q1 := (hb.cell (p := ⟨g, 1, none⟩) H.out.1.lt).trans q1; replace q2 := (H.out.1.below hb).frz 0; clear hrow hb)
    go_ret
    obtain ⟨b, m, rfl, h1, ⟨o2, e2, h2⟩, h3⟩ := take_end H.out HKN.out HR.out HB.out HLE.out ⟨_, rfl, HSF.out⟩
    exact ⟨b, m, _, rfl, h1, h2, h3⟩
/-- A new reader, in a block of its own. -/
theorem reader_new (a : Option Addr) (n c : Nat) (ps : List Nat) (W : World) (h : Bw W a n c ps) (hz : Nz a n c) (hn : n ≤ 1000) :
    Calls Tryz.prog 83 #[.slice a n c] W fun r W' => ∃ g a' c', r = .returned (.pointer (some ⟨g, 0, none⟩)) ∧ W.heap.size ≤ g ∧ Rd W' g a' n c' ps 0 ∧ Below W.heap.size W W' := by
  have HC := Lib.hid (cloneB_any a n c ps W h hz (by omega))
  have HL := Lib.hid h.1
  have HB8 := Lib.hid h.2.2.2.1
  clear h hz
  go_enter Tryz.func83, Tryz.ntmps83
  go_wp2_with (go_at_call 108; refine HC.out.mono ?_; rintro r w1 ⟨v, rfl, hrow, hb⟩; obtain ⟨b, m, rfl, hbw, hnz, hx⟩ := row_bw hrow HB8.out; have HBW := Lib.hid hbw; have HNZ := Lib.hid hnz; have HX := Lib.hid hx; have HB := Lib.hid hb; clear hrow hbw hnz hx hb)
  go_ret
  have hl := HL.out
  have hbw := HBW.out
  have hnz := HNZ.out
  rw [hl] at hbw hnz
  rw [hl]
  have hbx : Below w1.heap.size w1 (w1.alloc (.cells #[.slice b n m, .int .i64 0] 143)) := (Below.refl _ _).alloc (Nat.le_refl _) _
  exact ⟨w1.heap.size, b, m, rfl, HB.out.size, ⟨At2T.new _ _ _ _, hbw.below hbx, hnz, fun x e => by have := (HX.out x e).2; omega⟩, HB.out.trans (hbx.mono HB.out.size)⟩
theorem rend_err (g : Nat) (x : Value) (e : Int) (W : World) (he : e ≠ 0) (h : At2T W g x (.int .i64 e) 143) :
    Calls Tryz.prog 85 #[.pointer (some ⟨g, 0, none⟩)] W fun r W' => r = .returned (.int .i64 e) ∧ W' = W := by
  have HO := Lib.hid (rok_any g x e false W h (show (e == 0) = false by simpa using he))
  have HE := Lib.hid (rerr_any g x e W h)
  clear h
  go_enter Tryz.func85, Tryz.ntmps85
  go_wp2_with (first
    | (go_at_call 109; refine HO.out.mono ?_; rintro e w1 ⟨rfl, rfl⟩)
    | (go_at_call 113; refine HE.out.mono ?_; rintro e w1 ⟨rfl, rfl⟩))
  go_ret
  exact ⟨rfl, rfl⟩
theorem rend_ok (g : Nat) (a : Option Addr) (n c : Nat) (t : Bool) (W : World) (h : At2T W g (.slice a n c) (.int .i64 0) 143) (ht : Hid (decide (0 < n) = t)) :
    Calls Tryz.prog 85 #[.pointer (some ⟨g, 0, none⟩)] W fun r W' => r = .returned (.int .i64 (if t then 6 else 0)) ∧ W' = W := by
  have q0 := h.at.1
  have HO := Lib.hid (rok_any g (.slice a n c) 0 true W h rfl)
  have HE := Lib.hid (rerr_any g (.slice a n c) 0 W h)
  clear h
  by_cases hn : 0 < n
  · obtain rfl : t = true := by rw [← ht.out]; simpa using hn
    have hn2 : (0 : Int) < (n : Int) := by omega
    go_enter Tryz.func85, Tryz.ntmps85
    go_wp2_with (first
      | (go_at_call 109; refine HO.out.mono ?_; rintro e w1 ⟨rfl, rfl⟩)
      | (go_at_call 113; refine HE.out.mono ?_; rintro e w1 ⟨rfl, rfl⟩))
    go_ret
    exact ⟨rfl, rfl⟩
  · obtain rfl : t = false := by rw [← ht.out]; simpa using hn
    obtain rfl : n = 0 := by omega
    go_enter Tryz.func85, Tryz.ntmps85
    go_wp2_with (first
      | (go_at_call 109; refine HO.out.mono ?_; rintro e w1 ⟨rfl, rfl⟩)
      | (go_at_call 113; refine HE.out.mono ?_; rintro e w1 ⟨rfl, rfl⟩))
    go_ret
    exact ⟨rfl, rfl⟩
end Go.Proofs.YtadomogbakcokaaGreatDoor
