/- DaysEncodes: at most six spans; the bytes; contracts. -/
import Derived.Test.YtfdododighjjpaaGreatDoorDzQ
import Derived.Test.YtfdododighjjpaaGreatDoorDaO
import Derived.Test.YtfdododighjjpaaGreatDoorDzF
import Derived.Test.YtfdododighjjpaaGreatDoorWiD
import Derived.Test.YtfdododighjjpaaGreatDoorKcI
namespace Go.Proofs.YtfdododighjjpaaGreatDoor.Dy
open Go.RowKit Go.PlainAid
set_option linter.unusedVariables false
set_option linter.unusedSimpArgs false
set_option maxHeartbeats 4000000

theorem nodup_sub {l r : List Int} (h1 : l.Pairwise (· < ·)) (h2 : ∀ x ∈ l, x ∈ r) : l.length ≤ r.length := by
  induction l generalizing r with
  | nil => simp
  | cons a l ih =>
    have ha := h2 a (by simp)
    have hp := List.pairwise_cons.1 h1
    have := ih (r := r.erase a) hp.2 (fun x hx => by
      have hne : x ≠ a := by have := hp.1 x hx; omega
      exact (List.mem_erase_of_ne hne).2 (h2 x (by simp [hx])))
    rw [List.length_erase_of_mem ha] at this
    have hpos : 0 < r.length := List.length_pos_of_mem ha
    rw [List.length_cons]; omega
theorem can_low {r : List (Int × Int)} (h : Can r) {p : Int × Int} (hp : p ∈ r) : Dm r (p.1 - 1) = false := by
  rw [Bool.eq_false_iff]
  intro hd
  obtain ⟨q, hq, h1, h2⟩ := dm_iff.1 hd
  have hpok := h.1 p hp
  have hqok := h.1 q hq
  unfold Okp at hpok hqok
  have hne : p ≠ q := by rintro rfl; omega
  have key : p.2 + 1 < q.1 ∨ q.2 + 1 < p.1 := by
    have : ∀ {l : List (Int × Int)}, l.Pairwise (fun p q => p.2 + 1 < q.1) → p ∈ l → q ∈ l → p.2 + 1 < q.1 ∨ q.2 + 1 < p.1 := by
      intro l hl
      induction l with
      | nil => intro h; cases h
      | cons x l ih =>
        intro hp hq
        have hx := List.pairwise_cons.1 hl
        rcases List.mem_cons.1 hp with e1 | hp2
        · rcases List.mem_cons.1 hq with e2 | hq2
          · exact absurd (e1.trans e2.symm) hne
          · exact .inl (by rw [e1]; exact hx.1 q hq2)
        · rcases List.mem_cons.1 hq with e2 | hq2
          · exact .inr (by rw [e2]; exact hx.1 p hp2)
          · exact ih hx.2 hp2 hq2
    exact this h.2 hp hq
  omega
theorem can_short {r F : List (Int × Int)} (h : Can r) (hm : ∀ d, Dm r d = Dm F d) : r.length ≤ F.length := by
  have h1 : (r.map (·.1)).Pairwise (· < ·) := by
    rw [List.pairwise_map]
    refine List.Pairwise.imp_of_mem (fun {p q} hp hq hpq => ?_) h.2
    have := h.1 p hp
    unfold Okp at this; omega
  have h2 : ∀ x ∈ r.map (·.1), x ∈ F.map (·.1) := by
    intro x hx
    obtain ⟨p, hp, rfl⟩ := List.mem_map.1 hx
    have hpok := h.1 p hp
    unfold Okp at hpok
    have hd : Dm F p.1 = true := by rw [← hm, dm_iff]; exact ⟨p, hp, by omega, by omega⟩
    obtain ⟨q, hq, q1, q2⟩ := dm_iff.1 hd
    have hlow := can_low h hp
    rw [hm] at hlow
    have : ¬ q.1 ≤ p.1 - 1 := fun hc => by
      have : Dm F (p.1 - 1) = true := dm_iff.2 ⟨q, hq, by omega, by omega⟩
      rw [hlow] at this; cases this
    exact List.mem_map.2 ⟨q, hq, by omega⟩
  have := nodup_sub h1 h2
  simpa using this
theorem textL_small {l : List (Int × Int)} (h : Can l) (h6 : l.length ≤ 6) : (textL l).length ≤ 100 := by
  unfold textL
  split
  · decide
  · split
    · decide
    · have := joinT_len l h.1; omega
def Make6P (w : World) (e : Ending) (w' : World) : Prop :=
  ∃ a n c r g, e = .returned (.tuple #[.agg #[.slice a n c], .slice (some ⟨g, 0, none⟩) 30001 30001, .bool true]) ∧ Ds w' a n c r ∧ Can r ∧ Fo w' g (Dm r) ∧ RowKit.Below w.heap.size w w' ∧ r.length ≤ 6
set_option maxRecDepth 100000 in
theorem make6_any (a : Option Addr) (n cap : Nat) (l : List (Nat × Nat)) (w : World) (h : Us w a n cap l) :
    Calls Tryz.prog 12 #[.slice a n cap] w (Make6P w) := by
  have HU := Lib.hid h
  have HOK := Lib.hid (fit_ok l)
  have HE := Lib.hid (ok_errL (fit_ok l))
  have hln := fit_len l
  obtain ⟨F, hF⟩ : ∃ F, F = fitL l := ⟨_, rfl⟩
  have HFIT := Lib.hid (fun W (hb : RowKit.Below w.heap.size w W) => fit_any a n cap l W (h.below hb (Nat.le_refl _)))
  rw [← hF] at HOK HE hln HFIT
  clear h hF HU
  have hE := RowKit.Below.refl (w.heap.size + 1) (w.alloc (.cells #[.slice none 0 0] 25))
  obtain ⟨q0, hD0⟩ := box1 hE
  go_enter Tryz.func12, Tryz.ntmps12
  go_wp2_with (first
    | (go_at_call 43; (with_reducible refine (HFIT.out _ hD0).mono ?_); rintro e w1 ⟨v1, rfl, hb1, hown1⟩; obtain ⟨a1, n1, c1, rfl, hn1, hd1⟩ := hown1.dn; have HD1 := Lib.hid hd1; have HN1 := Lib.hid hn1; have hE1 := hE.trans (hb1.mono (by simp)); obtain ⟨q1, hD1⟩ := box1 hE1; clear hd1 hown1 hn1)
    | (go_at_call 27; (with_reducible refine (lspans_any _ _ _ _ _ HD1.out (by rw [HN1.out]; omega)).mono ?_); rintro e w2 ⟨v2, rfl, hb2, hown2⟩; obtain ⟨a2, n2, c2, rfl, hn2, hd2⟩ := hown2.dn; have HD2 := Lib.hid hd2; have HN2 := Lib.hid hn2; have hz1 := hE1.size; simp only [World.size_alloc] at hz1; have hE2 := hE1.trans (hb2.mono hz1); obtain ⟨q2, hD2⟩ := box1 hE2; clear hd2 hown2 hn2)
    | (go_at_call 24; (with_reducible refine (of_any _ _ _ _ _ HD2.out (by rw [HN2.out]; omega)).mono ?_); rintro e w3 ⟨a3, n3, c3, r, rfl, hd3, hc3, hm3, hb3⟩; have HD3 := Lib.hid hd3; have HC3 := Lib.hid hc3; have HM3 := Lib.hid hm3; have hz2 := hE2.size; simp only [World.size_alloc] at hz2; have hE3 := hE2.trans (hb3.mono hz2); obtain ⟨q3, hD3⟩ := box1 hE3; have HFF := Lib.hid (HD1.out.below (hb2.mono (Nat.le_refl _) |>.trans (hb3.mono hb2.size)) (Nat.le_refl _)); rw [HE.out]; have f3 : w3.frozen? ⟨w.heap.size, 0, none⟩ = false := ((hE3.frozen (p := ⟨w.heap.size, 0, none⟩) (Nat.lt_succ_self _)).trans (new1 _ _ _).2); clear hd3 hc3 hm3))
  have s3 := new1 w3 (.slice a3 n3 c3) 25
  have hb3' := ((RowKit.Below.refl w3.heap.size w3).alloc (Nat.le_refl _) (.cells #[.slice a3 n3 c3] 25)).drew
  have HOF := Lib.hid (rof_any a1 n1 c1 F (w3.alloc (.cells #[.slice a3 n3 c3] 25)).drew (HFF.out.below hb3' (Nat.le_refl _)) HOK.out)
  have s3' : (w3.alloc (.cells #[.slice a3 n3 c3] 25)).drew.cell? ⟨w3.heap.size, 0, none⟩ = some (.slice a3 n3 c3) := s3.1
  refine wp_region_noPanic ?_
  refine region_ord (S := fun w' => w'.cell? ⟨w3.heap.size, 0, none⟩ = some (.slice a3 n3 c3)) [0, 1, 3, 4, 2, 5, 6, 7] (by kernel_rfl) (by decide +kernel) (fun _ _ _ _ _ h => h) (s3') (fun _ => ?_)
  repeat (first
    | (refine ord_skip rfl rfl rfl ?_; (try simp only [Act.put, List.setIfInBounds_toArray, List.set_cons_zero, List.set_cons_succ]))
    | (refine' ord_light (v := _) rfl rfl rfl (fun w' hSw => ?_) ?_; rotate_left; focus ((try dsimp only at hSw); go_simp <;> (with_reducible rfl)); (try simp only [Act.put, List.setIfInBounds_toArray, List.set_cons_zero, List.set_cons_succ]))
    | (refine ord_heavy rfl rfl (fun K hK => ?_); go_simp; (go_at_call 35; (with_reducible refine HOF.out.mono ?_); rintro e w4 ⟨g, rfl, hfo, hb4⟩; have s4 := (hb4.cell (p := ⟨w3.heap.size, 0, none⟩) (by show w3.heap.size < (w3.alloc _).heap.size; simp)).trans s3'; have hlt : w.heap.size < w3.heap.size := (by have := hE3.size; simp at this; omega); have hb4' := hb3'.trans (hb4.mono (by show w3.heap.size ≤ (w3.alloc _).heap.size; simp)); have q4 := (hb4'.cell (p := ⟨w.heap.size, 0, none⟩) hlt).trans q3; have HFO := Lib.hid hfo; have hbw := hD3.trans (hb4'.mono hD3.size); have HD4 := Lib.hid (HD3.out.below hb4' (Nat.le_refl _)); have f4 := (hb4'.frozen (p := ⟨w.heap.size, 0, none⟩) hlt).trans f3; clear hfo); (try go_wp2_with fail); refine hK.out _ _ (by first | exact s4 | exact (World.cell?_setCell_other _ _ _ _ (fun e => by injection e with e1; omega)).trans s4) ?_; clear hK K; (try simp only [Act.put, List.setIfInBounds_toArray, List.set_cons_zero, List.set_cons_succ]))
    | (refine ord_heavy rfl rfl (fun K hK => ?_); go_simp; (try go_wp2_with fail); refine hK.out _ _ (by first | exact s4 | exact (World.cell?_setCell_other _ _ _ _ (fun e => by injection e with e1; omega)).trans s4) ?_; clear hK K; (try simp only [Act.put, List.setIfInBounds_toArray, List.set_cons_zero, List.set_cons_succ])))
  refine ord_nil (NoPanic.normal ?_)
  have cs := World.cell?_setCell_same w4 ⟨w.heap.size, 0, none⟩ (.slice a3 n3 c3) q4
  go_wp2_with fail
  refine bodyPost_ret (v := .tuple #[.agg #[.slice a3 n3 c3], .slice (some ⟨g, 0, none⟩) 30001 30001, .bool true]) (by simp [results, Tryz.results12, go_sem, cs]) rfl ?_
  exact ⟨a3, n3, c3, r, g, rfl, HD4.out.set q4 (by intro x e; cases e), HC3.out, (HFO.out.setO q4 (by intro x e; cases e)).congr (fun d _ _ => by rw [HM3.out d, decide_eq_true HE.out]), hbw.setCell (Nat.le_refl _) _, Nat.le_trans (can_short HC3.out (fun d => by rw [HM3.out d, decide_eq_true HE.out])) hln⟩
theorem of_self (a : Option Addr) (n cap : Nat) (l : List (Int × Int)) (hl : Can l) (w : World) (h : Ds w a n cap l) (hn : n ≤ 100000) :
    Calls Tryz.prog 24 #[.slice a n cap] w fun e w' => ∃ a n c, e = .returned (.tuple #[.agg #[.slice a n c], .int .i64 0]) ∧ Ds w' a n c l ∧ RowKit.Below w.heap.size w w' := by
  refine (of_any a n cap l w h hn).mono ?_
  rintro e w' ⟨a', n', c', r, rfl, hd, hc, hm, hb⟩
  have he := ok_errL hl.1
  have e2 : r = l := can_ext hc hl (fun d => by rw [hm, decide_eq_true he])
  subst e2
  exact ⟨a', n', c', by rw [he], hd, hb⟩
def encP (l : List (Int × Int)) : List Nat := l.flatMap fun p => Wi.encN p.1.toNat ++ Wi.encN p.2.toNat
theorem encP_snoc {l : List (Int × Int)} {j : Nat} {p : Int × Int} (h : l[j]? = some p) : encP (l.take (j + 1)) = (encP (l.take j) ++ Wi.encN p.1.toNat) ++ Wi.encN p.2.toNat := by
  rw [List.take_add_one, h]
  simp [encP]
theorem encP_drop {l : List (Int × Int)} {j : Nat} {p : Int × Int} (h : l[j]? = some p) : encP (l.drop j) = Wi.encN p.1.toNat ++ (Wi.encN p.2.toNat ++ encP (l.drop (j + 1))) := by
  rw [drop_at h]
  simp [encP]
theorem day_nat {z : Int} (h0 : 0 ≤ z) (h1 : z ≤ 30000) : ∃ k : Nat, z = k ∧ z.toNat = k ∧ k ≤ 30000 := ⟨z.toNat, by omega, rfl, by omega⟩
theorem encP_len : ∀ {l : List (Int × Int)}, (∀ p ∈ l, Okp p) → (encP l).length ≤ 6 * l.length
  | [], _ => by simp [encP]
  | p :: l, h => by
    have hp := h p (by simp)
    unfold Okp at hp
    have ih := encP_len (l := l) (fun q hq => h q (by simp [hq]))
    have h1 := (Wi.enc_len p.1.toNat).2.1 (by omega)
    have h2 := (Wi.enc_len p.2.toNat).2.1 (by omega)
    have e : encP (p :: l) = (Wi.encN p.1.toNat ++ Wi.encN p.2.toNat) ++ encP l := rfl
    rw [e, List.length_append, List.length_append, List.length_cons]; omega
theorem encP_lt (l : List (Int × Int)) : ∀ x ∈ encP l, x < 256 := by
  intro x hx
  unfold encP at hx
  obtain ⟨p, _, hp⟩ := List.mem_flatMap.1 hx
  rcases List.mem_append.1 hp with hp | hp <;> exact Wi.enc_lt _ x hp
/-- A row of another type stands while the writer writes. -/
theorem os_kp {T : TypeId} {W W' : World} {N g B : Nat} {v vs : Value} {bs : List Nat} {l : List (Int × Int)} (h : Os T W B vs l) (hw : Wi.Wr N g v bs W) (hk : Wi.Kp g v W W') (hg : g < B) (hT : T ≠ 5) : Os T W' B vs l := by
  refine ⟨h.1, ?_⟩
  rcases h.2 with hn | ⟨b, cap, cur, rfl, hb, hh, r⟩
  · exact .inl hn
  · refine .inr ⟨b, cap, cur, rfl, hb, ?_, r⟩
    have hlt := (Array.getElem?_eq_some_iff.1 hh).1
    rw [hk.block b hlt (by omega) (fun e => ?_)]
    · exact hh
    · rcases hw.2.1.2 with hn | ⟨b2, cap2, cur2, rfl, hb2, hh2, _⟩
      · rw [hn.1] at e; cases e
      · cases e
        rw [hh] at hh2
        injection hh2 with hh2
        injection hh2 with e1 e2 e3
        exact hT e2
theorem below_kp {W W' : World} {w : World} {N g : Nat} {v : Value} {bs : List Nat} (hb : RowKit.Below w.heap.size w W) (hw : Wi.Wr N g v bs W) (hk : Wi.Kp g v W W') (hg : w.heap.size ≤ g) : RowKit.Below w.heap.size w W' :=
  ⟨hk.os.trans hb.os, hk.tape.trans hb.tape, hk.output.trans hb.output, Nat.le_trans hb.size hk.size, fun k hl => (hk.block k (Nat.lt_of_lt_of_le hl hb.size) (by omega) (fun e => by have h1 := (hw.2.1.lt k e.symm).1; have h2 := hw.2.2.1; omega)).trans (hb.block k hl)⟩
theorem below_but2 {W W' : World} {w : World} {N g : Nat} (hb : RowKit.Below w.heap.size w W) (hk : Wi.But N g g W W') (hg : w.heap.size ≤ g) (hN : g < N) : RowKit.Below w.heap.size w W' :=
  ⟨hk.os.trans hb.os, hk.tape.trans hb.tape, hk.output.trans hb.output, Nat.le_trans hb.size hk.size, fun k hl => (hk.block k (by omega) (by omega) (by omega)).trans (hb.block k hl)⟩
end Go.Proofs.YtfdododighjjpaaGreatDoor.Dy
