/- Contracts: And, Minus, Within. -/
import Derived.Test.YtgbonpmakahibaaDoorDaF
import Derived.Test.YtgbonpmakahibaaDoorReg
import Derived.BigRegion
namespace Go.Proofs.YtgbonpmakahibaaDoor.Dy
open Go.RowKit Go.PlainAid
set_option linter.unusedVariables false
set_option linter.unusedSimpArgs false
set_option maxHeartbeats 10000000

def slN : Value → Nat | .slice _ n _ => n | _ => 0
/-- The slice without its first element. -/
theorem Ds.tail {w : World} {b o n cap : Nat} {p : Int × Int} {l : List (Int × Int)} (h : Ds w (some ⟨b, o, none⟩) (n + 1) cap (p :: l)) (a : Option Addr) (ha : n = 0 ∨ a = some ⟨b, o + 2, none⟩) (m c : Nat) (hm : m = n) (hc : c = cap - 1) : Ds w a m c l := by
  obtain ⟨h1, h2, h3, h4⟩ := h
  subst hm hc
  refine ⟨by simpa using h1, by omega, by omega, ?_⟩
  rcases ha with ha | ha
  · exact .inl ha
  · rcases h4 with h4 | ⟨b', o', h4, hb, hcell⟩
    · omega
    · cases h4
      refine .inr ⟨_, _, ha, hb, fun j q hq => ?_⟩
      have := hcell (j + 1) q (by simpa using hq)
      rw [show o + 2 + j * 2 = o + (j + 1) * 2 from by omega]
      exact this
theorem Ds.tail' {w : World} {b o n cap : Nat} {p : Int × Int} {l : List (Int × Int)} (h : Ds w (some ⟨b, o, none⟩) (n + 1) cap (p :: l)) : Ds w (if cap = 1 then some ⟨b, o, none⟩ else some ⟨b, o + 2, none⟩) n (cap - 1) l := by
  refine h.tail _ ?_ _ _ rfl rfl
  have := h.2.1
  by_cases h0 : n = 0
  · exact .inl h0
  · exact .inr (if_neg (by omega))
theorem Ds.head {w : World} {a : Option Addr} {n cap : Nat} {p : Int × Int} {l : List (Int × Int)} (h : Ds w a n cap (p :: l)) : ∃ b o m, a = some ⟨b, o, none⟩ ∧ n = m + 1 ∧ m + 1 ≤ cap ∧ b < w.heap.size ∧ w.cell? ⟨b, o, none⟩ = some (.int .i64 p.1) ∧ w.cell? ⟨b, o + 1, none⟩ = some (.int .i64 p.2) := by
  obtain ⟨h1, h2, h3, h4⟩ := h
  rw [List.length_cons] at h1
  rcases h4 with h4 | ⟨b, o, ha, hb, hcell⟩
  · omega
  · have := hcell 0 p rfl
    exact ⟨b, o, l.length, ha, h1.symm, by omega, hb, by simpa using this.1, by simpa using this.2⟩

theorem kp {w : World} {g o : Nat} {v : Value} (h : g < w.heap.size) (hc : w.cell? ⟨g, o, none⟩ = some v) (ob : Obj) : (w.drew.alloc ob).cell? ⟨g, o, none⟩ = some v := by
  rw [World.cell?_alloc_lt _ _ _ h]; exact hc
set_option maxRecDepth 100000 in
theorem and_any (a b : Option Addr) (n m ca cb : Nat) (l r : List (Int × Int)) (w : World) (ha : Ds w a n ca l) (hb : Ds w b m cb r) (hl : Can l) (hr : Can r) :
    Calls Tryd.prog 25 #[.agg #[.slice a n ca], .agg #[.slice b m cb]] w (SetP w fun d => Dm l d && Dm r d) := by
  obtain ⟨i0, hi, hz0, hz1, hz2⟩ := info_parts infoSpan
  have hll := can_len hl
  have hrl := can_len hr
  have HA := Lib.hid ha
  have HB := Lib.hid hb
  have HS := Lib.hid (AndI.start hl hr)
  clear ha hb hl hr
  go_enter Tryd.func25, Tryd.ntmps25
  go_wp2_with fail
  go_quiet (fail)
  go_wp2_with fail
  go_loopw [5, 6, 7] (fun v5 v6 v7 wr => ∃ (acc l' r' : List (Int × Int)) (A B : Option Addr) (n' m' ca' cb' : Nat), v6 = .slice A n' ca' ∧ v7 = .slice B m' cb' ∧ Ds w A n' ca' l' ∧ Ds w B m' cb' r' ∧ acc.length + n' + m' ≤ 30002 ∧ Os 60 wr (w.heap.size + 3) v5 acc ∧ Hid (AndI l r acc l' r') ∧
    Below (w.heap.size + 3) (((w.alloc (.cells #[.slice a n ca] 26)).alloc (.cells #[.slice b m cb] 26)).alloc (.cells #[.slice none 0 0] 26)) wr) (fun _ v6 v7 _ => slN v6 + slN v7)
  case atStart => exact ⟨[], l, r, a, b, n, m, ca, cb, rfl, rfl, HA.out, HB.out, by have h1 := HA.out.1; have h2 := HB.out.1; simp; omega, Os.nil _ _ _, HS.out, bdr (Below.refl _ _) _⟩
  case round =>
    obtain ⟨acc, l', r', A, B, n', m', ca', cb', rfl, rfl, hda, hdb, hacc, hown, hpre, hbel⟩ := hrel
    obtain ⟨c0, c1, c2, f2, hz, hbw⟩ := box3 hbel
    have hend : l' = [] ∨ r' = [] → Hid (Can acc ∧ ∀ d, Dm acc d = (Dm l d && Dm r d)) := fun h => hpre.out.stop h
    cases l' with
    | nil =>
      have HE := hend (.inl rfl)
      obtain rfl : n' = 0 := hda.1.symm
      obtain ⟨a2, n2, c2', rfl, hn2, hs2⟩ := hown.dn
      have HS2 := Lib.hid hs2
      clear hend hpre hs2 hown hn2 hda hdb
      go_wp2_with fail
      all_goals first | (exfalso; omega) | skip
      have cs := World.cell?_setCell_same wr ⟨w.heap.size + 1 + 1, 0, none⟩ (.slice a2 n2 c2') c2
      refine bodyPost_ret (v := .agg #[.slice a2 n2 c2']) (by simp [results, Tryd.results25, go_sem, cs]) rfl ?_
      exact ⟨a2, _, c2', _, rfl, HS2.out.set c2 (by intro x e; cases e), HE.out.1, HE.out.2, hbw.setCell (show w.heap.size ≤ w.heap.size + 1 + 1 by omega) _⟩
    | cons p l' =>
      cases r' with
      | nil =>
        have HE := hend (.inr rfl)
        obtain rfl : m' = 0 := hdb.1.symm
        have hn' : (0 : Int) < (n' : Int) := by have := hda.1; simp at this; omega
        obtain ⟨a2, n2, c2', rfl, hn2, hs2⟩ := hown.dn
        have HS2 := Lib.hid hs2
        clear hend hpre hs2 hown hn2 hda hdb
        go_wp2_with fail
        all_goals first | (exfalso; omega) | skip
        have cs := World.cell?_setCell_same wr ⟨w.heap.size + 1 + 1, 0, none⟩ (.slice a2 n2 c2') c2
        refine bodyPost_ret (v := .agg #[.slice a2 n2 c2']) (by simp [results, Tryd.results25, go_sem, cs]) rfl ?_
        exact ⟨a2, _, c2', _, rfl, HS2.out.set c2 (by intro x e; cases e), HE.out.1, HE.out.2, hbw.setCell (show w.heap.size ≤ w.heap.size + 1 + 1 by omega) _⟩
      | cons q r' =>
        obtain ⟨b1, o1, n1, rfl, rfl, hca, hb1, x1, x2⟩ := hda.head
        obtain ⟨b2, o2, m1, rfl, rfl, hcb, hb2, y1, y2⟩ := hdb.head
        have HL := fun h => Lib.hid (hpre.out.left (a := p) (b := q) h)
        have HR := fun h => Lib.hid (hpre.out.right (a := p) (b := q) h)
        have HDA := Lib.hid hda
        have HDB := Lib.hid hdb
        have hma := hda.2.2.1
        have hmb := hdb.2.2.1
        unfold maxLen at hma hmb
        obtain ⟨p1, p2⟩ := p
        obtain ⟨q1, q2⟩ := q
        dsimp only at x1 x2 y1 y2 HL HR
        have X1 := (hbw.cell (p := ⟨b1, _, none⟩) hb1).trans x1
        have X2 := (hbw.cell (p := ⟨b1, _, none⟩) hb1).trans x2
        have Y1 := (hbw.cell (p := ⟨b2, _, none⟩) hb2).trans y1
        have Y2 := (hbw.cell (p := ⟨b2, _, none⟩) hb2).trans y2
        have g1 : b1 < wr.heap.size := Nat.lt_of_lt_of_le hb1 hbw.size
        have g2 : b2 < wr.heap.size := Nat.lt_of_lt_of_le hb2 hbw.size
        clear hend hpre hda hdb
        rcases Int.lt_or_le p1 q1 with h1 | h1
        · have e1 : max p1 q1 = q1 := by omega
          rcases Int.lt_trichotomy p2 q2 with h2 | h2 | h2
          · have e2 : min p2 q2 = p2 := by omega
            by_cases h3 : q1 ≤ p2
            · have HST := HL h2
              rw [e1, e2, if_pos h3] at HST
              clear HL HR e1 e2
              go_wp2_with fail
              refine wp_region_noPanic ?_
              refine region_ord (S := fun w' => w'.cell? ⟨b1, o1, none⟩ = some (.int .i64 p1) ∧ w'.cell? ⟨b1, o1 + 1, none⟩ = some (.int .i64 p2) ∧ w'.cell? ⟨b2, o2, none⟩ = some (.int .i64 q1) ∧ w'.cell? ⟨b2, o2 + 1, none⟩ = some (.int .i64 q2)) [0, 1, 2, 3, 4, 5, 6, 7, 8, 9, 10, 11, 12, 13, 14, 15, 16, 17, 18, 19, 20] (by kernel_rfl) (by decide +kernel) (fun _ _ _ _ _ h => h) (⟨X1, X2, Y1, Y2⟩) (fun _ => ?_)
              repeat (first
                | (refine ord_skip rfl rfl rfl ?_; (try simp only [Act.put, List.setIfInBounds_toArray, List.set_cons_zero, List.set_cons_succ]))
                | (refine' ord_light (v := _) rfl rfl rfl (fun w' hSw => ?_) ?_; rotate_left; (focus ((try dsimp only at hSw); go_simp <;> (with_reducible rfl))); (try simp only [Act.put, List.setIfInBounds_toArray, List.set_cons_zero, List.set_cons_succ]))
                | (refine ord_heavy rfl rfl (fun K hK => ?_); go_simp; (try go_wp2_with fail); refine hK.out _ _ (⟨kp g1 X1 _, kp g1 X2 _, kp g2 Y1 _, kp g2 Y2 _⟩) ?_; clear hK K; (try simp only [Act.put, List.setIfInBounds_toArray, List.set_cons_zero, List.set_cons_succ])))
              refine ord_nil (NoPanic.normal ?_)
              have hown1 := (hown.drew.alloc (.cells #[.int .i64 q1, .int .i64 p2] 60)).alloc (.cells #[.int .i64 q1, .int .i64 p2] 60)
              have hb3 := (hbel.drew.alloc hz (.cells #[.int .i64 q1, .int .i64 p2] 60)).alloc (by simp; omega) (.cells #[.int .i64 q1, .int .i64 p2] 60)
              go_wp2_with (at_builtin; refine wpList_append_ds rfl (.tmp 45) (.tmp 47) 24 60 rfl Tryd.underlying24 (w.heap.size + 3) i0 hi hz0 hz1 hz2 _ _ rfl hown1 _ 1 1 [(q1, p2)] rfl (Ds.one _ _ _ _ _ (by simp)) (by omega) (by simp; omega) ?_)
              intro v2 w2 hown2 hgr2
              have hb4 := hb3.grown hgr2 (by simp; omega) (fun b hb => (hown.lt b hb).1)
              obtain ⟨k0, k1, k2, k3, hz', hbw'⟩ := box3 hb4
              have X2' := (hbw'.cell (p := ⟨b1, _, none⟩) hb1).trans x2
              have Y2' := (hbw'.cell (p := ⟨b2, _, none⟩) hb2).trans y2
              clear hgr2 hown1 hown hbel hb3 c0 c1 c2 f2 X1 X2 Y1 Y2 x1 x2 y1 y2
              go_wp2_with fail
              go_quiet (fail)
              go_wp2_with fail
              go_roundw
              case rel => exact ⟨acc ++ [(q1, p2)], _, _, _, _, n1, _, _, _, rfl, rfl, HDA.out.tail', HDB.out, by simp; omega, hown2, HST.out, (bdr hb4 _)⟩
              case measure => simp [slN]
            · have HST := HL h2
              rw [e1, e2, if_neg h3] at HST
              clear HL HR e1 e2
              go_wp2_with fail
              refine wp_region_noPanic ?_
              refine region_ord (S := fun w' => w'.cell? ⟨b1, o1, none⟩ = some (.int .i64 p1) ∧ w'.cell? ⟨b1, o1 + 1, none⟩ = some (.int .i64 p2) ∧ w'.cell? ⟨b2, o2, none⟩ = some (.int .i64 q1) ∧ w'.cell? ⟨b2, o2 + 1, none⟩ = some (.int .i64 q2)) [0, 1, 2, 3, 4, 5, 6, 7, 8, 9, 10, 11, 12, 13, 14, 15, 16, 17, 18, 19, 20] (by kernel_rfl) (by decide +kernel) (fun _ _ _ _ _ h => h) (⟨X1, X2, Y1, Y2⟩) (fun _ => ?_)
              repeat (first
                | (refine ord_skip rfl rfl rfl ?_; (try simp only [Act.put, List.setIfInBounds_toArray, List.set_cons_zero, List.set_cons_succ]))
                | (refine' ord_light (v := _) rfl rfl rfl (fun w' hSw => ?_) ?_; rotate_left; (focus ((try dsimp only at hSw); go_simp <;> (with_reducible rfl))); (try simp only [Act.put, List.setIfInBounds_toArray, List.set_cons_zero, List.set_cons_succ]))
                | (refine ord_heavy rfl rfl (fun K hK => ?_); go_simp; (try go_wp2_with fail); refine hK.out _ _ (⟨kp g1 X1 _, kp g1 X2 _, kp g2 Y1 _, kp g2 Y2 _⟩) ?_; clear hK K; (try simp only [Act.put, List.setIfInBounds_toArray, List.set_cons_zero, List.set_cons_succ])))
              refine ord_nil (NoPanic.normal ?_)
              have hb4 := hbel.alloc hz (.cells #[.int .i64 q1, .int .i64 p2] 60)
              have hown2 := (hown.drew.alloc (.cells #[.int .i64 q1, .int .i64 p2] 60))
              go_wp2_with fail
              go_quiet (fail)
              go_wp2_with fail
              go_roundw
              case rel => exact ⟨acc, _, _, _, _, n1, _, _, _, rfl, rfl, HDA.out.tail', HDB.out, by omega, hown2, HST.out, (bdr hb4 _)⟩
              case measure => simp [slN]
          · subst h2
            have e2 : min p2 p2 = p2 := by omega
            by_cases h3 : q1 ≤ p2
            · have HST := HR (Int.lt_irrefl _)
              rw [e1, e2, if_pos h3] at HST
              clear HL HR e1 e2
              go_wp2_with fail
              refine wp_region_noPanic ?_
              refine region_ord (S := fun w' => w'.cell? ⟨b1, o1, none⟩ = some (.int .i64 p1) ∧ w'.cell? ⟨b1, o1 + 1, none⟩ = some (.int .i64 p2) ∧ w'.cell? ⟨b2, o2, none⟩ = some (.int .i64 q1) ∧ w'.cell? ⟨b2, o2 + 1, none⟩ = some (.int .i64 p2)) [0, 1, 2, 3, 4, 5, 6, 7, 8, 9, 10, 11, 12, 13, 14, 15, 16, 17, 18, 19, 20] (by kernel_rfl) (by decide +kernel) (fun _ _ _ _ _ h => h) (⟨X1, X2, Y1, Y2⟩) (fun _ => ?_)
              repeat (first
                | (refine ord_skip rfl rfl rfl ?_; (try simp only [Act.put, List.setIfInBounds_toArray, List.set_cons_zero, List.set_cons_succ]))
                | (refine' ord_light (v := _) rfl rfl rfl (fun w' hSw => ?_) ?_; rotate_left; (focus ((try dsimp only at hSw); go_simp <;> (with_reducible rfl))); (try simp only [Act.put, List.setIfInBounds_toArray, List.set_cons_zero, List.set_cons_succ]))
                | (refine ord_heavy rfl rfl (fun K hK => ?_); go_simp; (try go_wp2_with fail); refine hK.out _ _ (⟨kp g1 X1 _, kp g1 X2 _, kp g2 Y1 _, kp g2 Y2 _⟩) ?_; clear hK K; (try simp only [Act.put, List.setIfInBounds_toArray, List.set_cons_zero, List.set_cons_succ])))
              refine ord_nil (NoPanic.normal ?_)
              have hown1 := (hown.drew.alloc (.cells #[.int .i64 q1, .int .i64 p2] 60)).alloc (.cells #[.int .i64 q1, .int .i64 p2] 60)
              have hb3 := (hbel.drew.alloc hz (.cells #[.int .i64 q1, .int .i64 p2] 60)).alloc (by simp; omega) (.cells #[.int .i64 q1, .int .i64 p2] 60)
              go_wp2_with (at_builtin; refine wpList_append_ds rfl (.tmp 45) (.tmp 47) 24 60 rfl Tryd.underlying24 (w.heap.size + 3) i0 hi hz0 hz1 hz2 _ _ rfl hown1 _ 1 1 [(q1, p2)] rfl (Ds.one _ _ _ _ _ (by simp)) (by omega) (by simp; omega) ?_)
              intro v2 w2 hown2 hgr2
              have hb4 := hb3.grown hgr2 (by simp; omega) (fun b hb => (hown.lt b hb).1)
              obtain ⟨k0, k1, k2, k3, hz', hbw'⟩ := box3 hb4
              have X2' := (hbw'.cell (p := ⟨b1, _, none⟩) hb1).trans x2
              have Y2' := (hbw'.cell (p := ⟨b2, _, none⟩) hb2).trans y2
              clear hgr2 hown1 hown hbel hb3 c0 c1 c2 f2 X1 X2 Y1 Y2 x1 x2 y1 y2
              go_wp2_with fail
              go_quiet (fail)
              go_wp2_with fail
              go_roundw
              case rel => exact ⟨acc ++ [(q1, p2)], _, _, _, _, _, m1, _, _, rfl, rfl, HDA.out, HDB.out.tail', by simp; omega, hown2, HST.out, (bdr hb4 _)⟩
              case measure => simp [slN]
            · have HST := HR (Int.lt_irrefl _)
              rw [e1, e2, if_neg h3] at HST
              clear HL HR e1 e2
              go_wp2_with fail
              refine wp_region_noPanic ?_
              refine region_ord (S := fun w' => w'.cell? ⟨b1, o1, none⟩ = some (.int .i64 p1) ∧ w'.cell? ⟨b1, o1 + 1, none⟩ = some (.int .i64 p2) ∧ w'.cell? ⟨b2, o2, none⟩ = some (.int .i64 q1) ∧ w'.cell? ⟨b2, o2 + 1, none⟩ = some (.int .i64 p2)) [0, 1, 2, 3, 4, 5, 6, 7, 8, 9, 10, 11, 12, 13, 14, 15, 16, 17, 18, 19, 20] (by kernel_rfl) (by decide +kernel) (fun _ _ _ _ _ h => h) (⟨X1, X2, Y1, Y2⟩) (fun _ => ?_)
              repeat (first
                | (refine ord_skip rfl rfl rfl ?_; (try simp only [Act.put, List.setIfInBounds_toArray, List.set_cons_zero, List.set_cons_succ]))
                | (refine' ord_light (v := _) rfl rfl rfl (fun w' hSw => ?_) ?_; rotate_left; (focus ((try dsimp only at hSw); go_simp <;> (with_reducible rfl))); (try simp only [Act.put, List.setIfInBounds_toArray, List.set_cons_zero, List.set_cons_succ]))
                | (refine ord_heavy rfl rfl (fun K hK => ?_); go_simp; (try go_wp2_with fail); refine hK.out _ _ (⟨kp g1 X1 _, kp g1 X2 _, kp g2 Y1 _, kp g2 Y2 _⟩) ?_; clear hK K; (try simp only [Act.put, List.setIfInBounds_toArray, List.set_cons_zero, List.set_cons_succ])))
              refine ord_nil (NoPanic.normal ?_)
              have hb4 := hbel.alloc hz (.cells #[.int .i64 q1, .int .i64 p2] 60)
              have hown2 := (hown.drew.alloc (.cells #[.int .i64 q1, .int .i64 p2] 60))
              go_wp2_with fail
              go_quiet (fail)
              go_wp2_with fail
              go_roundw
              case rel => exact ⟨acc, _, _, _, _, _, m1, _, _, rfl, rfl, HDA.out, HDB.out.tail', by omega, hown2, HST.out, (bdr hb4 _)⟩
              case measure => simp [slN]
          · have e2 : min p2 q2 = q2 := by omega
            by_cases h3 : q1 ≤ q2
            · have HST := HR (by omega)
              rw [e1, e2, if_pos h3] at HST
              clear HL HR e1 e2
              go_wp2_with fail
              refine wp_region_noPanic ?_
              refine region_ord (S := fun w' => w'.cell? ⟨b1, o1, none⟩ = some (.int .i64 p1) ∧ w'.cell? ⟨b1, o1 + 1, none⟩ = some (.int .i64 p2) ∧ w'.cell? ⟨b2, o2, none⟩ = some (.int .i64 q1) ∧ w'.cell? ⟨b2, o2 + 1, none⟩ = some (.int .i64 q2)) [0, 1, 2, 3, 4, 5, 6, 7, 8, 9, 10, 11, 12, 13, 14, 15, 16, 17, 18, 19, 20] (by kernel_rfl) (by decide +kernel) (fun _ _ _ _ _ h => h) (⟨X1, X2, Y1, Y2⟩) (fun _ => ?_)
              repeat (first
                | (refine ord_skip rfl rfl rfl ?_; (try simp only [Act.put, List.setIfInBounds_toArray, List.set_cons_zero, List.set_cons_succ]))
                | (refine' ord_light (v := _) rfl rfl rfl (fun w' hSw => ?_) ?_; rotate_left; (focus ((try dsimp only at hSw); go_simp <;> (with_reducible rfl))); (try simp only [Act.put, List.setIfInBounds_toArray, List.set_cons_zero, List.set_cons_succ]))
                | (refine ord_heavy rfl rfl (fun K hK => ?_); go_simp; (try go_wp2_with fail); refine hK.out _ _ (⟨kp g1 X1 _, kp g1 X2 _, kp g2 Y1 _, kp g2 Y2 _⟩) ?_; clear hK K; (try simp only [Act.put, List.setIfInBounds_toArray, List.set_cons_zero, List.set_cons_succ])))
              refine ord_nil (NoPanic.normal ?_)
              have hown1 := (hown.drew.alloc (.cells #[.int .i64 q1, .int .i64 q2] 60)).alloc (.cells #[.int .i64 q1, .int .i64 q2] 60)
              have hb3 := (hbel.drew.alloc hz (.cells #[.int .i64 q1, .int .i64 q2] 60)).alloc (by simp; omega) (.cells #[.int .i64 q1, .int .i64 q2] 60)
              go_wp2_with (at_builtin; refine wpList_append_ds rfl (.tmp 45) (.tmp 47) 24 60 rfl Tryd.underlying24 (w.heap.size + 3) i0 hi hz0 hz1 hz2 _ _ rfl hown1 _ 1 1 [(q1, q2)] rfl (Ds.one _ _ _ _ _ (by simp)) (by omega) (by simp; omega) ?_)
              intro v2 w2 hown2 hgr2
              have hb4 := hb3.grown hgr2 (by simp; omega) (fun b hb => (hown.lt b hb).1)
              obtain ⟨k0, k1, k2, k3, hz', hbw'⟩ := box3 hb4
              have X2' := (hbw'.cell (p := ⟨b1, _, none⟩) hb1).trans x2
              have Y2' := (hbw'.cell (p := ⟨b2, _, none⟩) hb2).trans y2
              clear hgr2 hown1 hown hbel hb3 c0 c1 c2 f2 X1 X2 Y1 Y2 x1 x2 y1 y2
              go_wp2_with fail
              go_quiet (fail)
              go_wp2_with fail
              go_roundw
              case rel => exact ⟨acc ++ [(q1, q2)], _, _, _, _, _, m1, _, _, rfl, rfl, HDA.out, HDB.out.tail', by simp; omega, hown2, HST.out, (bdr hb4 _)⟩
              case measure => simp [slN]
            · have HST := HR (by omega)
              rw [e1, e2, if_neg h3] at HST
              clear HL HR e1 e2
              go_wp2_with fail
              refine wp_region_noPanic ?_
              refine region_ord (S := fun w' => w'.cell? ⟨b1, o1, none⟩ = some (.int .i64 p1) ∧ w'.cell? ⟨b1, o1 + 1, none⟩ = some (.int .i64 p2) ∧ w'.cell? ⟨b2, o2, none⟩ = some (.int .i64 q1) ∧ w'.cell? ⟨b2, o2 + 1, none⟩ = some (.int .i64 q2)) [0, 1, 2, 3, 4, 5, 6, 7, 8, 9, 10, 11, 12, 13, 14, 15, 16, 17, 18, 19, 20] (by kernel_rfl) (by decide +kernel) (fun _ _ _ _ _ h => h) (⟨X1, X2, Y1, Y2⟩) (fun _ => ?_)
              repeat (first
                | (refine ord_skip rfl rfl rfl ?_; (try simp only [Act.put, List.setIfInBounds_toArray, List.set_cons_zero, List.set_cons_succ]))
                | (refine' ord_light (v := _) rfl rfl rfl (fun w' hSw => ?_) ?_; rotate_left; (focus ((try dsimp only at hSw); go_simp <;> (with_reducible rfl))); (try simp only [Act.put, List.setIfInBounds_toArray, List.set_cons_zero, List.set_cons_succ]))
                | (refine ord_heavy rfl rfl (fun K hK => ?_); go_simp; (try go_wp2_with fail); refine hK.out _ _ (⟨kp g1 X1 _, kp g1 X2 _, kp g2 Y1 _, kp g2 Y2 _⟩) ?_; clear hK K; (try simp only [Act.put, List.setIfInBounds_toArray, List.set_cons_zero, List.set_cons_succ])))
              refine ord_nil (NoPanic.normal ?_)
              have hb4 := hbel.alloc hz (.cells #[.int .i64 q1, .int .i64 q2] 60)
              have hown2 := (hown.drew.alloc (.cells #[.int .i64 q1, .int .i64 q2] 60))
              go_wp2_with fail
              go_quiet (fail)
              go_wp2_with fail
              go_roundw
              case rel => exact ⟨acc, _, _, _, _, _, m1, _, _, rfl, rfl, HDA.out, HDB.out.tail', by omega, hown2, HST.out, (bdr hb4 _)⟩
              case measure => simp [slN]
        · have e1 : max p1 q1 = p1 := by omega
          rcases Int.lt_trichotomy p2 q2 with h2 | h2 | h2
          · have e2 : min p2 q2 = p2 := by omega
            by_cases h3 : p1 ≤ p2
            · have HST := HL h2
              rw [e1, e2, if_pos h3] at HST
              clear HL HR e1 e2
              go_wp2_with fail
              refine wp_region_noPanic ?_
              refine region_ord (S := fun w' => w'.cell? ⟨b1, o1, none⟩ = some (.int .i64 p1) ∧ w'.cell? ⟨b1, o1 + 1, none⟩ = some (.int .i64 p2) ∧ w'.cell? ⟨b2, o2, none⟩ = some (.int .i64 q1) ∧ w'.cell? ⟨b2, o2 + 1, none⟩ = some (.int .i64 q2)) [0, 1, 2, 3, 4, 5, 6, 7, 8, 9, 10, 11, 12, 13, 14, 15, 16, 17, 18, 19, 20] (by kernel_rfl) (by decide +kernel) (fun _ _ _ _ _ h => h) (⟨X1, X2, Y1, Y2⟩) (fun _ => ?_)
              repeat (first
                | (refine ord_skip rfl rfl rfl ?_; (try simp only [Act.put, List.setIfInBounds_toArray, List.set_cons_zero, List.set_cons_succ]))
                | (refine' ord_light (v := _) rfl rfl rfl (fun w' hSw => ?_) ?_; rotate_left; (focus ((try dsimp only at hSw); go_simp <;> (with_reducible rfl))); (try simp only [Act.put, List.setIfInBounds_toArray, List.set_cons_zero, List.set_cons_succ]))
                | (refine ord_heavy rfl rfl (fun K hK => ?_); go_simp; (try go_wp2_with fail); refine hK.out _ _ (⟨kp g1 X1 _, kp g1 X2 _, kp g2 Y1 _, kp g2 Y2 _⟩) ?_; clear hK K; (try simp only [Act.put, List.setIfInBounds_toArray, List.set_cons_zero, List.set_cons_succ])))
              refine ord_nil (NoPanic.normal ?_)
              have hown1 := (hown.drew.alloc (.cells #[.int .i64 p1, .int .i64 p2] 60)).alloc (.cells #[.int .i64 p1, .int .i64 p2] 60)
              have hb3 := (hbel.drew.alloc hz (.cells #[.int .i64 p1, .int .i64 p2] 60)).alloc (by simp; omega) (.cells #[.int .i64 p1, .int .i64 p2] 60)
              go_wp2_with (at_builtin; refine wpList_append_ds rfl (.tmp 45) (.tmp 47) 24 60 rfl Tryd.underlying24 (w.heap.size + 3) i0 hi hz0 hz1 hz2 _ _ rfl hown1 _ 1 1 [(p1, p2)] rfl (Ds.one _ _ _ _ _ (by simp)) (by omega) (by simp; omega) ?_)
              intro v2 w2 hown2 hgr2
              have hb4 := hb3.grown hgr2 (by simp; omega) (fun b hb => (hown.lt b hb).1)
              obtain ⟨k0, k1, k2, k3, hz', hbw'⟩ := box3 hb4
              have X2' := (hbw'.cell (p := ⟨b1, _, none⟩) hb1).trans x2
              have Y2' := (hbw'.cell (p := ⟨b2, _, none⟩) hb2).trans y2
              clear hgr2 hown1 hown hbel hb3 c0 c1 c2 f2 X1 X2 Y1 Y2 x1 x2 y1 y2
              go_wp2_with fail
              go_quiet (fail)
              go_wp2_with fail
              go_roundw
              case rel => exact ⟨acc ++ [(p1, p2)], _, _, _, _, n1, _, _, _, rfl, rfl, HDA.out.tail', HDB.out, by simp; omega, hown2, HST.out, (bdr hb4 _)⟩
              case measure => simp [slN]
            · have HST := HL h2
              rw [e1, e2, if_neg h3] at HST
              clear HL HR e1 e2
              go_wp2_with fail
              refine wp_region_noPanic ?_
              refine region_ord (S := fun w' => w'.cell? ⟨b1, o1, none⟩ = some (.int .i64 p1) ∧ w'.cell? ⟨b1, o1 + 1, none⟩ = some (.int .i64 p2) ∧ w'.cell? ⟨b2, o2, none⟩ = some (.int .i64 q1) ∧ w'.cell? ⟨b2, o2 + 1, none⟩ = some (.int .i64 q2)) [0, 1, 2, 3, 4, 5, 6, 7, 8, 9, 10, 11, 12, 13, 14, 15, 16, 17, 18, 19, 20] (by kernel_rfl) (by decide +kernel) (fun _ _ _ _ _ h => h) (⟨X1, X2, Y1, Y2⟩) (fun _ => ?_)
              repeat (first
                | (refine ord_skip rfl rfl rfl ?_; (try simp only [Act.put, List.setIfInBounds_toArray, List.set_cons_zero, List.set_cons_succ]))
                | (refine' ord_light (v := _) rfl rfl rfl (fun w' hSw => ?_) ?_; rotate_left; (focus ((try dsimp only at hSw); go_simp <;> (with_reducible rfl))); (try simp only [Act.put, List.setIfInBounds_toArray, List.set_cons_zero, List.set_cons_succ]))
                | (refine ord_heavy rfl rfl (fun K hK => ?_); go_simp; (try go_wp2_with fail); refine hK.out _ _ (⟨kp g1 X1 _, kp g1 X2 _, kp g2 Y1 _, kp g2 Y2 _⟩) ?_; clear hK K; (try simp only [Act.put, List.setIfInBounds_toArray, List.set_cons_zero, List.set_cons_succ])))
              refine ord_nil (NoPanic.normal ?_)
              have hb4 := hbel.alloc hz (.cells #[.int .i64 p1, .int .i64 p2] 60)
              have hown2 := (hown.drew.alloc (.cells #[.int .i64 p1, .int .i64 p2] 60))
              go_wp2_with fail
              go_quiet (fail)
              go_wp2_with fail
              go_roundw
              case rel => exact ⟨acc, _, _, _, _, n1, _, _, _, rfl, rfl, HDA.out.tail', HDB.out, by omega, hown2, HST.out, (bdr hb4 _)⟩
              case measure => simp [slN]
          · subst h2
            have e2 : min p2 p2 = p2 := by omega
            by_cases h3 : p1 ≤ p2
            · have HST := HR (Int.lt_irrefl _)
              rw [e1, e2, if_pos h3] at HST
              clear HL HR e1 e2
              go_wp2_with fail
              refine wp_region_noPanic ?_
              refine region_ord (S := fun w' => w'.cell? ⟨b1, o1, none⟩ = some (.int .i64 p1) ∧ w'.cell? ⟨b1, o1 + 1, none⟩ = some (.int .i64 p2) ∧ w'.cell? ⟨b2, o2, none⟩ = some (.int .i64 q1) ∧ w'.cell? ⟨b2, o2 + 1, none⟩ = some (.int .i64 p2)) [0, 1, 2, 3, 4, 5, 6, 7, 8, 9, 10, 11, 12, 13, 14, 15, 16, 17, 18, 19, 20] (by kernel_rfl) (by decide +kernel) (fun _ _ _ _ _ h => h) (⟨X1, X2, Y1, Y2⟩) (fun _ => ?_)
              repeat (first
                | (refine ord_skip rfl rfl rfl ?_; (try simp only [Act.put, List.setIfInBounds_toArray, List.set_cons_zero, List.set_cons_succ]))
                | (refine' ord_light (v := _) rfl rfl rfl (fun w' hSw => ?_) ?_; rotate_left; (focus ((try dsimp only at hSw); go_simp <;> (with_reducible rfl))); (try simp only [Act.put, List.setIfInBounds_toArray, List.set_cons_zero, List.set_cons_succ]))
                | (refine ord_heavy rfl rfl (fun K hK => ?_); go_simp; (try go_wp2_with fail); refine hK.out _ _ (⟨kp g1 X1 _, kp g1 X2 _, kp g2 Y1 _, kp g2 Y2 _⟩) ?_; clear hK K; (try simp only [Act.put, List.setIfInBounds_toArray, List.set_cons_zero, List.set_cons_succ])))
              refine ord_nil (NoPanic.normal ?_)
              have hown1 := (hown.drew.alloc (.cells #[.int .i64 p1, .int .i64 p2] 60)).alloc (.cells #[.int .i64 p1, .int .i64 p2] 60)
              have hb3 := (hbel.drew.alloc hz (.cells #[.int .i64 p1, .int .i64 p2] 60)).alloc (by simp; omega) (.cells #[.int .i64 p1, .int .i64 p2] 60)
              go_wp2_with (at_builtin; refine wpList_append_ds rfl (.tmp 45) (.tmp 47) 24 60 rfl Tryd.underlying24 (w.heap.size + 3) i0 hi hz0 hz1 hz2 _ _ rfl hown1 _ 1 1 [(p1, p2)] rfl (Ds.one _ _ _ _ _ (by simp)) (by omega) (by simp; omega) ?_)
              intro v2 w2 hown2 hgr2
              have hb4 := hb3.grown hgr2 (by simp; omega) (fun b hb => (hown.lt b hb).1)
              obtain ⟨k0, k1, k2, k3, hz', hbw'⟩ := box3 hb4
              have X2' := (hbw'.cell (p := ⟨b1, _, none⟩) hb1).trans x2
              have Y2' := (hbw'.cell (p := ⟨b2, _, none⟩) hb2).trans y2
              clear hgr2 hown1 hown hbel hb3 c0 c1 c2 f2 X1 X2 Y1 Y2 x1 x2 y1 y2
              go_wp2_with fail
              go_quiet (fail)
              go_wp2_with fail
              go_roundw
              case rel => exact ⟨acc ++ [(p1, p2)], _, _, _, _, _, m1, _, _, rfl, rfl, HDA.out, HDB.out.tail', by simp; omega, hown2, HST.out, (bdr hb4 _)⟩
              case measure => simp [slN]
            · have HST := HR (Int.lt_irrefl _)
              rw [e1, e2, if_neg h3] at HST
              clear HL HR e1 e2
              go_wp2_with fail
              refine wp_region_noPanic ?_
              refine region_ord (S := fun w' => w'.cell? ⟨b1, o1, none⟩ = some (.int .i64 p1) ∧ w'.cell? ⟨b1, o1 + 1, none⟩ = some (.int .i64 p2) ∧ w'.cell? ⟨b2, o2, none⟩ = some (.int .i64 q1) ∧ w'.cell? ⟨b2, o2 + 1, none⟩ = some (.int .i64 p2)) [0, 1, 2, 3, 4, 5, 6, 7, 8, 9, 10, 11, 12, 13, 14, 15, 16, 17, 18, 19, 20] (by kernel_rfl) (by decide +kernel) (fun _ _ _ _ _ h => h) (⟨X1, X2, Y1, Y2⟩) (fun _ => ?_)
              repeat (first
                | (refine ord_skip rfl rfl rfl ?_; (try simp only [Act.put, List.setIfInBounds_toArray, List.set_cons_zero, List.set_cons_succ]))
                | (refine' ord_light (v := _) rfl rfl rfl (fun w' hSw => ?_) ?_; rotate_left; (focus ((try dsimp only at hSw); go_simp <;> (with_reducible rfl))); (try simp only [Act.put, List.setIfInBounds_toArray, List.set_cons_zero, List.set_cons_succ]))
                | (refine ord_heavy rfl rfl (fun K hK => ?_); go_simp; (try go_wp2_with fail); refine hK.out _ _ (⟨kp g1 X1 _, kp g1 X2 _, kp g2 Y1 _, kp g2 Y2 _⟩) ?_; clear hK K; (try simp only [Act.put, List.setIfInBounds_toArray, List.set_cons_zero, List.set_cons_succ])))
              refine ord_nil (NoPanic.normal ?_)
              have hb4 := hbel.alloc hz (.cells #[.int .i64 p1, .int .i64 p2] 60)
              have hown2 := (hown.drew.alloc (.cells #[.int .i64 p1, .int .i64 p2] 60))
              go_wp2_with fail
              go_quiet (fail)
              go_wp2_with fail
              go_roundw
              case rel => exact ⟨acc, _, _, _, _, _, m1, _, _, rfl, rfl, HDA.out, HDB.out.tail', by omega, hown2, HST.out, (bdr hb4 _)⟩
              case measure => simp [slN]
          · have e2 : min p2 q2 = q2 := by omega
            by_cases h3 : p1 ≤ q2
            · have HST := HR (by omega)
              rw [e1, e2, if_pos h3] at HST
              clear HL HR e1 e2
              go_wp2_with fail
              refine wp_region_noPanic ?_
              refine region_ord (S := fun w' => w'.cell? ⟨b1, o1, none⟩ = some (.int .i64 p1) ∧ w'.cell? ⟨b1, o1 + 1, none⟩ = some (.int .i64 p2) ∧ w'.cell? ⟨b2, o2, none⟩ = some (.int .i64 q1) ∧ w'.cell? ⟨b2, o2 + 1, none⟩ = some (.int .i64 q2)) [0, 1, 2, 3, 4, 5, 6, 7, 8, 9, 10, 11, 12, 13, 14, 15, 16, 17, 18, 19, 20] (by kernel_rfl) (by decide +kernel) (fun _ _ _ _ _ h => h) (⟨X1, X2, Y1, Y2⟩) (fun _ => ?_)
              repeat (first
                | (refine ord_skip rfl rfl rfl ?_; (try simp only [Act.put, List.setIfInBounds_toArray, List.set_cons_zero, List.set_cons_succ]))
                | (refine' ord_light (v := _) rfl rfl rfl (fun w' hSw => ?_) ?_; rotate_left; (focus ((try dsimp only at hSw); go_simp <;> (with_reducible rfl))); (try simp only [Act.put, List.setIfInBounds_toArray, List.set_cons_zero, List.set_cons_succ]))
                | (refine ord_heavy rfl rfl (fun K hK => ?_); go_simp; (try go_wp2_with fail); refine hK.out _ _ (⟨kp g1 X1 _, kp g1 X2 _, kp g2 Y1 _, kp g2 Y2 _⟩) ?_; clear hK K; (try simp only [Act.put, List.setIfInBounds_toArray, List.set_cons_zero, List.set_cons_succ])))
              refine ord_nil (NoPanic.normal ?_)
              have hown1 := (hown.drew.alloc (.cells #[.int .i64 p1, .int .i64 q2] 60)).alloc (.cells #[.int .i64 p1, .int .i64 q2] 60)
              have hb3 := (hbel.drew.alloc hz (.cells #[.int .i64 p1, .int .i64 q2] 60)).alloc (by simp; omega) (.cells #[.int .i64 p1, .int .i64 q2] 60)
              go_wp2_with (at_builtin; refine wpList_append_ds rfl (.tmp 45) (.tmp 47) 24 60 rfl Tryd.underlying24 (w.heap.size + 3) i0 hi hz0 hz1 hz2 _ _ rfl hown1 _ 1 1 [(p1, q2)] rfl (Ds.one _ _ _ _ _ (by simp)) (by omega) (by simp; omega) ?_)
              intro v2 w2 hown2 hgr2
              have hb4 := hb3.grown hgr2 (by simp; omega) (fun b hb => (hown.lt b hb).1)
              obtain ⟨k0, k1, k2, k3, hz', hbw'⟩ := box3 hb4
              have X2' := (hbw'.cell (p := ⟨b1, _, none⟩) hb1).trans x2
              have Y2' := (hbw'.cell (p := ⟨b2, _, none⟩) hb2).trans y2
              clear hgr2 hown1 hown hbel hb3 c0 c1 c2 f2 X1 X2 Y1 Y2 x1 x2 y1 y2
              go_wp2_with fail
              go_quiet (fail)
              go_wp2_with fail
              go_roundw
              case rel => exact ⟨acc ++ [(p1, q2)], _, _, _, _, _, m1, _, _, rfl, rfl, HDA.out, HDB.out.tail', by simp; omega, hown2, HST.out, (bdr hb4 _)⟩
              case measure => simp [slN]
            · have HST := HR (by omega)
              rw [e1, e2, if_neg h3] at HST
              clear HL HR e1 e2
              go_wp2_with fail
              refine wp_region_noPanic ?_
              refine region_ord (S := fun w' => w'.cell? ⟨b1, o1, none⟩ = some (.int .i64 p1) ∧ w'.cell? ⟨b1, o1 + 1, none⟩ = some (.int .i64 p2) ∧ w'.cell? ⟨b2, o2, none⟩ = some (.int .i64 q1) ∧ w'.cell? ⟨b2, o2 + 1, none⟩ = some (.int .i64 q2)) [0, 1, 2, 3, 4, 5, 6, 7, 8, 9, 10, 11, 12, 13, 14, 15, 16, 17, 18, 19, 20] (by kernel_rfl) (by decide +kernel) (fun _ _ _ _ _ h => h) (⟨X1, X2, Y1, Y2⟩) (fun _ => ?_)
              repeat (first
                | (refine ord_skip rfl rfl rfl ?_; (try simp only [Act.put, List.setIfInBounds_toArray, List.set_cons_zero, List.set_cons_succ]))
                | (refine' ord_light (v := _) rfl rfl rfl (fun w' hSw => ?_) ?_; rotate_left; (focus ((try dsimp only at hSw); go_simp <;> (with_reducible rfl))); (try simp only [Act.put, List.setIfInBounds_toArray, List.set_cons_zero, List.set_cons_succ]))
                | (refine ord_heavy rfl rfl (fun K hK => ?_); go_simp; (try go_wp2_with fail); refine hK.out _ _ (⟨kp g1 X1 _, kp g1 X2 _, kp g2 Y1 _, kp g2 Y2 _⟩) ?_; clear hK K; (try simp only [Act.put, List.setIfInBounds_toArray, List.set_cons_zero, List.set_cons_succ])))
              refine ord_nil (NoPanic.normal ?_)
              have hb4 := hbel.alloc hz (.cells #[.int .i64 p1, .int .i64 q2] 60)
              have hown2 := (hown.drew.alloc (.cells #[.int .i64 p1, .int .i64 q2] 60))
              go_wp2_with fail
              go_quiet (fail)
              go_wp2_with fail
              go_roundw
              case rel => exact ⟨acc, _, _, _, _, _, m1, _, _, rfl, rfl, HDA.out, HDB.out.tail', by omega, hown2, HST.out, (bdr hb4 _)⟩
              case measure => simp [slN]
end Go.Proofs.YtgbonpmakahibaaDoor.Dy
