/- Contracts: the roles of all literals, in the program and in the law. -/
import Derived.Test.YtadomogbakcokaaGreatDoorCwK
import Derived.Test.YtadomogbakcokaaGreatDoorCwE
import Derived.Test.YtadomogbakcokaaGreatDoorRei
namespace Go.Proofs.YtadomogbakcokaaGreatDoor
open Go.RowKit Go.PlainAid
set_option linter.unusedVariables false
set_option linter.unusedSimpArgs false
set_option maxHeartbeats 4000000
set_option maxRecDepth 20000

theorem at1_set {W : World} {k : Nat} {x u : Value} {T : TypeId} (h : At1T W k x T) : At1T (W.setCell ⟨k, 0, none⟩ u) k u T := by
  show (W.heap.modify k _)[k]? = _
  rw [Array.getElem?_modify, if_pos rfl, h]; rfl
def menP (l : List Cu) (j : Nat) : List Nat := menC (l.take j)
theorem menP_succ {l : List Cu} {j : Nat} {x : Cu} (h : l[j]? = some x) : menP l (j + 1) = orL (orL (menP l j) x.1) x.2 := by
  unfold menP menC
  rw [take_snocV h, List.foldl_append]; rfl
def menQ (l : List Mc) (j : Nat) : Nat := menM (l.take j)
theorem menQ_succ {l : List Mc} {j : Nat} {x : Mc} (h : l[j]? = some x) : menQ l (j + 1) = menQ l j ||| (x.1 ||| x.2) := by
  unfold menQ menM
  rw [take_snocV h, List.foldl_append]; rfl
theorem mentioned_any (a : Option Addr) (n cap : Nat) (l : List Mc) (w : World) (h : Ms w a n cap l) :
    Calls Tryz.prog 49 #[.slice a n cap] w fun e w' => e = .returned (.int .u64 (menM l : Nat)) ∧ Below w.heap.size w w' := by
  have HL := Lib.hid h.len
  have HM := Lib.hid h
  obtain ⟨hnc, hcm⟩ := h.caps
  have HLT : Hid (∀ j, menQ l j < 18446744073709551616) := fun j => menM_lt (fun c hc => h.2 c (List.mem_of_mem_take hc))
  clear h
  go_enter Tryz.func49, Tryz.ntmps49
  go_wp2_with fail
  go_loopw [3, 8] (fun v3 v8 wr => ∃ j : Nat, j ≤ n ∧ v8 = .int .i64 j ∧ v3 = .int .u64 (menQ l j : Nat) ∧ Below w.heap.size w wr) (fun _ v _ => n - (intOf v).toNat)
  case atStart => exact ⟨0, Nat.zero_le _, rfl, rfl, Below.refl _ _⟩
  case round =>
    obtain ⟨j, hj, rfl, rfl, hB⟩ := hrel
    have hzr := hB.size
    by_cases hjn : j < n
    · obtain ⟨⟨m1, m2⟩, hx⟩ : ∃ x, l[j]? = some x := ⟨_, List.getElem?_eq_getElem (by rw [HL.out]; exact hjn)⟩
      obtain ⟨bb, oo, rfl, hbl, x0, x1, hxo⟩ := (HM.out.below hB).at hx
      have hj0 : (0 : Int) ≤ (j : Int) := Int.natCast_nonneg _
      have hj1 : (j : Int) < (n : Int) := by omega
      have HN := Lib.hid (menQ_succ hx)
      have h0 := HLT.out j
      dsimp only at x0 x1
      have e1 := u64_or_nat m1 m2 hxo.1 hxo.2
      have e2 := u64_or_nat (menQ l j) (m1 ||| m2) h0 (lor_lt hxo.1 hxo.2)
      have HE : Hid (menQ l j ||| (m1 ||| m2) = menQ l (j + 1)) := HN.out.symm
      generalize menQ l j = o at e2 HE
      generalize m1 ||| m2 = p at e1 e2 HE
      generalize o ||| p = q at e2 HE
      clear hx hxo h0 HN
      go_wp2_with fail
      go_roundw
      case rel => exact ⟨j + 1, by omega, by go_num, by rw [HE.out], hB.alloc hzr _⟩
      case measure => simp [intOf]; omega
    · have hjn' : j = n := by omega
      subst hjn'
      have HE : Hid (menQ l j = menM l) := by show _ = _; unfold menQ; rw [List.take_of_length_le (by rw [HL.out]; omega)]
      generalize menQ l j = o at HE ⊢
      go_wp2_with fail
      go_ret
      exact ⟨by rw [← HE.out]; rfl, hB⟩
theorem Mentioned_any (a : Option Addr) (n cap : Nat) (l : List Cu) (w : World) (h : Cs w a n cap l) :
    Calls Tryz.prog 46 #[.slice a n cap] w (SetPost w (menC l)) := by
  have HL := Lib.hid h.len
  obtain ⟨hnc, hcm⟩ := h.caps
  obtain ⟨W1, hW1⟩ : ∃ W1, (w.alloc (.cells #[.slice none 0 0] 32)).alloc (.cells #[.slice none 0 0] 32) = W1 := ⟨_, rfl⟩
  have hA2 : At1T W1 w.heap.size (.slice none 0 0) 32 := by rw [← hW1]; exact (At1T.new w _ _).below ((Below.refl _ _).alloc (Nat.le_refl _) _)
  have hA3 : At1T W1 (w.heap.size + 1) (.slice none 0 0) 32 := by
    rw [← hW1]
    have := At1T.new (w.alloc (.cells #[.slice none 0 0] 32)) (.slice none 0 0) 32
    rwa [World.size_alloc] at this
  have hBW : Below w.heap.size w W1 := by rw [← hW1]; exact ((Below.refl _ _).alloc (Nat.le_refl _) _).alloc (by simp) _
  have HM := Lib.hid h
  have HBW := Lib.hid hBW
  have HA2 := Lib.hid hA2
  have HA3 := Lib.hid hA3
  have hsz : w.heap.size + 2 = W1.heap.size := by rw [← hW1]; simp
  have HSZ := Lib.hid hsz
  have HW1 := Lib.hid hW1
  obtain ⟨g2, eg2⟩ : ∃ g2, w.heap.size = g2 := ⟨_, rfl⟩
  have HG2 := Lib.hid eg2
  clear h hW1 hA2 hA3 hBW hsz eg2
  go_enter Tryz.func46, Tryz.ntmps46
  go_upto_region 3 with fail
  rw [HW1.out, HG2.out]
  clear HW1
  rw [HG2.out] at HA2 HA3 HSZ
  go_loopw [8] (fun v8 wr => ∃ (j : Nat) (a3 : Option Addr) (n3 c3 : Nat), j ≤ n ∧ v8 = .int .i64 j ∧ At1T wr (g2 + 1) (.slice a3 n3 c3) 32 ∧ At1T wr g2 (.slice none 0 0) 32 ∧ Bs wr a3 n3 c3 (menP l j) ∧ Below w.heap.size w wr) (fun v _ => n - (intOf v).toNat)
  case atStart => exact ⟨0, none, 0, 0, Nat.zero_le _, rfl, HA3.out, HA2.out, Bs.nil _, HBW.out⟩
  case round =>
    obtain ⟨j, a3, n3, c3, hj, rfl, hA3, hA2, hs, hB⟩ := hrel
    have hzr := hB.size
    by_cases hjn : j < n
    · obtain ⟨x, hx⟩ : ∃ x, l[j]? = some x := ⟨_, List.getElem?_eq_getElem (by rw [HL.out]; exact hjn)⟩
      obtain ⟨bb, oo, a', n', c', b', m', d', ea, hbl, y0, y1, hcb⟩ := (HM.out.below hB).at hx
      obtain ⟨hcb1, hcb2⟩ := hcb
      have hlt3 := hA3.lt
      subst ea
      have hj0 : (0 : Int) ≤ (j : Int) := Int.natCast_nonneg _
      have hj1 : (j : Int) < (n : Int) := by omega
      have HN : Hid (orL (orL (menP l j) x.1) x.2 = menP l (j + 1)) := (menP_succ hx).symm
      clear hx
      go_upto_region 5 with fail
      obtain ⟨W5, hW5⟩ : ∃ W5, wr.alloc (.cells #[.slice a' n' c', .slice b' m' d'] 34) = W5 := ⟨_, rfl⟩
      have hA5 : At2T W5 wr.heap.size (.slice a' n' c') (.slice b' m' d') 34 := by rw [← hW5]; exact At2T.new _ _ _ _
      have hbx : Below wr.heap.size wr W5 := by rw [← hW5]; exact (Below.refl _ _).alloc (Nat.le_refl _) _
      rw [hW5]
      have hx5 := hbx.trans (((Below.refl W5.heap.size W5).drew).mono hbx.size)
      replace hA3 := hA3.below hx5
      replace hA2 := hA2.below hx5
      replace hs := hs.below hx5
      replace hcb1 := hcb1.below hx5
      replace hcb2 := hcb2.below hx5
      replace hB := hB.trans (hx5.mono hzr)
      replace hA5 := hA5.below (Below.refl W5.heap.size W5).drew
      have hg5 : wr.heap.size ≠ g2 + 1 := fun e => by omega
      clear hW5 hbx hx5 y0 y1 hlt3
      generalize wr.heap.size = g5 at hA5 hg5 ⊢
      have HG5 := Lib.hid hg5
      have q0 := hA5.at.1
      have q1 := hA5.at.2.1
      have q3 := hA3.cell
      go_wp2_with fail
      refine wp_region_noPanic ?_
      refine R3.region_ord (S := fun w' => w'.cell? ⟨g5, 0, none⟩ = some (.slice a' n' c') ∧ w'.cell? ⟨g5, 1, none⟩ = some (.slice b' m' d')) [1, 2, 4, 5, 0, 3, 6, 7] (by kernel_rfl) (by decide +kernel) (fun _ _ _ _ _ h => h) (⟨q0, q1⟩) (fun _ => ?_)
      refine' R3.ord_light (v := _) rfl rfl rfl (fun w' hSw => ?_) ?_; rotate_left; (focus ((try dsimp only at hSw); go_simp <;> (with_reducible rfl))); (try simp only [Act.put, List.setIfInBounds_toArray, List.set_cons_zero, List.set_cons_succ])
      refine' R3.ord_light (v := _) rfl rfl rfl (fun w' hSw => ?_) ?_; rotate_left; (focus ((try dsimp only at hSw); go_simp <;> (with_reducible rfl))); (try simp only [Act.put, List.setIfInBounds_toArray, List.set_cons_zero, List.set_cons_succ])
      refine' R3.ord_light (v := _) rfl rfl rfl (fun w' hSw => ?_) ?_; rotate_left; (focus ((try dsimp only at hSw); go_simp <;> (with_reducible rfl))); (try simp only [Act.put, List.setIfInBounds_toArray, List.set_cons_zero, List.set_cons_succ])
      refine' R3.ord_light (v := _) rfl rfl rfl (fun w' hSw => ?_) ?_; rotate_left; (focus ((try dsimp only at hSw); go_simp <;> (with_reducible rfl))); (try simp only [Act.put, List.setIfInBounds_toArray, List.set_cons_zero, List.set_cons_succ])
      refine R3.ord_heavy rfl rfl (fun K hK => ?_); go_simp; (try go_wp2_with fail); refine hK.out _ _ (⟨q0, q1⟩) ?_; clear hK K; (try simp only [Act.put, List.setIfInBounds_toArray, List.set_cons_zero, List.set_cons_succ])
      refine R3.ord_heavy rfl rfl (fun K hK => ?_); go_simp
      go_at_call 71; (with_reducible refine (or_any _ _ _ _ _ _ _ _ _ hs hcb1).mono ?_); rintro e w6 ⟨a6, n6, c6, rfl, hs6, hb⟩
      have hA5 := hA5.below hb
      have hA3 := hA3.below hb
      have hA2 := hA2.below hb
      have hcb2 := hcb2.below hb
      have hB := hB.trans (hb.mono hB.size)
      clear q0 q1 q3 hs hb hcb1
      (try go_wp2_with fail); refine hK.out _ _ (⟨hA5.at.1, hA5.at.2.1⟩) ?_; clear hK K; (try simp only [Act.put, List.setIfInBounds_toArray, List.set_cons_zero, List.set_cons_succ])
      refine R3.ord_heavy rfl rfl (fun K hK => ?_); go_simp
      go_at_call 71; (with_reducible refine (or_any _ _ _ _ _ _ _ _ _ hs6 hcb2).mono ?_); rintro e w7 ⟨a7, n7, c7, rfl, hs7, hb⟩
      have hA5 := hA5.below hb
      have hA3 := hA3.below hb
      have hA2 := hA2.below hb
      have hB := hB.trans (hb.mono hB.size)
      clear hs6 hb hcb2
      (try go_wp2_with fail); refine hK.out _ _ (⟨hA5.at.1, hA5.at.2.1⟩) ?_; clear hK K; (try simp only [Act.put, List.setIfInBounds_toArray, List.set_cons_zero, List.set_cons_succ])
      have q3 := hA3.cell
      have q4 := hA3.frz 0
      have hA5' : At2T (w7.setCell ⟨g2 + 1, 0, none⟩ (.slice a7 n7 c7)) g5 (.slice a' n' c') (.slice b' m' d') 34 := (Below.heap_setCell _ _ _ g5 HG5.out).trans hA5
      refine R3.ord_heavy rfl rfl (fun K hK => ?_); go_simp; (try go_wp2_with fail); refine hK.out _ _ (⟨hA5'.at.1, hA5'.at.2.1⟩) ?_; clear hK K; (try simp only [Act.put, List.setIfInBounds_toArray, List.set_cons_zero, List.set_cons_succ])
      refine R3.ord_nil (NoPanic.normal ?_)
      clear q3 q4 hA5 hA5'
      have hF : Below w.heap.size w (w7.setCell ⟨g2 + 1, 0, none⟩ (.slice a7 n7 c7)) := hB.setCell (p := ⟨g2 + 1, 0, none⟩) (by have := HG2.out; show _ ≤ g2 + 1; omega) _
      have hs8 : Bs (w7.setCell ⟨g2 + 1, 0, none⟩ (.slice a7 n7 c7)) a7 n7 c7 (menP l (j + 1)) := by
        rw [← HN.out]; exact hs7.put hA3 (by decide) 0 _
      have h3 : At1T (w7.setCell ⟨g2 + 1, 0, none⟩ (.slice a7 n7 c7)) (g2 + 1) (.slice a7 n7 c7) 32 := at1_set hA3
      have h2 : At1T (w7.setCell ⟨g2 + 1, 0, none⟩ (.slice a7 n7 c7)) g2 (.slice none 0 0) 32 := (Below.heap_setCell _ _ _ g2 (by show g2 ≠ g2 + 1; omega)).trans hA2
      have HF := Lib.hid hF
      have HS8 := Lib.hid hs8
      have H3 := Lib.hid h3
      have H2 := Lib.hid h2
      clear hF hs8 h3 h2 hs7 hA3 hA2 hB
      go_wp2_with fail
      go_roundw
      case rel => exact ⟨j + 1, a7, n7, c7, by omega, by go_num, H3.out, H2.out, HS8.out, HF.out⟩
      case measure => simp [intOf]; omega
    · have hjn' : j = n := by omega
      subst hjn'
      have hE : menP l j = menC l := by unfold menP; rw [List.take_of_length_le (by rw [HL.out]; omega)]
      rw [hE] at hs
      have q0 := hA3.cell
      have q1 := hA2.cell
      have q2 := hA2.frz 0
      have HS := Lib.hid hs
      have HB := Lib.hid hB
      have HA := Lib.hid hA2
      clear hE hs hB hA2 hA3
      go_wp2_with fail
      have cs0 := set_eq (u := .slice a3 n3 c3) HA.out.cell
      refine bodyPost_ret (v := .agg #[.slice a3 n3 c3]) (by simp [results, Tryz.results46, go_sem, cs0]) rfl ?_
      exact ⟨_, _, _, rfl, HS.out.put HA.out (by decide) 0 _, HB.out.setCell (p := ⟨g2, 0, none⟩) (by have := HG2.out; show _ ≤ g2; omega) _⟩
end Go.Proofs.YtadomogbakcokaaGreatDoor
