/- Contract of the reference: Split. -/
import Derived.Test.YtadomogbakcokaaGreatDoorCvN
namespace Go.Proofs.YtadomogbakcokaaGreatDoor
open Go.RowKit Go.PlainAid
set_option linter.unusedVariables false
set_option linter.unusedSimpArgs false
set_option maxHeartbeats 4000000

def RSplitPost (w : World) (c : Mc) (l : List Mc) (e : Ending) (w' : World) : Prop :=
  (match splitM c l with
    | some got => ∃ v, e = .returned (.tuple #[v, .int .i64 0]) ∧ Mo w' w.heap.size v got ∧ got.length ≤ 2000
    | none => e = .returned (.tuple #[.slice none 0 0, .int .i64 3])) ∧ Below w.heap.size w w'
theorem splitGoM_cons (out : List Mc) (b : Mc) (l : List Mc) : splitGoM out (b :: l) = if 2000 < (out.flatMap fun x => minusM x b).length then none else splitGoM (out.flatMap fun x => minusM x b) l := rfl
theorem drop_atM {α : Type} {l : List α} {j : Nat} {p : α} (h : l[j]? = some p) : l.drop j = p :: l.drop (j + 1) := by
  obtain ⟨h1, h2⟩ := List.getElem?_eq_some_iff.1 h
  rw [List.drop_eq_getElem_cons h1, h2]
theorem boxM {w wr : World} {x y : Value} {T : TypeId} (h : Below (w.heap.size + 1) (w.alloc (.cells #[x, y] T)) wr) : wr.cell? ⟨w.heap.size, 0, none⟩ = some x ∧ wr.cell? ⟨w.heap.size, 1, none⟩ = some y ∧ w.heap.size < wr.heap.size ∧ Below w.heap.size w wr := boxC (h.mono (by simp))
set_option maxRecDepth 20000 in
theorem rsplitC_any (c : Mc) (hc : McOk c) (al : Option Addr) (nl cl : Nat) (l : List Mc) (w : World) (hl : Ms w al nl cl l) :
    Calls Tryz.prog 50 #[.agg #[.int .u64 (c.1 : Nat), .int .u64 (c.2 : Nat)], .slice al nl cl] w (RSplitPost w c l) := by
  have HE0 := Lib.hid (fun w' => rempty_any c hc w')
  obtain ⟨hnc, hcm⟩ := hl.caps
  have HL := Lib.hid hl
  have HLL := Lib.hid hl.len
  have HM := Lib.hid (fun (x y : Mc) (hx : McOk x) (hy : McOk y) (w : World) => rminusC_any x y hx hy w)
  clear hl
  obtain ⟨first, hf⟩ : ∃ first : List Mc, first = if emptyM c then [] else [c] := ⟨_, rfl⟩
  have HS : Hid (splitM c l = splitGoM first l) := by show _ = _; rw [hf]; rfl
  have hf1 : first.length ≤ 1 := by rw [hf]; split <;> simp
  have HOK := Lib.hid hc
  obtain ⟨C, hC⟩ : ∃ C, C = c := ⟨_, rfl⟩
  have HCC : Hid (C = c) := hC
  have hb0 := Lib.hid ((Below.refl w.heap.size w).alloc (Nat.le_refl _) (.cells #[.int .u64 (c.1 : Nat), .int .u64 (c.2 : Nat)] 28))
  obtain ⟨c1, c2⟩ := c
  dsimp only at HE0 hb0 ⊢
  rw [← hC] at HS hf ⊢
  clear hc
  cases he : emptyM C
  all_goals
    have he2 := he
    rw [hC] at he2
    rw [he2] at HE0
    rw [he] at hf
    have HF : Hid (first = _) := hf
    clear he he2 hf
    clear hC
    go_enter Tryz.func50, Tryz.ntmps50
    go_wp2_with (first
      | (go_at_call 22; refine (HE0.out _).mono ?_; rintro e w1 ⟨rfl, hb1⟩; obtain ⟨c0, c1', hz, hB⟩ := boxC hb1)
      | (at_builtin; refine wpList_append_mo rfl (.tmp 15) (.tmp 17) rfl w.heap.size (.slice none 0 0) [] rfl (Mo.nil _ _) _ 1 1 [(c1, c2)] rfl (Ms.one w1 (c1, c2) HOK.out _ rfl) (by decide) (by simp; omega) ?_; intro v2 w2 hown2 hg2; have hB2 := (hB.alloc hB.size (.cells #[.int .u64 (c1 : Nat), .int .u64 (c2 : Nat)] 28)).grown hg2 (by simp; omega) (fun k hk => by cases hk)))
  · have hown2 : Mo w2 w.heap.size v2 first := by rw [HF.out, HCC.out]; exact hown2
    have hBw := Lib.hid hB2
    have HO := Lib.hid hown2
    clear hown2 hB2 hB hb1 hg2 c0 c1' hz HF
    go_loopw [6, 21] (fun v6 v21 wr => ∃ (j : Nat) (out : List Mc), j ≤ nl ∧ v21 = .int .i64 j ∧ out.length ≤ 2000 ∧ Hid (Mo wr w.heap.size v6 out) ∧ Hid (splitM C l = splitGoM out (l.drop j)) ∧ Hid (Below w.heap.size w wr)) (fun _ v _ => nl - (intOf v).toNat)
    case atStart => exact ⟨0, first, Nat.zero_le _, rfl, by omega, HO.out, by show _ = _; rw [List.drop_zero]; exact HS.out, hBw.out⟩
    case round =>
      obtain ⟨j, out, hj, rfl, hol, hco, hsp, hB⟩ := hrel
      have hzw := hB.out.size
      obtain ⟨oa, on, oc, rfl, hon, hcs⟩ := hco.out.dn
      have HON := Lib.hid hon
      have hon2 : on ≤ 2000 := by omega
      obtain ⟨hc1, hc2⟩ := hcs.caps
      by_cases hjn : j < nl
      · obtain ⟨y, hy⟩ : ∃ y, l[j]? = some y := ⟨_, List.getElem?_eq_getElem (by rw [HLL.out]; exact hjn)⟩
        obtain ⟨bb, oo, rfl, hbl, x0, x1, hyo⟩ := (HL.out.below hB.out).at hy
        have hdr := drop_atM hy
        have HSP : Hid (splitM C l = if 2000 < (out.flatMap fun x => minusM x y).length then none else splitGoM (out.flatMap fun x => minusM x y) (l.drop (j + 1))) := by
          show _ = _; rw [hsp.out, hdr, splitGoM_cons]
        have HCS := Lib.hid hcs
        have HYO := Lib.hid hyo
        have hj0 : (0 : Int) ≤ (j : Int) := Int.natCast_nonneg _
        have hj1 : (j : Int) < (nl : Int) := by omega
        obtain ⟨wo, rfl⟩ : ∃ wo : World, wo = wr := ⟨_, rfl⟩
        obtain ⟨y1, y2⟩ := y
        dsimp only at x0 x1
        clear hy hdr hcs hyo hsp hon hbl
        go_wp2_with fail
        go_loopw [9, 27] (fun v9 v27 wi => ∃ (i : Nat) (nx : List Mc), i ≤ on ∧ v27 = .int .i64 i ∧ nx.length ≤ 128 * i ∧ Hid (Mo wi (wo.heap.size + 1) v9 nx) ∧ Hid (nx = (out.take i).flatMap fun x => minusM x (y1, y2)) ∧ Hid (Below (wo.heap.size + 1) (wo.alloc (.cells #[.int .u64 (y1 : Nat), .int .u64 (y2 : Nat)] 28)) wi)) (fun _ v _ => on - (intOf v).toNat)
        case atStart => exact ⟨0, [], Nat.zero_le _, rfl, Nat.zero_le _, Mo.nil _ _, rfl, Below.refl _ _⟩
        case round =>
          clear x0 x1 hj0 hj1
          obtain ⟨i, nx, hi, rfl, hnl, hcn, hnx, hBi⟩ := hrel
          obtain ⟨b0, b1, hzi, hBo⟩ := boxM hBi.out
          have hzi' : wo.heap.size + 1 ≤ wr.heap.size := hzi
          have hBwi := Lib.hid (hB.out.trans (hBo.mono hzw))
          by_cases hin : i < on
          · obtain ⟨z, hz⟩ : ∃ z, out[i]? = some z := ⟨_, List.getElem?_eq_getElem (by rw [← HON.out]; exact hin)⟩
            obtain ⟨zb, zo, rfl, hbz, z0, z1, hzo⟩ := (HCS.out.below hBo).at hz
            have hbx := Lib.hid ((Below.refl wr.heap.size wr).alloc (Nat.le_refl _) (.cells #[.int .u64 (z.1 : Nat), .int .u64 (z.2 : Nat)] 28))
            have HCALL := Lib.hid (HM.out z (y1, y2) hzo HYO.out)
            have hi0 : (0 : Int) ≤ (i : Int) := Int.natCast_nonneg _
            have hi1 : (i : Int) < (on : Int) := by omega
            have hml := minusM_len z (y1, y2)
            have HNX : Hid (nx ++ minusM z (y1, y2) = (out.take (i + 1)).flatMap fun x => minusM x (y1, y2)) := by
              show _ = _
              rw [take_snocV hz, List.flatMap_append, hnx.out]; simp
            have hobb : nx.length + (minusM z (y1, y2)).length ≤ 1000000000 := by omega
            have hnl2 : (nx ++ minusM z (y1, y2)).length ≤ 128 * (i + 1) := by rw [List.length_append]; omega
            have HNL := Lib.hid hnl2
            obtain ⟨q, eq⟩ : ∃ q, q = minusM z (y1, y2) := ⟨_, rfl⟩
            rw [← eq] at HCALL HNX hobb HNL
            obtain ⟨z3, z4⟩ := z
            dsimp only at z0 z1 hbx HCALL
            clear hz hzo hnx hbz hnl2 hml eq
            go_wp2_with (first
              | (go_at_call 41; refine (HCALL.out _).mono ?_; rintro e w3 ⟨v3, rfl, hco3, hb3⟩; obtain ⟨a3, n3, c3, rfl, hn3, hcs3⟩ := hco3.dn; have hn3' : nx.length + n3 ≤ 1000000000 := (by rw [hn3]; exact hobb); have HB3 := Lib.hid hb3; have hcn3 := (hcn.out.below hbx.out).below hb3; have hz3 := hb3.size; simp at hz3; obtain ⟨oa3, on3, oc3, rfl, -, -⟩ := hcn3.dn; clear hn3 hco3 hb3)
              | (at_builtin; refine wpList_append_mo rfl (.tmp 31) (.tmp 34) rfl (wo.heap.size + 1) _ nx rfl hcn3 a3 n3 c3 q rfl hcs3 hn3' (by omega) ?_; intro v4 w4 hown4 hg4; have HO4 := Lib.hid hown4; have HB4 := Lib.hid (((hBi.out.trans (hbx.out.mono hzi')).trans (HB3.out.mono (by simp; omega))).grown hg4 (by omega) (fun k hk => (hcn3.lt k hk).1)); clear hown4 hg4))
            go_roundw
            case rel => exact ⟨i + 1, nx ++ q, by omega, by go_num, HNL.out, HO4.out, HNX.out, HB4.out⟩
            case measure => simp [intOf]; omega
          · have hie : i = on := by omega
            have HNX : Hid (nx = out.flatMap fun x => minusM x (y1, y2)) := by
              show _ = _
              rw [hnx.out, List.take_of_length_le (by rw [← HON.out]; omega)]
            rw [← HNX.out] at HSP
            obtain ⟨na, nn, nc, rfl, hnn, hcsn⟩ := hcn.out.dn
            have hnn2 : nn ≤ 1000000000 := by omega
            have HCN := Lib.hid (hcn.out.lower (base' := w.heap.size) (by omega))
            clear hcsn hnx hcn
            by_cases hgt : 2000 < nn
            · have HR : Hid (splitM C l = none) := by
                show _ = _
                rw [HSP.out, if_pos (by rw [← hnn]; exact hgt)]
              clear hnn HSP
              go_wp2_with fail
              go_ret2
              refine ⟨?_, hBwi.out⟩
              rw [HR.out]
              rfl
            · have HR : Hid (splitM C l = splitGoM nx (l.drop (j + 1))) := by
                show _ = _
                rw [HSP.out, if_neg (by rw [← hnn]; exact hgt)]
              have hnx2 : nx.length ≤ 2000 := by omega
              clear hnn HSP
              go_wp2_with fail
              go_roundw
              case rel => exact ⟨j + 1, nx, by omega, by go_num, hnx2, HCN.out, HR.out, hBwi.out⟩
              case measure => simp [intOf]; omega
      · have hje : j = nl := by omega
        have HR : Hid (splitM C l = some out) := by
          show _ = _
          rw [hsp.out, List.drop_of_length_le (by rw [HLL.out]; omega)]; rfl
        clear hsp hcs hon
        go_wp2_with fail
        go_ret2
        refine ⟨?_, hB.out⟩
        rw [HR.out]
        exact ⟨_, rfl, hco.out, hol⟩
  · have HO : Hid (Mo w1 w.heap.size (.slice none 0 0) first) := by show Mo _ _ _ _; rw [HF.out]; exact Mo.nil _ _
    have hBw := Lib.hid hB
    obtain ⟨w2, rfl⟩ : ∃ w2, w2 = w1 := ⟨_, rfl⟩
    clear hB hb1 c0 c1' hz HF
    go_loopw [6, 21] (fun v6 v21 wr => ∃ (j : Nat) (out : List Mc), j ≤ nl ∧ v21 = .int .i64 j ∧ out.length ≤ 2000 ∧ Hid (Mo wr w.heap.size v6 out) ∧ Hid (splitM C l = splitGoM out (l.drop j)) ∧ Hid (Below w.heap.size w wr)) (fun _ v _ => nl - (intOf v).toNat)
    case atStart => exact ⟨0, first, Nat.zero_le _, rfl, by omega, HO.out, by show _ = _; rw [List.drop_zero]; exact HS.out, hBw.out⟩
    case round =>
      obtain ⟨j, out, hj, rfl, hol, hco, hsp, hB⟩ := hrel
      have hzw := hB.out.size
      obtain ⟨oa, on, oc, rfl, hon, hcs⟩ := hco.out.dn
      have HON := Lib.hid hon
      have hon2 : on ≤ 2000 := by omega
      obtain ⟨hc1, hc2⟩ := hcs.caps
      by_cases hjn : j < nl
      · obtain ⟨y, hy⟩ : ∃ y, l[j]? = some y := ⟨_, List.getElem?_eq_getElem (by rw [HLL.out]; exact hjn)⟩
        obtain ⟨bb, oo, rfl, hbl, x0, x1, hyo⟩ := (HL.out.below hB.out).at hy
        have hdr := drop_atM hy
        have HSP : Hid (splitM C l = if 2000 < (out.flatMap fun x => minusM x y).length then none else splitGoM (out.flatMap fun x => minusM x y) (l.drop (j + 1))) := by
          show _ = _; rw [hsp.out, hdr, splitGoM_cons]
        have HCS := Lib.hid hcs
        have HYO := Lib.hid hyo
        have hj0 : (0 : Int) ≤ (j : Int) := Int.natCast_nonneg _
        have hj1 : (j : Int) < (nl : Int) := by omega
        obtain ⟨wo, rfl⟩ : ∃ wo : World, wo = wr := ⟨_, rfl⟩
        obtain ⟨y1, y2⟩ := y
        dsimp only at x0 x1
        clear hy hdr hcs hyo hsp hon hbl
        go_wp2_with fail
        go_loopw [9, 27] (fun v9 v27 wi => ∃ (i : Nat) (nx : List Mc), i ≤ on ∧ v27 = .int .i64 i ∧ nx.length ≤ 128 * i ∧ Hid (Mo wi (wo.heap.size + 1) v9 nx) ∧ Hid (nx = (out.take i).flatMap fun x => minusM x (y1, y2)) ∧ Hid (Below (wo.heap.size + 1) (wo.alloc (.cells #[.int .u64 (y1 : Nat), .int .u64 (y2 : Nat)] 28)) wi)) (fun _ v _ => on - (intOf v).toNat)
        case atStart => exact ⟨0, [], Nat.zero_le _, rfl, Nat.zero_le _, Mo.nil _ _, rfl, Below.refl _ _⟩
        case round =>
          clear x0 x1 hj0 hj1
          obtain ⟨i, nx, hi, rfl, hnl, hcn, hnx, hBi⟩ := hrel
          obtain ⟨b0, b1, hzi, hBo⟩ := boxM hBi.out
          have hzi' : wo.heap.size + 1 ≤ wr.heap.size := hzi
          have hBwi := Lib.hid (hB.out.trans (hBo.mono hzw))
          by_cases hin : i < on
          · obtain ⟨z, hz⟩ : ∃ z, out[i]? = some z := ⟨_, List.getElem?_eq_getElem (by rw [← HON.out]; exact hin)⟩
            obtain ⟨zb, zo, rfl, hbz, z0, z1, hzo⟩ := (HCS.out.below hBo).at hz
            have hbx := Lib.hid ((Below.refl wr.heap.size wr).alloc (Nat.le_refl _) (.cells #[.int .u64 (z.1 : Nat), .int .u64 (z.2 : Nat)] 28))
            have HCALL := Lib.hid (HM.out z (y1, y2) hzo HYO.out)
            have hi0 : (0 : Int) ≤ (i : Int) := Int.natCast_nonneg _
            have hi1 : (i : Int) < (on : Int) := by omega
            have hml := minusM_len z (y1, y2)
            have HNX : Hid (nx ++ minusM z (y1, y2) = (out.take (i + 1)).flatMap fun x => minusM x (y1, y2)) := by
              show _ = _
              rw [take_snocV hz, List.flatMap_append, hnx.out]; simp
            have hobb : nx.length + (minusM z (y1, y2)).length ≤ 1000000000 := by omega
            have hnl2 : (nx ++ minusM z (y1, y2)).length ≤ 128 * (i + 1) := by rw [List.length_append]; omega
            have HNL := Lib.hid hnl2
            obtain ⟨q, eq⟩ : ∃ q, q = minusM z (y1, y2) := ⟨_, rfl⟩
            rw [← eq] at HCALL HNX hobb HNL
            obtain ⟨z3, z4⟩ := z
            dsimp only at z0 z1 hbx HCALL
            clear hz hzo hnx hbz hnl2 hml eq
            go_wp2_with (first
              | (go_at_call 41; refine (HCALL.out _).mono ?_; rintro e w3 ⟨v3, rfl, hco3, hb3⟩; obtain ⟨a3, n3, c3, rfl, hn3, hcs3⟩ := hco3.dn; have hn3' : nx.length + n3 ≤ 1000000000 := (by rw [hn3]; exact hobb); have HB3 := Lib.hid hb3; have hcn3 := (hcn.out.below hbx.out).below hb3; have hz3 := hb3.size; simp at hz3; obtain ⟨oa3, on3, oc3, rfl, -, -⟩ := hcn3.dn; clear hn3 hco3 hb3)
              | (at_builtin; refine wpList_append_mo rfl (.tmp 31) (.tmp 34) rfl (wo.heap.size + 1) _ nx rfl hcn3 a3 n3 c3 q rfl hcs3 hn3' (by omega) ?_; intro v4 w4 hown4 hg4; have HO4 := Lib.hid hown4; have HB4 := Lib.hid (((hBi.out.trans (hbx.out.mono hzi')).trans (HB3.out.mono (by simp; omega))).grown hg4 (by omega) (fun k hk => (hcn3.lt k hk).1)); clear hown4 hg4))
            go_roundw
            case rel => exact ⟨i + 1, nx ++ q, by omega, by go_num, HNL.out, HO4.out, HNX.out, HB4.out⟩
            case measure => simp [intOf]; omega
          · have hie : i = on := by omega
            have HNX : Hid (nx = out.flatMap fun x => minusM x (y1, y2)) := by
              show _ = _
              rw [hnx.out, List.take_of_length_le (by rw [← HON.out]; omega)]
            rw [← HNX.out] at HSP
            obtain ⟨na, nn, nc, rfl, hnn, hcsn⟩ := hcn.out.dn
            have hnn2 : nn ≤ 1000000000 := by omega
            have HCN := Lib.hid (hcn.out.lower (base' := w.heap.size) (by omega))
            clear hcsn hnx hcn
            by_cases hgt : 2000 < nn
            · have HR : Hid (splitM C l = none) := by
                show _ = _
                rw [HSP.out, if_pos (by rw [← hnn]; exact hgt)]
              clear hnn HSP
              go_wp2_with fail
              go_ret2
              refine ⟨?_, hBwi.out⟩
              rw [HR.out]
              rfl
            · have HR : Hid (splitM C l = splitGoM nx (l.drop (j + 1))) := by
                show _ = _
                rw [HSP.out, if_neg (by rw [← hnn]; exact hgt)]
              have hnx2 : nx.length ≤ 2000 := by omega
              clear hnn HSP
              go_wp2_with fail
              go_roundw
              case rel => exact ⟨j + 1, nx, by omega, by go_num, hnx2, HCN.out, HR.out, hBwi.out⟩
              case measure => simp [intOf]; omega
      · have hje : j = nl := by omega
        have HR : Hid (splitM C l = some out) := by
          show _ = _
          rw [hsp.out, List.drop_of_length_le (by rw [HLL.out]; omega)]; rfl
        clear hsp hcs hon
        go_wp2_with fail
        go_ret2
        refine ⟨?_, hB.out⟩
        rw [HR.out]
        exact ⟨_, rfl, hco.out, hol⟩
end Go.Proofs.YtadomogbakcokaaGreatDoor
