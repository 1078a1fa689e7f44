/- Several of the texts below, joined: CuE CuF. -/
import Derived.Test.YtadomogbakcokaaGreatDoorQgn
section
/- Contract: Split. -/
namespace Go.Proofs.YtadomogbakcokaaGreatDoor
open Go.RowKit Go.PlainAid
set_option linter.unusedVariables false
set_option linter.unusedSimpArgs false
set_option maxHeartbeats 4000000

def SplitPost (w : World) (x : Cu) (l : List Cu) (e : Ending) (w' : World) : Prop :=
  (match splitC x l with
    | some got => ∃ v, e = .returned (.tuple #[v, .int .i64 0]) ∧ Co w' w.heap.size v got ∧ got.length ≤ 2000
    | none => e = .returned (.tuple #[.slice none 0 0, .int .i64 3])) ∧ Below w.heap.size w w'
theorem minusC_len (x y : Cu) : (minusC x y).length ≤ 4096 := by
  unfold minusC
  split
  · simp
  · split
    · simp
    · have := fold_len y (orL y.1 y.2) (x, [])
      have := asc_length (asc_or y.1 y.2)
      simp at *; omega
theorem flat_len (y : Cu) : ∀ l : List Cu, (l.flatMap fun x => minusC x y).length ≤ 4096 * l.length
  | [] => by simp
  | x :: l => by
    have := flat_len y l
    have := minusC_len x y
    rw [List.flatMap_cons, List.length_append, List.length_cons]; omega
theorem splitGo_cons (out : List Cu) (b : Cu) (l : List Cu) : splitGo out (b :: l) = if 2000 < (out.flatMap fun x => minusC x b).length then none else splitGo (out.flatMap fun x => minusC x b) l := rfl
theorem drop_at' {α : Type} {l : List α} {j : Nat} {p : α} (h : l[j]? = some p) : l.drop j = p :: l.drop (j + 1) := by
  obtain ⟨h1, h2⟩ := List.getElem?_eq_some_iff.1 h
  rw [List.drop_eq_getElem_cons h1, h2]
theorem take_at' {α : Type} {l : List α} {j : Nat} {p : α} (h : l[j]? = some p) : l.take (j + 1) = l.take j ++ [p] := by
  obtain ⟨h1, h2⟩ := List.getElem?_eq_some_iff.1 h
  rw [List.take_succ_eq_append_getElem h1, h2]

set_option maxRecDepth 20000 in
theorem split_any (a b : Option Addr) (n c m d : Nat) (al : Option Addr) (nl cl : Nat) (x : Cu) (l : List Cu) (w : World) (h : Cb w ⟨a, n, c, b, m, d⟩ x) (hl : Cs w al nl cl l) (hT : Tz w) :
    Calls Tryz.prog 42 #[.agg #[.slice a n c, .slice b m d], .slice al nl cl] w (SplitPost w x l) := by
  have HE0 := Lib.hid (fun w' (hb : Below w.heap.size w w') => emptyC_any a b n c m d x w' (h.below hb))
  have hll := hl.len
  obtain ⟨hnc, hcm⟩ := hl.caps
  have HC := Lib.hid h
  have HL := Lib.hid hl
  have HLL := Lib.hid hll
  have HT := Lib.hid hT
  have HM := Lib.hid (fun (x y : Cu) (a b a' b' : Option Addr) (n c m d n' c' m' d' : Nat) (w : World) (h : Cb w ⟨a, n, c, b, m, d⟩ x) (k : Cb w ⟨a', n', c', b', m', d'⟩ y) (hT : Tz w) => minusC_any a b a' b' n c m d n' c' m' d' x y w h k hT)
  clear h hl hll hT
  obtain ⟨first, hf⟩ : ∃ first : List Cu, first = if emptyC x then [] else [x] := ⟨_, rfl⟩
  have HS : Hid (splitC x l = splitGo first l) := by show _ = _; rw [hf]; rfl
  have hf1 : first.length ≤ 1 := by rw [hf]; split <;> simp
  have hb0 := Lib.hid ((Below.refl w.heap.size w).alloc (Nat.le_refl _) (.cells #[.slice a n c, .slice b m d] 34))
  have HGO : Hid (∀ (P : Ending → World → Prop), (∀ e w', SplitPost w x l e w' → P e w') → ∀ e w', SplitPost w x l e w' → P e w') := fun P h => h
  cases he : emptyC x
  all_goals
    rw [he] at HE0 hf
    have HF : Hid (first = _) := hf
    clear he hf
    go_enter Tryz.func42, Tryz.ntmps42
    go_wp2_with (first
      | (go_at_call 21; refine (HE0.out _ hb0.out).mono ?_; rintro e w1 ⟨rfl, hb1⟩; obtain ⟨c0, c1, hz, hB⟩ := boxC hb1)
      | (at_builtin; refine wpList_append_co rfl (.tmp 15) (.tmp 17) rfl w.heap.size (.slice none 0 0) [] rfl (Co.nil _ _) _ 1 1 [x] rfl (Cs.one w1 _ _ _ _ _ _ x (HC.out.below hB) _ rfl) (by decide) (by simp; omega) ?_; intro v2 w2 hown2 hg2; have hB2 := (hB.alloc hB.size (.cells #[.slice a n c, .slice b m d] 34)).grown hg2 (by simp; omega) (fun k hk => by cases hk)))
  · have hown2 : Co w2 w.heap.size v2 first := by rw [HF.out]; exact hown2
    have hBw := Lib.hid hB2
    have HO := Lib.hid hown2
    clear hown2 hB2 hB hb1 hg2 c0 c1 hz HF
    go_loopw [6, 21] (fun v6 v21 wr => ∃ (j : Nat) (out : List Cu), j ≤ nl ∧ v21 = .int .i64 j ∧ out.length ≤ 2000 ∧ Hid (Co wr w.heap.size v6 out) ∧ Hid (splitC x l = splitGo out (l.drop j)) ∧ Hid (Below w.heap.size w wr)) (fun _ v _ => nl - (intOf v).toNat)
    case atStart => exact ⟨0, first, Nat.zero_le _, rfl, by omega, HO.out, by show _ = _; rw [List.drop_zero]; exact HS.out, hBw.out⟩
    case round =>
      obtain ⟨j, out, hj, rfl, hol, hco, hsp, hB⟩ := hrel
      have hzw := hB.out.size
      obtain ⟨oa, on, oc, rfl, hon, hcs⟩ := hco.out.dn
      have HON := Lib.hid hon
      have hon2 : on ≤ 2000 := by omega
      obtain ⟨hc1, hc2⟩ := hcs.caps
      by_cases hjn : j < nl
      · obtain ⟨y, hy⟩ : ∃ y, l[j]? = some y := ⟨_, List.getElem?_eq_getElem (by rw [HLL.out]; exact hjn)⟩
        obtain ⟨bb, oo, ya, yn, yc, yb, ym, yd, rfl, hbl, x0, x1, hcy⟩ := (HL.out.below hB.out).at hy
        have hdr := drop_at' hy
        have HSP : Hid (splitC x l = if 2000 < (out.flatMap fun x => minusC x y).length then none else splitGo (out.flatMap fun x => minusC x y) (l.drop (j + 1))) := by
          show _ = _; rw [hsp.out, hdr, splitGo_cons]
        have HCS := Lib.hid hcs
        have HCY := Lib.hid hcy
        have hj0 : (0 : Int) ≤ (j : Int) := Int.natCast_nonneg _
        have hj1 : (j : Int) < (nl : Int) := by omega
        have hTr := Lib.hid (HT.out.below hB.out)
        obtain ⟨wo, rfl⟩ : ∃ wo : World, wo = wr := ⟨_, rfl⟩
        clear hy hdr hcs hcy hsp hon hbl
        go_wp2_with fail
        go_loopw [9, 27] (fun v9 v27 wi => ∃ (i : Nat) (nx : List Cu), i ≤ on ∧ v27 = .int .i64 i ∧ nx.length ≤ 4096 * i ∧ Hid (Co wi (wo.heap.size + 1) v9 nx) ∧ Hid (nx = (out.take i).flatMap fun x => minusC x y) ∧ Hid (Below (wo.heap.size + 1) (wo.alloc (.cells #[.slice ya yn yc, .slice yb ym yd] 34)) wi)) (fun _ v _ => on - (intOf v).toNat)
        case atStart => exact ⟨0, [], Nat.zero_le _, rfl, Nat.zero_le _, Co.nil _ _, rfl, Below.refl _ _⟩
        case round =>
          clear x0 x1 hj0 hj1
          obtain ⟨i, nx, hi, rfl, hnl, hcn, hnx, hBi⟩ := hrel
          obtain ⟨b0, b1, hzi, hBo⟩ := boxC (hBi.out.mono (by simp))
          have hzi' : wo.heap.size + 1 ≤ wr.heap.size := hzi
          have hBwi := Lib.hid (hB.out.trans (hBo.mono hzw))
          by_cases hin : i < on
          · obtain ⟨z, hz⟩ : ∃ z, out[i]? = some z := ⟨_, List.getElem?_eq_getElem (by rw [← HON.out]; exact hin)⟩
            obtain ⟨zb, zo, za, zn, zc, zb2, zm, zd, rfl, hbz, z0, z1, hcz⟩ := (HCS.out.below hBo).at hz
            have HZ := Lib.hid hz
            have hbx := Lib.hid ((Below.refl wr.heap.size wr).alloc (Nat.le_refl _) (.cells #[.slice za zn zc, .slice zb2 zm zd] 34))
            have HCALL := Lib.hid (HM.out z y za zb2 ya yb zn zc zm zd yn yc ym yd _ (hcz.below hbx.out) ((HCY.out.below hBo).below hbx.out) ((hTr.out.below hBo).below hbx.out))
            have hi0 : (0 : Int) ≤ (i : Int) := Int.natCast_nonneg _
            have hi1 : (i : Int) < (on : Int) := by omega
            have hml := minusC_len z y
            have HNX : Hid (nx ++ minusC z y = (out.take (i + 1)).flatMap fun x => minusC x y) := by
              show _ = _
              rw [take_at' hz, List.flatMap_append, hnx.out]; simp
            have hobb : nx.length + (minusC z y).length ≤ 1000000000 := by omega
            have hnl2 : (nx ++ minusC z y).length ≤ 4096 * (i + 1) := by rw [List.length_append]; omega
            have HNL := Lib.hid hnl2
            clear hz hcz hnx hbz hnl2
            go_wp2_with (first
              | (go_at_call 40; refine HCALL.out.mono ?_; rintro e w3 ⟨v3, rfl, hco3, hb3⟩; obtain ⟨a3, n3, c3, rfl, hn3, hcs3⟩ := hco3.dn; have hn3' : nx.length + n3 ≤ 1000000000 := (by rw [hn3]; exact hobb); have HB3 := Lib.hid hb3; have hcn3 := (hcn.out.below hbx.out).below hb3; have hz3 := hb3.size; simp at hz3; clear hn3 hco3 hb3)
              | (at_builtin; refine wpList_append_co rfl (.tmp 31) (.tmp 34) rfl (wo.heap.size + 1) _ nx rfl hcn3 (some a3) n3 c3 (minusC z y) rfl hcs3 hn3' (by omega) ?_; intro v4 w4 hown4 hg4; have HO4 := Lib.hid hown4; have HB4 := Lib.hid (((hBi.out.trans (hbx.out.mono hzi')).trans (HB3.out.mono (by simp; omega))).grown hg4 (by omega) (fun k hk => (hcn3.lt k hk).1)); clear hown4 hg4)
              | (at_builtin; refine wpList_append_co rfl (.tmp 31) (.tmp 34) rfl (wo.heap.size + 1) _ nx rfl hcn3 a3 n3 c3 (minusC z y) rfl hcs3 hn3' (by omega) ?_; intro v4 w4 hown4 hg4; have HO4 := Lib.hid hown4; have HB4 := Lib.hid (((hBi.out.trans (hbx.out.mono hzi')).trans (HB3.out.mono (by simp; omega))).grown hg4 (by omega) (fun k hk => (hcn3.lt k hk).1)); clear hown4 hg4))
            go_roundw
            case rel => exact ⟨i + 1, nx ++ minusC z y, by omega, by go_num, HNL.out, HO4.out, HNX.out, HB4.out⟩
            case measure => simp [intOf]; omega
          · have hie : i = on := by omega
            have HNX : Hid (nx = out.flatMap fun x => minusC x y) := by
              show _ = _
              rw [hnx.out, List.take_of_length_le (by rw [← HON.out]; omega)]
            rw [← HNX.out] at HSP
            obtain ⟨na, nn, nc, rfl, hnn, hcsn⟩ := hcn.out.dn
            have hnn2 : nn ≤ 1000000000 := by omega
            have HCN := Lib.hid (hcn.out.lower (base' := w.heap.size) (by omega))
            clear hcsn hnx hcn
            by_cases hgt : 2000 < nn
            · have HR : Hid (splitC x l = none) := by
                show _ = _
                rw [HSP.out, if_pos (by rw [← hnn]; exact hgt)]
              clear hnn HSP
              go_wp2_with fail
              go_ret2
              refine ⟨?_, hBwi.out⟩
              rw [HR.out]
              rfl
            · have HR : Hid (splitC x l = splitGo nx (l.drop (j + 1))) := by
                show _ = _
                rw [HSP.out, if_neg (by rw [← hnn]; exact hgt)]
              have hnx2 : nx.length ≤ 2000 := by omega
              clear hnn HSP
              go_wp2_with fail
              go_roundw
              case rel => exact ⟨j + 1, nx, by omega, by go_num, hnx2, HCN.out, HR.out, hBwi.out⟩
              case measure => simp [intOf]; omega
      · have hje : j = nl := by omega
        have HR : Hid (splitC x l = some out) := by
          show _ = _
          rw [hsp.out, List.drop_of_length_le (by rw [HLL.out]; omega)]; rfl
        clear hsp hcs hon
        go_wp2_with fail
        go_ret2
        refine ⟨?_, hB.out⟩
        rw [HR.out]
        exact ⟨_, rfl, hco.out, hol⟩
  · have HO : Hid (Co w1 w.heap.size (.slice none 0 0) first) := by show Co _ _ _ _; rw [HF.out]; exact Co.nil _ _
    have hBw := Lib.hid hB
    obtain ⟨w2, rfl⟩ : ∃ w2, w2 = w1 := ⟨_, rfl⟩
    clear hB hb1 c0 c1 hz HF
    go_loopw [6, 21] (fun v6 v21 wr => ∃ (j : Nat) (out : List Cu), j ≤ nl ∧ v21 = .int .i64 j ∧ out.length ≤ 2000 ∧ Hid (Co wr w.heap.size v6 out) ∧ Hid (splitC x l = splitGo out (l.drop j)) ∧ Hid (Below w.heap.size w wr)) (fun _ v _ => nl - (intOf v).toNat)
    case atStart => exact ⟨0, first, Nat.zero_le _, rfl, by omega, HO.out, by show _ = _; rw [List.drop_zero]; exact HS.out, hBw.out⟩
    case round =>
      obtain ⟨j, out, hj, rfl, hol, hco, hsp, hB⟩ := hrel
      have hzw := hB.out.size
      obtain ⟨oa, on, oc, rfl, hon, hcs⟩ := hco.out.dn
      have HON := Lib.hid hon
      have hon2 : on ≤ 2000 := by omega
      obtain ⟨hc1, hc2⟩ := hcs.caps
      by_cases hjn : j < nl
      · obtain ⟨y, hy⟩ : ∃ y, l[j]? = some y := ⟨_, List.getElem?_eq_getElem (by rw [HLL.out]; exact hjn)⟩
        obtain ⟨bb, oo, ya, yn, yc, yb, ym, yd, rfl, hbl, x0, x1, hcy⟩ := (HL.out.below hB.out).at hy
        have hdr := drop_at' hy
        have HSP : Hid (splitC x l = if 2000 < (out.flatMap fun x => minusC x y).length then none else splitGo (out.flatMap fun x => minusC x y) (l.drop (j + 1))) := by
          show _ = _; rw [hsp.out, hdr, splitGo_cons]
        have HCS := Lib.hid hcs
        have HCY := Lib.hid hcy
        have hj0 : (0 : Int) ≤ (j : Int) := Int.natCast_nonneg _
        have hj1 : (j : Int) < (nl : Int) := by omega
        have hTr := Lib.hid (HT.out.below hB.out)
        obtain ⟨wo, rfl⟩ : ∃ wo : World, wo = wr := ⟨_, rfl⟩
        clear hy hdr hcs hcy hsp hon hbl
        go_wp2_with fail
        go_loopw [9, 27] (fun v9 v27 wi => ∃ (i : Nat) (nx : List Cu), i ≤ on ∧ v27 = .int .i64 i ∧ nx.length ≤ 4096 * i ∧ Hid (Co wi (wo.heap.size + 1) v9 nx) ∧ Hid (nx = (out.take i).flatMap fun x => minusC x y) ∧ Hid (Below (wo.heap.size + 1) (wo.alloc (.cells #[.slice ya yn yc, .slice yb ym yd] 34)) wi)) (fun _ v _ => on - (intOf v).toNat)
        case atStart => exact ⟨0, [], Nat.zero_le _, rfl, Nat.zero_le _, Co.nil _ _, rfl, Below.refl _ _⟩
        case round =>
          clear x0 x1 hj0 hj1
          obtain ⟨i, nx, hi, rfl, hnl, hcn, hnx, hBi⟩ := hrel
          obtain ⟨b0, b1, hzi, hBo⟩ := boxC (hBi.out.mono (by simp))
          have hzi' : wo.heap.size + 1 ≤ wr.heap.size := hzi
          have hBwi := Lib.hid (hB.out.trans (hBo.mono hzw))
          by_cases hin : i < on
          · obtain ⟨z, hz⟩ : ∃ z, out[i]? = some z := ⟨_, List.getElem?_eq_getElem (by rw [← HON.out]; exact hin)⟩
            obtain ⟨zb, zo, za, zn, zc, zb2, zm, zd, rfl, hbz, z0, z1, hcz⟩ := (HCS.out.below hBo).at hz
            have HZ := Lib.hid hz
            have hbx := Lib.hid ((Below.refl wr.heap.size wr).alloc (Nat.le_refl _) (.cells #[.slice za zn zc, .slice zb2 zm zd] 34))
            have HCALL := Lib.hid (HM.out z y za zb2 ya yb zn zc zm zd yn yc ym yd _ (hcz.below hbx.out) ((HCY.out.below hBo).below hbx.out) ((hTr.out.below hBo).below hbx.out))
            have hi0 : (0 : Int) ≤ (i : Int) := Int.natCast_nonneg _
            have hi1 : (i : Int) < (on : Int) := by omega
            have hml := minusC_len z y
            have HNX : Hid (nx ++ minusC z y = (out.take (i + 1)).flatMap fun x => minusC x y) := by
              show _ = _
              rw [take_at' hz, List.flatMap_append, hnx.out]; simp
            have hobb : nx.length + (minusC z y).length ≤ 1000000000 := by omega
            have hnl2 : (nx ++ minusC z y).length ≤ 4096 * (i + 1) := by rw [List.length_append]; omega
            have HNL := Lib.hid hnl2
            clear hz hcz hnx hbz hnl2
            go_wp2_with (first
              | (go_at_call 40; refine HCALL.out.mono ?_; rintro e w3 ⟨v3, rfl, hco3, hb3⟩; obtain ⟨a3, n3, c3, rfl, hn3, hcs3⟩ := hco3.dn; have hn3' : nx.length + n3 ≤ 1000000000 := (by rw [hn3]; exact hobb); have HB3 := Lib.hid hb3; have hcn3 := (hcn.out.below hbx.out).below hb3; have hz3 := hb3.size; simp at hz3; clear hn3 hco3 hb3)
              | (at_builtin; refine wpList_append_co rfl (.tmp 31) (.tmp 34) rfl (wo.heap.size + 1) _ nx rfl hcn3 (some a3) n3 c3 (minusC z y) rfl hcs3 hn3' (by omega) ?_; intro v4 w4 hown4 hg4; have HO4 := Lib.hid hown4; have HB4 := Lib.hid (((hBi.out.trans (hbx.out.mono hzi')).trans (HB3.out.mono (by simp; omega))).grown hg4 (by omega) (fun k hk => (hcn3.lt k hk).1)); clear hown4 hg4)
              | (at_builtin; refine wpList_append_co rfl (.tmp 31) (.tmp 34) rfl (wo.heap.size + 1) _ nx rfl hcn3 a3 n3 c3 (minusC z y) rfl hcs3 hn3' (by omega) ?_; intro v4 w4 hown4 hg4; have HO4 := Lib.hid hown4; have HB4 := Lib.hid (((hBi.out.trans (hbx.out.mono hzi')).trans (HB3.out.mono (by simp; omega))).grown hg4 (by omega) (fun k hk => (hcn3.lt k hk).1)); clear hown4 hg4))
            go_roundw
            case rel => exact ⟨i + 1, nx ++ minusC z y, by omega, by go_num, HNL.out, HO4.out, HNX.out, HB4.out⟩
            case measure => simp [intOf]; omega
          · have hie : i = on := by omega
            have HNX : Hid (nx = out.flatMap fun x => minusC x y) := by
              show _ = _
              rw [hnx.out, List.take_of_length_le (by rw [← HON.out]; omega)]
            rw [← HNX.out] at HSP
            obtain ⟨na, nn, nc, rfl, hnn, hcsn⟩ := hcn.out.dn
            have hnn2 : nn ≤ 1000000000 := by omega
            have HCN := Lib.hid (hcn.out.lower (base' := w.heap.size) (by omega))
            clear hcsn hnx hcn
            by_cases hgt : 2000 < nn
            · have HR : Hid (splitC x l = none) := by
                show _ = _
                rw [HSP.out, if_pos (by rw [← hnn]; exact hgt)]
              clear hnn HSP
              go_wp2_with fail
              go_ret2
              refine ⟨?_, hBwi.out⟩
              rw [HR.out]
              rfl
            · have HR : Hid (splitC x l = splitGo nx (l.drop (j + 1))) := by
                show _ = _
                rw [HSP.out, if_neg (by rw [← hnn]; exact hgt)]
              have hnx2 : nx.length ≤ 2000 := by omega
              clear hnn HSP
              go_wp2_with fail
              go_roundw
              case rel => exact ⟨j + 1, nx, by omega, by go_num, hnx2, HCN.out, HR.out, hBwi.out⟩
              case measure => simp [intOf]; omega
      · have hje : j = nl := by omega
        have HR : Hid (splitC x l = some out) := by
          show _ = _
          rw [hsp.out, List.drop_of_length_le (by rw [HLL.out]; omega)]; rfl
        clear hsp hcs hon
        go_wp2_with fail
        go_ret2
        refine ⟨?_, hB.out⟩
        rw [HR.out]
        exact ⟨_, rfl, hco.out, hol⟩
end Go.Proofs.YtadomogbakcokaaGreatDoor
end

section
/- Contract: Covered. -/
namespace Go.Proofs.YtadomogbakcokaaGreatDoor
open Go.RowKit Go.PlainAid
set_option linter.unusedVariables false
set_option linter.unusedSimpArgs false
set_option maxHeartbeats 4000000

def slC (v : Value) : Nat := match v with | .slice _ n _ => n | _ => 0
theorem Cs.tail' {w : World} {b o n cap : Nat} {p : Cu} {l : List Cu} (h : Cs w (some ⟨b, o, none⟩) (n + 1) cap (p :: l)) : Cs w (if cap = 1 then some ⟨b, o, none⟩ else some ⟨b, o + 2, none⟩) n (cap - 1) l := by
  have h1 := h.drop (m := 1) (by omega)
  have h2 := h.caps
  simp only [Nat.add_sub_cancel, Nat.one_mul, List.drop_succ_cons, List.drop_zero] at h1
  split
  · rename_i hc
    have hn : n = 0 := by omega
    subst hn
    obtain ⟨hs, k1, k2⟩ := h1
    exact ⟨hs, k1.empty _ _ rfl (by omega), k2⟩
  · exact h1
theorem covered_cons {x b : Cu} {l : List Cu} (h : emptyC x = false) (h2 : emptyC (bothC x b) = true) : coveredC (b :: l) x = coveredC l x := by
  rw [coveredC, h, h2]; rfl
theorem covered_minus {x b : Cu} {l : List Cu} (h : emptyC x = false) (h2 : emptyC (bothC x b) = false) : coveredC (b :: l) x = (minusC x b).all fun z => coveredC l z := by
  rw [coveredC, h, h2]; rfl
theorem covered_nil {x : Cu} (h : emptyC x = false) : coveredC [] x = false := by rw [coveredC, h]
theorem covered_empty {x : Cu} (h : emptyC x = true) : ∀ l, coveredC l x = true
  | [] => by rw [coveredC, h]
  | b :: l => by rw [coveredC, h]; rfl

set_option maxRecDepth 20000 in
theorem cov_body (k : Nat) (ih : ∀ (a b : Option Addr) (n c m d : Nat) (al : Option Addr) (nl cl : Nat) (x : Cu) (l : List Cu) (w : World), l.length < k → Cb w ⟨a, n, c, b, m, d⟩ x → Cs w al nl cl l → Tz w →
      Calls Tryz.prog 51 #[.agg #[.slice a n c, .slice b m d], .slice al nl cl] w (BoolPost w (coveredC l x)))
    (a b : Option Addr) (n c m d : Nat) (al : Option Addr) (nl cl : Nat) (x : Cu) (l : List Cu) (w : World) (hk : l.length ≤ k) (h : Cb w ⟨a, n, c, b, m, d⟩ x) (hl : Cs w al nl cl l) (hT : Tz w) :
    Calls Tryz.prog 51 #[.agg #[.slice a n c, .slice b m d], .slice al nl cl] w (BoolPost w (coveredC l x)) := by
  have HE0 := Lib.hid (fun w' (hb : Below w.heap.size w w') => emptyC_any a b n c m d x w' (h.below hb))
  have hb0 := Lib.hid ((Below.refl w.heap.size w).alloc (Nat.le_refl _) (.cells #[.slice a n c, .slice b m d] 34))
  cases he : emptyC x
  · rw [he] at HE0
    have HIH := Lib.hid ih
    have HC := Lib.hid h
    have HL := Lib.hid hl
    have HT := Lib.hid hT
    have HNE := Lib.hid he
    obtain ⟨goal, hg⟩ : ∃ goal, goal = coveredC l x := ⟨_, rfl⟩
    rw [← hg]
    have HG := Lib.hid hg
    have HK := Lib.hid hk
    clear ih h hl hT he hg hk
    go_enter Tryz.func51, Tryz.ntmps51
    go_wp2_with (go_at_call 21; refine (HE0.out _ hb0.out).mono ?_; rintro e w1 ⟨rfl, hb1⟩)
    go_loopw [1] (fun v1 wr => ∃ (a' : Option Addr) (n' c' : Nat) (rest : List Cu), v1 = .slice a' n' c' ∧ Hid (Cs w a' n' c' rest) ∧ Hid (goal = coveredC rest x) ∧ Hid (rest.length ≤ k) ∧ Hid (Below (w.alloc (.cells #[.slice a n c, .slice b m d] 34)).heap.size (w.alloc (.cells #[.slice a n c, .slice b m d] 34)) wr)) (fun v1 _ => slC v1)
    case atStart => exact ⟨al, nl, cl, l, rfl, HL.out, HG.out, HK.out, hb1⟩
    case round =>
      clear hb1
      obtain ⟨a', n', c', rest, rfl, hcs, hgo, hrk, hbel⟩ := hrel
      obtain ⟨q0, q1, hzr, hBw⟩ := boxC hbel.out
      have hlen := hcs.out.len
      obtain ⟨hcc1, hcc2⟩ := hcs.out.caps
      cases rest with
      | nil =>
        obtain rfl : n' = 0 := hlen.symm
        have HR : Hid (goal = false) := by show _ = _; rw [hgo.out, covered_nil HNE.out]
        clear hgo hcs hlen
        go_wp2_with fail
        refine wp_region_noPanic ?_
        refine wp_region_held_drew (S := fun w' => True) (by kernel_rfl) (trivial) (fun hS0 => ?_)
        refine' wpAnyH_take (i := 0) (v := _) rfl (by kernel_rfl) (by kernel_rfl) (by kernel_rfl) (fun _ _ _ h => h) (Or.inl ⟨by rfl, fun w' hSw => ?_⟩) hS0 ?_; rotate_left; (focus ((try dsimp only at hSw); go_simp <;> (with_reducible rfl))); (try simp only [List.getElem_toArray, List.getElem_cons_succ, List.getElem_cons_zero, Act.put, List.setIfInBounds_toArray, List.set_cons_zero, List.set_cons_succ])
        refine' wpAnyH_take (i := 1) (v := _) rfl (by kernel_rfl) (by kernel_rfl) (by kernel_rfl) (fun _ _ _ h => h) (Or.inl ⟨by rfl, fun w' hSw => ?_⟩) hS0 ?_; rotate_left; (focus ((try dsimp only at hSw); go_simp <;> (with_reducible rfl))); (try simp only [List.getElem_toArray, List.getElem_cons_succ, List.getElem_cons_zero, Act.put, List.setIfInBounds_toArray, List.set_cons_zero, List.set_cons_succ])
        refine' wpAnyH_take (i := 2) (v := _) rfl (by kernel_rfl) (by kernel_rfl) (by kernel_rfl) (fun _ _ _ h => h) (Or.inl ⟨by rfl, fun w' hSw => ?_⟩) hS0 ?_; rotate_left; (focus ((try dsimp only at hSw); go_simp <;> (with_reducible rfl))); (try simp only [List.getElem_toArray, List.getElem_cons_succ, List.getElem_cons_zero, Act.put, List.setIfInBounds_toArray, List.set_cons_zero, List.set_cons_succ])
        refine' wpAnyH_take (i := 3) (v := _) rfl (by kernel_rfl) (by kernel_rfl) (by kernel_rfl) (fun _ _ _ h => h) (Or.inl ⟨by rfl, fun w' hSw => ?_⟩) hS0 ?_; rotate_left; (focus ((try dsimp only at hSw); go_simp <;> (with_reducible rfl))); (try simp only [List.getElem_toArray, List.getElem_cons_succ, List.getElem_cons_zero, Act.put, List.setIfInBounds_toArray, List.set_cons_zero, List.set_cons_succ])
        refine' wpAnyH_take (i := 4) (v := _) rfl (by kernel_rfl) (by kernel_rfl) (by kernel_rfl) (fun _ _ _ h => h) (Or.inr ⟨by rfl, rfl⟩) hS0 ?_; (try simp only [List.getElem_toArray, List.getElem_cons_succ, List.getElem_cons_zero, Act.put, List.setIfInBounds_toArray, List.set_cons_zero, List.set_cons_succ])
        refine' wpAnyH_take (i := 5) (v := _) rfl (by kernel_rfl) (by kernel_rfl) (by kernel_rfl) (fun _ _ _ h => h) (Or.inr ⟨by rfl, rfl⟩) hS0 ?_; (try simp only [List.getElem_toArray, List.getElem_cons_succ, List.getElem_cons_zero, Act.put, List.setIfInBounds_toArray, List.set_cons_zero, List.set_cons_succ])
        refine' wpAnyH_take (i := 6) (v := _) rfl (by kernel_rfl) (by kernel_rfl) (by kernel_rfl) (fun _ _ _ h => h) (Or.inr ⟨by rfl, rfl⟩) hS0 ?_; (try simp only [List.getElem_toArray, List.getElem_cons_succ, List.getElem_cons_zero, Act.put, List.setIfInBounds_toArray, List.set_cons_zero, List.set_cons_succ])
        refine' wpAnyH_take (i := 7) (v := _) rfl (by kernel_rfl) (by kernel_rfl) (by kernel_rfl) (fun _ _ _ h => h) (Or.inr ⟨by rfl, rfl⟩) hS0 ?_; (try simp only [List.getElem_toArray, List.getElem_cons_succ, List.getElem_cons_zero, Act.put, List.setIfInBounds_toArray, List.set_cons_zero, List.set_cons_succ])
        refine wpAnyH_ready (rs := [8]) (by kernel_rfl) (by simp) ?_
        refine AllReadyH.cons rfl (fun K hK => ?_) AllReadyH.nil
        go_simp; refine hK.out _ _ trivial (fun hS1 => ?_); clear hK K; (try simp only [Act.put, List.setIfInBounds_toArray, List.set_cons_zero, List.set_cons_succ])
        refine wpAnyH_ready (rs := [9]) (by kernel_rfl) (by simp) ?_
        refine AllReadyH.cons rfl (fun K hK => ?_) AllReadyH.nil
        go_simp; refine hK.out _ _ trivial (fun hS2 => ?_); clear hK K; (try simp only [Act.put, List.setIfInBounds_toArray, List.set_cons_zero, List.set_cons_succ])
        refine' wpAnyH_take (i := 10) (v := _) rfl (by kernel_rfl) (by kernel_rfl) (by kernel_rfl) (fun _ _ _ h => h) (Or.inl ⟨by rfl, fun w' hSw => ?_⟩) hS2 ?_; rotate_left; (focus ((try dsimp only at hSw); go_simp <;> (with_reducible rfl))); (try simp only [List.getElem_toArray, List.getElem_cons_succ, List.getElem_cons_zero, Act.put, List.setIfInBounds_toArray, List.set_cons_zero, List.set_cons_succ])
        refine wpAnyH_done (by kernel_rfl) (NoPanic.normal ?_) _
        go_wp2_with fail
        go_ret
        exact ⟨ret_bool HR.out.symm, hBw.drew⟩
      | cons y t =>
        obtain ⟨n1, rfl⟩ : ∃ n1, n' = n1 + 1 := ⟨t.length, by rw [← hlen]; rfl⟩
        obtain ⟨bb, oo, ya, yn, yc, yb, ym, yd, rfl, hbl, x0, x1, hcy⟩ := hcs.out.at (j := 0) rfl
        rw [Nat.zero_mul, Nat.add_zero] at x0 x1
        have x0 := (hBw.cell (p := ⟨bb, _, none⟩) hbl).trans x0
        have x1 := (hBw.cell (p := ⟨bb, _, none⟩) hbl).trans x1
        have hblr : bb < wr.heap.size := Nat.lt_of_lt_of_le hbl hBw.size
        have HQ : Hid (∀ w', Below wr.heap.size wr w' → w'.cell? ⟨w.heap.size, 0, none⟩ = some (.slice a n c) ∧ w'.cell? ⟨w.heap.size, 1, none⟩ = some (.slice b m d) ∧ w'.cell? ⟨bb, oo, none⟩ = some (.slice ya yn yc) ∧ w'.cell? ⟨bb, oo + 1, none⟩ = some (.slice yb ym yd)) :=
          fun w' hb => ⟨(hb.cell (p := ⟨w.heap.size, 0, none⟩) hzr).trans q0, (hb.cell (p := ⟨w.heap.size, 1, none⟩) hzr).trans q1, (hb.cell (p := ⟨bb, oo, none⟩) hblr).trans x0, (hb.cell (p := ⟨bb, oo + 1, none⟩) hblr).trans x1⟩
        have hq : wr.cell? ⟨w.heap.size, 0, none⟩ = some (.slice a n c) ∧ wr.cell? ⟨w.heap.size, 1, none⟩ = some (.slice b m d) ∧ wr.cell? ⟨bb, oo, none⟩ = some (.slice ya yn yc) ∧ wr.cell? ⟨bb, oo + 1, none⟩ = some (.slice yb ym yd) := ⟨q0, q1, x0, x1⟩
        have HCY := Lib.hid hcy
        have HBO := Lib.hid (fun w' (hb : Below wr.heap.size wr w') => bothC_any a b ya yb n c m d yn yc ym yd x y w' (HC.out.below (hBw.trans (hb.mono hBw.size))) (HCY.out.below (hBw.trans (hb.mono hBw.size))))
        have HMI := Lib.hid (fun w' (hb : Below wr.heap.size wr w') => minusC_any a b ya yb n c m d yn yc ym yd x y w' (HC.out.below (hBw.trans (hb.mono hBw.size))) (HCY.out.below (hBw.trans (hb.mono hBw.size))) (HT.out.below (hBw.trans (hb.mono hBw.size))))
        obtain ⟨ad, had⟩ : ∃ ad, (if c' = 1 then some (⟨bb, oo, none⟩ : Addr) else some ⟨bb, oo + 2, none⟩) = ad := ⟨_, rfl⟩
        have hTL := Lib.hid hcs.out.tail'
        rw [had] at hTL
        have hn1 : (0 : Int) < (n1 : Int) + 1 := by omega
        have hn2 : (n1 : Int) + 1 ≠ 0 := by omega
        have hn3 : (1 : Int) ≤ (n1 : Int) + 1 := by omega
        clear hcs hcy hlen q0 q1 x0 x1 hbl
        cases hbe : emptyC (bothC x y)
        · have HGA : Hid (goal = (minusC x y).all fun z => coveredC t z) := by show _ = _; rw [hgo.out, covered_minus HNE.out hbe]
          have htk : Hid (t.length < k) := by have := hrk.out; rw [List.length_cons] at this; exact this
          clear hgo hrk
          go_wp2_with fail
          refine wp_region_noPanic ?_
          refine wp_region_held_drew (S := fun w' => w'.cell? ⟨w.heap.size, 0, none⟩ = some (.slice a n c) ∧ w'.cell? ⟨w.heap.size, 1, none⟩ = some (.slice b m d) ∧ w'.cell? ⟨bb, oo, none⟩ = some (.slice ya yn yc) ∧ w'.cell? ⟨bb, oo + 1, none⟩ = some (.slice yb ym yd)) (by kernel_rfl) (hq) (fun hS0 => ?_)
          refine' wpAnyH_take (i := 0) (v := _) rfl (by kernel_rfl) (by kernel_rfl) (by kernel_rfl) (fun _ _ _ h => h) (Or.inl ⟨by rfl, fun w' hSw => ?_⟩) hS0 ?_; rotate_left; (focus ((try dsimp only at hSw); go_simp <;> (with_reducible rfl))); (try simp only [List.getElem_toArray, List.getElem_cons_succ, List.getElem_cons_zero, Act.put, List.setIfInBounds_toArray, List.set_cons_zero, List.set_cons_succ])
          refine' wpAnyH_take (i := 1) (v := _) rfl (by kernel_rfl) (by kernel_rfl) (by kernel_rfl) (fun _ _ _ h => h) (Or.inl ⟨by rfl, fun w' hSw => ?_⟩) hS0 ?_; rotate_left; (focus ((try dsimp only at hSw); go_simp <;> (with_reducible rfl))); (try simp only [List.getElem_toArray, List.getElem_cons_succ, List.getElem_cons_zero, Act.put, List.setIfInBounds_toArray, List.set_cons_zero, List.set_cons_succ])
          refine' wpAnyH_take (i := 2) (v := _) rfl (by kernel_rfl) (by kernel_rfl) (by kernel_rfl) (fun _ _ _ h => h) (Or.inl ⟨by rfl, fun w' hSw => ?_⟩) hS0 ?_; rotate_left; (focus ((try dsimp only at hSw); go_simp <;> (with_reducible rfl))); (try simp only [List.getElem_toArray, List.getElem_cons_succ, List.getElem_cons_zero, Act.put, List.setIfInBounds_toArray, List.set_cons_zero, List.set_cons_succ])
          refine' wpAnyH_take (i := 3) (v := _) rfl (by kernel_rfl) (by kernel_rfl) (by kernel_rfl) (fun _ _ _ h => h) (Or.inl ⟨by rfl, fun w' hSw => ?_⟩) hS0 ?_; rotate_left; (focus ((try dsimp only at hSw); go_simp <;> (with_reducible rfl))); (try simp only [List.getElem_toArray, List.getElem_cons_succ, List.getElem_cons_zero, Act.put, List.setIfInBounds_toArray, List.set_cons_zero, List.set_cons_succ])
          refine' wpAnyH_take (i := 4) (v := _) rfl (by kernel_rfl) (by kernel_rfl) (by kernel_rfl) (fun _ _ _ h => h) (Or.inl ⟨by rfl, fun w' hSw => ?_⟩) hS0 ?_; rotate_left; (focus ((try dsimp only at hSw); go_simp <;> (with_reducible rfl))); (try simp only [List.getElem_toArray, List.getElem_cons_succ, List.getElem_cons_zero, Act.put, List.setIfInBounds_toArray, List.set_cons_zero, List.set_cons_succ])
          refine' wpAnyH_take (i := 5) (v := _) rfl (by kernel_rfl) (by kernel_rfl) (by kernel_rfl) (fun _ _ _ h => h) (Or.inl ⟨by rfl, fun w' hSw => ?_⟩) hS0 ?_; rotate_left; (focus ((try dsimp only at hSw); go_simp <;> (with_reducible rfl))); (try simp only [List.getElem_toArray, List.getElem_cons_succ, List.getElem_cons_zero, Act.put, List.setIfInBounds_toArray, List.set_cons_zero, List.set_cons_succ])
          refine' wpAnyH_take (i := 6) (v := _) rfl (by kernel_rfl) (by kernel_rfl) (by kernel_rfl) (fun _ _ _ h => h) (Or.inl ⟨by rfl, fun w' hSw => ?_⟩) hS0 ?_; rotate_left; (focus ((try dsimp only at hSw); go_simp <;> (with_reducible rfl))); (try simp only [List.getElem_toArray, List.getElem_cons_succ, List.getElem_cons_zero, Act.put, List.setIfInBounds_toArray, List.set_cons_zero, List.set_cons_succ])
          refine' wpAnyH_take (i := 7) (v := _) rfl (by kernel_rfl) (by kernel_rfl) (by kernel_rfl) (fun _ _ _ h => h) (Or.inl ⟨by rfl, fun w' hSw => ?_⟩) hS0 ?_; rotate_left; (focus ((try dsimp only at hSw); go_simp <;> (with_reducible rfl))); (try simp only [List.getElem_toArray, List.getElem_cons_succ, List.getElem_cons_zero, Act.put, List.setIfInBounds_toArray, List.set_cons_zero, List.set_cons_succ])
          refine wpAnyH_ready (rs := [8]) (by kernel_rfl) (by simp) ?_
          refine AllReadyH.cons rfl (fun K hK => ?_) AllReadyH.nil
          go_simp; go_at_call 76; (with_reducible refine (HBO.out _ (Below.refl _ _).drew).mono ?_); rintro e w3 ⟨a3, n3, k3, b3, m3, d3, rfl, hc3, hb3⟩; have hBr3 := (Below.refl wr.heap.size wr).drew.trans (hb3.mono (Nat.le_refl _)); have hq3 := HQ.out w3 hBr3; have HEM := Lib.hid (emptyC_any a3 b3 n3 k3 m3 d3 (bothC x y) w3 hc3); clear hc3; rw [hbe] at HEM; (try go_wp2_with fail); refine hK.out _ _ (hq3) (fun hS1 => ?_); clear hK K; (try simp only [List.getElem_toArray, List.getElem_cons_succ, List.getElem_cons_zero, Act.put, List.setIfInBounds_toArray, List.set_cons_zero, List.set_cons_succ])
          refine wpAnyH_ready (rs := [9]) (by kernel_rfl) (by simp) ?_
          refine AllReadyH.cons rfl (fun K hK => ?_) AllReadyH.nil
          go_simp; go_at_call 21; (with_reducible refine HEM.out.mono ?_); rintro e w4 ⟨rfl, hb4⟩; have hBr4 := hBr3.trans (hb4.mono hBr3.size); have hq4 := HQ.out w4 hBr4; (try go_wp2_with fail); refine hK.out _ _ (hq4) (fun hS2 => ?_); clear hK K; (try simp only [List.getElem_toArray, List.getElem_cons_succ, List.getElem_cons_zero, Act.put, List.setIfInBounds_toArray, List.set_cons_zero, List.set_cons_succ])
          refine' wpAnyH_take (i := 10) (v := _) rfl (by kernel_rfl) (by kernel_rfl) (by kernel_rfl) (fun _ _ _ h => h) (Or.inl ⟨by rfl, fun w' hSw => ?_⟩) hS2 ?_; rotate_left; (focus ((try dsimp only at hSw); go_simp <;> (with_reducible rfl))); (try simp only [List.getElem_toArray, List.getElem_cons_succ, List.getElem_cons_zero, Act.put, List.setIfInBounds_toArray, List.set_cons_zero, List.set_cons_succ])
          refine wpAnyH_done (by kernel_rfl) (NoPanic.normal ?_) _
          clear hbe
          go_wp2_with fail
          refine wp_region_noPanic ?_
          refine wp_region_held_drew (S := fun w' => w'.cell? ⟨w.heap.size, 0, none⟩ = some (.slice a n c) ∧ w'.cell? ⟨w.heap.size, 1, none⟩ = some (.slice b m d) ∧ w'.cell? ⟨bb, oo, none⟩ = some (.slice ya yn yc) ∧ w'.cell? ⟨bb, oo + 1, none⟩ = some (.slice yb ym yd)) (by kernel_rfl) (hq4) (fun hS0 => ?_)
          refine' wpAnyH_take (i := 0) (v := _) rfl (by kernel_rfl) (by kernel_rfl) (by kernel_rfl) (fun _ _ _ h => h) (Or.inl ⟨by rfl, fun w' hSw => ?_⟩) hS0 ?_; rotate_left; (focus ((try dsimp only at hSw); go_simp <;> (with_reducible rfl))); (try simp only [List.getElem_toArray, List.getElem_cons_succ, List.getElem_cons_zero, Act.put, List.setIfInBounds_toArray, List.set_cons_zero, List.set_cons_succ])
          refine' wpAnyH_take (i := 1) (v := _) rfl (by kernel_rfl) (by kernel_rfl) (by kernel_rfl) (fun _ _ _ h => h) (Or.inl ⟨by rfl, fun w' hSw => ?_⟩) hS0 ?_; rotate_left; (focus ((try dsimp only at hSw); go_simp <;> (with_reducible rfl))); (try simp only [List.getElem_toArray, List.getElem_cons_succ, List.getElem_cons_zero, Act.put, List.setIfInBounds_toArray, List.set_cons_zero, List.set_cons_succ])
          refine' wpAnyH_take (i := 2) (v := _) rfl (by kernel_rfl) (by kernel_rfl) (by kernel_rfl) (fun _ _ _ h => h) (Or.inl ⟨by rfl, fun w' hSw => ?_⟩) hS0 ?_; rotate_left; (focus ((try dsimp only at hSw); go_simp <;> (with_reducible rfl))); (try simp only [List.getElem_toArray, List.getElem_cons_succ, List.getElem_cons_zero, Act.put, List.setIfInBounds_toArray, List.set_cons_zero, List.set_cons_succ])
          refine' wpAnyH_take (i := 3) (v := _) rfl (by kernel_rfl) (by kernel_rfl) (by kernel_rfl) (fun _ _ _ h => h) (Or.inl ⟨by rfl, fun w' hSw => ?_⟩) hS0 ?_; rotate_left; (focus ((try dsimp only at hSw); go_simp <;> (with_reducible rfl))); (try simp only [List.getElem_toArray, List.getElem_cons_succ, List.getElem_cons_zero, Act.put, List.setIfInBounds_toArray, List.set_cons_zero, List.set_cons_succ])
          refine' wpAnyH_take (i := 6) (v := _) rfl (by kernel_rfl) (by kernel_rfl) (by kernel_rfl) (fun _ _ _ h => h) (Or.inl ⟨by rfl, fun w' hSw => ?_⟩) hS0 ?_; rotate_left; (focus ((try dsimp only at hSw); go_simp <;> (with_reducible rfl))); (try simp only [List.getElem_toArray, List.getElem_cons_succ, List.getElem_cons_zero, Act.put, List.setIfInBounds_toArray, List.set_cons_zero, List.set_cons_succ])
          refine wpAnyH_ready (rs := [4]) (by kernel_rfl) (by simp) ?_
          refine AllReadyH.cons rfl (fun K hK => ?_) AllReadyH.nil
          go_simp; go_at_call 40; (with_reducible refine (HMI.out _ (hBr4.trans ((Below.refl w4.heap.size w4).drew.mono hBr4.size))).mono ?_); rintro e w5 ⟨v5, rfl, hco5, hb5⟩; obtain ⟨a5, n5, c5, rfl, hn5, hcs5⟩ := hco5.dn; have hBr5 := (hBr4.trans ((Below.refl w4.heap.size w4).drew.mono hBr4.size)).trans (hb5.mono (show wr.heap.size ≤ w4.drew.heap.size from hBr4.size)); have hq5 := HQ.out w5 hBr5; have hcap5 := hcs5.caps; have HC5 := Lib.hid hcs5; have HN5 := Lib.hid hn5; clear hco5 hcs5 hn5; (try go_wp2_with fail); refine hK.out _ _ (hq5) (fun hS1 => ?_); clear hK K; (try simp only [List.getElem_toArray, List.getElem_cons_succ, List.getElem_cons_zero, Act.put, List.setIfInBounds_toArray, List.set_cons_zero, List.set_cons_succ])
          refine' wpAnyH_take (i := 5) (v := _) rfl (by kernel_rfl) (by kernel_rfl) (by kernel_rfl) (fun _ _ _ h => h) (Or.inl ⟨by rfl, fun w' hSw => ?_⟩) hS1 ?_; rotate_left; (focus ((try dsimp only at hSw); go_simp <;> (with_reducible rfl))); (try simp only [List.getElem_toArray, List.getElem_cons_succ, List.getElem_cons_zero, Act.put, List.setIfInBounds_toArray, List.set_cons_zero, List.set_cons_succ])
          refine wpAnyH_done (by kernel_rfl) (NoPanic.normal ?_) _
          have HBW5 := Lib.hid (hBw.trans (hBr5.mono hBw.size))
          clear hq hq4 hq5 hBr4 hBr5 hb5
          go_wp2_with fail
          go_loopw [31] (fun v31 wi => ∃ i : Nat, i ≤ n5 ∧ v31 = .int .i64 i ∧ Hid (∀ (j : Nat) z, j < i → (minusC x y)[j]? = some z → coveredC t z = true) ∧ Hid (Below w5.heap.size w5 wi)) (fun v _ => n5 - (intOf v).toNat)
          case atStart => exact ⟨0, Nat.zero_le _, rfl, fun j z hj => by omega, Below.refl _ _⟩
          case round =>
            obtain ⟨i, hi, rfl, hpre, hBi⟩ := hrel
            have hBwi := Lib.hid (HBW5.out.trans (hBi.out.mono HBW5.out.size))
            obtain ⟨wi, rfl⟩ : ∃ wi, wi = wr := ⟨_, rfl⟩
            by_cases hin : i < n5
            · obtain ⟨z, hz⟩ : ∃ z, (minusC x y)[i]? = some z := ⟨_, List.getElem?_eq_getElem (by rw [← HN5.out]; exact hin)⟩
              obtain ⟨zb, zo, za, zn, zc, zb2, zm, zd, rfl, hbz, z0, z1, hcz⟩ := (HC5.out.below hBi.out).at hz
              have HZ := Lib.hid hz
              have hbx := Lib.hid ((Below.refl wi.heap.size wi).alloc (Nat.le_refl _) (.cells #[.slice za zn zc, .slice zb2 zm zd] 34))
              have hbxd := Lib.hid (hbx.out.drew)
              have HREC := Lib.hid (HIH.out za zb2 zn zc zm zd _ _ _ z t _ htk.out (hcz.below hbxd.out) ((hTL.out.below hBwi.out).below hbxd.out) ((HT.out.below hBwi.out).below hbxd.out))
              have hx0 : (wi.alloc (.cells #[.slice za zn zc, .slice zb2 zm zd] 34)).cell? ⟨wi.heap.size, 0, none⟩ = some (.slice za zn zc) := by simp
              have hx1 : (wi.alloc (.cells #[.slice za zn zc, .slice zb2 zm zd] 34)).cell? ⟨wi.heap.size, 1, none⟩ = some (.slice zb2 zm zd) := by simp
              have hi0 : (0 : Int) ≤ (i : Int) := Int.natCast_nonneg _
              have hi1 : (i : Int) < (n5 : Int) := by omega
              have hin5 := Lib.hid hi
              clear hz hcz hbz
              cases hv : coveredC t z
              · have HR : Hid (goal = false) := by
                  show _ = _
                  rw [HGA.out, List.all_eq_false]
                  exact ⟨z, List.mem_of_getElem? HZ.out, by rw [hv]; decide⟩
                rw [hv] at HREC
                clear hv
                go_wp2_with fail
                refine wp_region_noPanic ?_
                refine wp_region_held_drew (S := fun w' => w'.cell? ⟨wi.heap.size, 0, none⟩ = some (.slice za zn zc) ∧ w'.cell? ⟨wi.heap.size, 1, none⟩ = some (.slice zb2 zm zd)) (by kernel_rfl) (⟨hx0, hx1⟩) (fun hS0 => ?_)
                refine' wpAnyH_take (i := 0) (v := _) rfl (by kernel_rfl) (by kernel_rfl) (by kernel_rfl) (fun _ _ _ h => h) (Or.inl ⟨by rfl, fun w' hSw => ?_⟩) hS0 ?_; rotate_left; (focus ((try dsimp only at hSw); go_simp <;> (with_reducible rfl))); (try simp only [List.getElem_toArray, List.getElem_cons_succ, List.getElem_cons_zero, Act.put, List.setIfInBounds_toArray, List.set_cons_zero, List.set_cons_succ])
                refine' wpAnyH_take (i := 1) (v := _) rfl (by kernel_rfl) (by kernel_rfl) (by kernel_rfl) (fun _ _ _ h => h) (Or.inl ⟨by rfl, fun w' hSw => ?_⟩) hS0 ?_; rotate_left; (focus ((try dsimp only at hSw); go_simp <;> (with_reducible rfl))); (try simp only [List.getElem_toArray, List.getElem_cons_succ, List.getElem_cons_zero, Act.put, List.setIfInBounds_toArray, List.set_cons_zero, List.set_cons_succ])
                refine' wpAnyH_take (i := 2) (v := _) rfl (by kernel_rfl) (by kernel_rfl) (by kernel_rfl) (fun _ _ _ h => h) (Or.inl ⟨by rfl, fun w' hSw => ?_⟩) hS0 ?_; rotate_left; (focus ((try dsimp only at hSw); go_simp <;> (with_reducible rfl))); (try simp only [List.getElem_toArray, List.getElem_cons_succ, List.getElem_cons_zero, Act.put, List.setIfInBounds_toArray, List.set_cons_zero, List.set_cons_succ])
                refine wpAnyH_ready (rs := [3]) (by kernel_rfl) (by simp) ?_
                refine AllReadyH.cons rfl (fun K hK => ?_) AllReadyH.nil
                go_simp; go_at_call 51; (with_reducible refine HREC.out.mono ?_); rintro e w7 ⟨rfl, hb7⟩; have hBx := ((Below.refl wi.heap.size wi).alloc (Nat.le_refl _) (.cells #[.slice za zn zc, .slice zb2 zm zd] 34)).drew.trans (hb7.mono (by simp)); obtain ⟨y0, y1, hl7, hB7⟩ := boxC (((Below.refl _ (wi.alloc (.cells #[.slice za zn zc, .slice zb2 zm zd] 34))).drew).trans hb7); (try go_wp2_with fail); refine hK.out _ _ (⟨y0, y1⟩) (fun hS1 => ?_); clear hK K; (try simp only [List.getElem_toArray, List.getElem_cons_succ, List.getElem_cons_zero, Act.put, List.setIfInBounds_toArray, List.set_cons_zero, List.set_cons_succ])
                refine' wpAnyH_take (i := 4) (v := _) rfl (by kernel_rfl) (by kernel_rfl) (by kernel_rfl) (fun _ _ _ h => h) (Or.inl ⟨by rfl, fun w' hSw => ?_⟩) hS1 ?_; rotate_left; (focus ((try dsimp only at hSw); go_simp <;> (with_reducible rfl))); (try simp only [List.getElem_toArray, List.getElem_cons_succ, List.getElem_cons_zero, Act.put, List.setIfInBounds_toArray, List.set_cons_zero, List.set_cons_succ])
                refine wpAnyH_done (by kernel_rfl) (NoPanic.normal ?_) _
                go_wp2_with fail
                go_ret
                exact ⟨ret_bool HR.out.symm, hBwi.out.trans (hBx.mono hBwi.out.size)⟩
              · have HP : Hid (∀ (j : Nat) z, j < i + 1 → (minusC x y)[j]? = some z → coveredC t z = true) := fun j z' hj hz' => by
                  by_cases hji : j < i
                  · exact hpre.out j z' hji hz'
                  · have : j = i := by omega
                    subst this
                    rw [HZ.out] at hz'
                    cases hz'; exact hv
                rw [hv] at HREC
                clear hv
                go_wp2_with fail
                refine wp_region_noPanic ?_
                refine wp_region_held_drew (S := fun w' => w'.cell? ⟨wi.heap.size, 0, none⟩ = some (.slice za zn zc) ∧ w'.cell? ⟨wi.heap.size, 1, none⟩ = some (.slice zb2 zm zd)) (by kernel_rfl) (⟨hx0, hx1⟩) (fun hS0 => ?_)
                refine' wpAnyH_take (i := 0) (v := _) rfl (by kernel_rfl) (by kernel_rfl) (by kernel_rfl) (fun _ _ _ h => h) (Or.inl ⟨by rfl, fun w' hSw => ?_⟩) hS0 ?_; rotate_left; (focus ((try dsimp only at hSw); go_simp <;> (with_reducible rfl))); (try simp only [List.getElem_toArray, List.getElem_cons_succ, List.getElem_cons_zero, Act.put, List.setIfInBounds_toArray, List.set_cons_zero, List.set_cons_succ])
                refine' wpAnyH_take (i := 1) (v := _) rfl (by kernel_rfl) (by kernel_rfl) (by kernel_rfl) (fun _ _ _ h => h) (Or.inl ⟨by rfl, fun w' hSw => ?_⟩) hS0 ?_; rotate_left; (focus ((try dsimp only at hSw); go_simp <;> (with_reducible rfl))); (try simp only [List.getElem_toArray, List.getElem_cons_succ, List.getElem_cons_zero, Act.put, List.setIfInBounds_toArray, List.set_cons_zero, List.set_cons_succ])
                refine' wpAnyH_take (i := 2) (v := _) rfl (by kernel_rfl) (by kernel_rfl) (by kernel_rfl) (fun _ _ _ h => h) (Or.inl ⟨by rfl, fun w' hSw => ?_⟩) hS0 ?_; rotate_left; (focus ((try dsimp only at hSw); go_simp <;> (with_reducible rfl))); (try simp only [List.getElem_toArray, List.getElem_cons_succ, List.getElem_cons_zero, Act.put, List.setIfInBounds_toArray, List.set_cons_zero, List.set_cons_succ])
                refine wpAnyH_ready (rs := [3]) (by kernel_rfl) (by simp) ?_
                refine AllReadyH.cons rfl (fun K hK => ?_) AllReadyH.nil
                go_simp; go_at_call 51; (with_reducible refine HREC.out.mono ?_); rintro e w7 ⟨rfl, hb7⟩; have hBx := ((Below.refl wi.heap.size wi).alloc (Nat.le_refl _) (.cells #[.slice za zn zc, .slice zb2 zm zd] 34)).drew.trans (hb7.mono (by simp)); obtain ⟨y0, y1, hl7, hB7⟩ := boxC (((Below.refl _ (wi.alloc (.cells #[.slice za zn zc, .slice zb2 zm zd] 34))).drew).trans hb7); (try go_wp2_with fail); refine hK.out _ _ (⟨y0, y1⟩) (fun hS1 => ?_); clear hK K; (try simp only [List.getElem_toArray, List.getElem_cons_succ, List.getElem_cons_zero, Act.put, List.setIfInBounds_toArray, List.set_cons_zero, List.set_cons_succ])
                refine' wpAnyH_take (i := 4) (v := _) rfl (by kernel_rfl) (by kernel_rfl) (by kernel_rfl) (fun _ _ _ h => h) (Or.inl ⟨by rfl, fun w' hSw => ?_⟩) hS1 ?_; rotate_left; (focus ((try dsimp only at hSw); go_simp <;> (with_reducible rfl))); (try simp only [List.getElem_toArray, List.getElem_cons_succ, List.getElem_cons_zero, Act.put, List.setIfInBounds_toArray, List.set_cons_zero, List.set_cons_succ])
                refine wpAnyH_done (by kernel_rfl) (NoPanic.normal ?_) _
                go_wp2_with fail
                go_roundw
                case rel => exact ⟨i + 1, by omega, by go_num, HP.out, hBi.out.trans (hBx.mono hBi.out.size)⟩
                case measure => simp [intOf]; omega
            · have HR : Hid (goal = true) := by
                show _ = _
                rw [HGA.out, List.all_eq_true]
                intro z hz
                obtain ⟨j, hj⟩ := List.mem_iff_getElem?.1 hz
                exact hpre.out j z (by have := (List.getElem?_eq_some_iff.1 hj).1; rw [← HN5.out] at this; omega) hj
              go_wp2_with fail
              go_ret
              exact ⟨ret_bool HR.out.symm, hBwi.out⟩
        · have HGS : Hid (goal = coveredC t x) := by show _ = _; rw [hgo.out, covered_cons HNE.out hbe]
          have htk : Hid (t.length ≤ k) := by have := hrk.out; rw [List.length_cons] at this; show t.length ≤ k; omega
          clear hgo hrk
          go_wp2_with fail
          refine wp_region_noPanic ?_
          refine wp_region_held_drew (S := fun w' => w'.cell? ⟨w.heap.size, 0, none⟩ = some (.slice a n c) ∧ w'.cell? ⟨w.heap.size, 1, none⟩ = some (.slice b m d) ∧ w'.cell? ⟨bb, oo, none⟩ = some (.slice ya yn yc) ∧ w'.cell? ⟨bb, oo + 1, none⟩ = some (.slice yb ym yd)) (by kernel_rfl) (hq) (fun hS0 => ?_)
          refine' wpAnyH_take (i := 0) (v := _) rfl (by kernel_rfl) (by kernel_rfl) (by kernel_rfl) (fun _ _ _ h => h) (Or.inl ⟨by rfl, fun w' hSw => ?_⟩) hS0 ?_; rotate_left; (focus ((try dsimp only at hSw); go_simp <;> (with_reducible rfl))); (try simp only [List.getElem_toArray, List.getElem_cons_succ, List.getElem_cons_zero, Act.put, List.setIfInBounds_toArray, List.set_cons_zero, List.set_cons_succ])
          refine' wpAnyH_take (i := 1) (v := _) rfl (by kernel_rfl) (by kernel_rfl) (by kernel_rfl) (fun _ _ _ h => h) (Or.inl ⟨by rfl, fun w' hSw => ?_⟩) hS0 ?_; rotate_left; (focus ((try dsimp only at hSw); go_simp <;> (with_reducible rfl))); (try simp only [List.getElem_toArray, List.getElem_cons_succ, List.getElem_cons_zero, Act.put, List.setIfInBounds_toArray, List.set_cons_zero, List.set_cons_succ])
          refine' wpAnyH_take (i := 2) (v := _) rfl (by kernel_rfl) (by kernel_rfl) (by kernel_rfl) (fun _ _ _ h => h) (Or.inl ⟨by rfl, fun w' hSw => ?_⟩) hS0 ?_; rotate_left; (focus ((try dsimp only at hSw); go_simp <;> (with_reducible rfl))); (try simp only [List.getElem_toArray, List.getElem_cons_succ, List.getElem_cons_zero, Act.put, List.setIfInBounds_toArray, List.set_cons_zero, List.set_cons_succ])
          refine' wpAnyH_take (i := 3) (v := _) rfl (by kernel_rfl) (by kernel_rfl) (by kernel_rfl) (fun _ _ _ h => h) (Or.inl ⟨by rfl, fun w' hSw => ?_⟩) hS0 ?_; rotate_left; (focus ((try dsimp only at hSw); go_simp <;> (with_reducible rfl))); (try simp only [List.getElem_toArray, List.getElem_cons_succ, List.getElem_cons_zero, Act.put, List.setIfInBounds_toArray, List.set_cons_zero, List.set_cons_succ])
          refine' wpAnyH_take (i := 4) (v := _) rfl (by kernel_rfl) (by kernel_rfl) (by kernel_rfl) (fun _ _ _ h => h) (Or.inl ⟨by rfl, fun w' hSw => ?_⟩) hS0 ?_; rotate_left; (focus ((try dsimp only at hSw); go_simp <;> (with_reducible rfl))); (try simp only [List.getElem_toArray, List.getElem_cons_succ, List.getElem_cons_zero, Act.put, List.setIfInBounds_toArray, List.set_cons_zero, List.set_cons_succ])
          refine' wpAnyH_take (i := 5) (v := _) rfl (by kernel_rfl) (by kernel_rfl) (by kernel_rfl) (fun _ _ _ h => h) (Or.inl ⟨by rfl, fun w' hSw => ?_⟩) hS0 ?_; rotate_left; (focus ((try dsimp only at hSw); go_simp <;> (with_reducible rfl))); (try simp only [List.getElem_toArray, List.getElem_cons_succ, List.getElem_cons_zero, Act.put, List.setIfInBounds_toArray, List.set_cons_zero, List.set_cons_succ])
          refine' wpAnyH_take (i := 6) (v := _) rfl (by kernel_rfl) (by kernel_rfl) (by kernel_rfl) (fun _ _ _ h => h) (Or.inl ⟨by rfl, fun w' hSw => ?_⟩) hS0 ?_; rotate_left; (focus ((try dsimp only at hSw); go_simp <;> (with_reducible rfl))); (try simp only [List.getElem_toArray, List.getElem_cons_succ, List.getElem_cons_zero, Act.put, List.setIfInBounds_toArray, List.set_cons_zero, List.set_cons_succ])
          refine' wpAnyH_take (i := 7) (v := _) rfl (by kernel_rfl) (by kernel_rfl) (by kernel_rfl) (fun _ _ _ h => h) (Or.inl ⟨by rfl, fun w' hSw => ?_⟩) hS0 ?_; rotate_left; (focus ((try dsimp only at hSw); go_simp <;> (with_reducible rfl))); (try simp only [List.getElem_toArray, List.getElem_cons_succ, List.getElem_cons_zero, Act.put, List.setIfInBounds_toArray, List.set_cons_zero, List.set_cons_succ])
          refine wpAnyH_ready (rs := [8]) (by kernel_rfl) (by simp) ?_
          refine AllReadyH.cons rfl (fun K hK => ?_) AllReadyH.nil
          go_simp; go_at_call 76; (with_reducible refine (HBO.out _ (Below.refl _ _).drew).mono ?_); rintro e w3 ⟨a3, n3, k3, b3, m3, d3, rfl, hc3, hb3⟩; have hBr3 := (Below.refl wr.heap.size wr).drew.trans (hb3.mono (Nat.le_refl _)); have hq3 := HQ.out w3 hBr3; have HEM := Lib.hid (emptyC_any a3 b3 n3 k3 m3 d3 (bothC x y) w3 hc3); clear hc3; rw [hbe] at HEM; (try go_wp2_with fail); refine hK.out _ _ (hq3) (fun hS1 => ?_); clear hK K; (try simp only [List.getElem_toArray, List.getElem_cons_succ, List.getElem_cons_zero, Act.put, List.setIfInBounds_toArray, List.set_cons_zero, List.set_cons_succ])
          refine wpAnyH_ready (rs := [9]) (by kernel_rfl) (by simp) ?_
          refine AllReadyH.cons rfl (fun K hK => ?_) AllReadyH.nil
          go_simp; go_at_call 21; (with_reducible refine HEM.out.mono ?_); rintro e w4 ⟨rfl, hb4⟩; have hBr4 := hBr3.trans (hb4.mono hBr3.size); have hq4 := HQ.out w4 hBr4; (try go_wp2_with fail); refine hK.out _ _ (hq4) (fun hS2 => ?_); clear hK K; (try simp only [List.getElem_toArray, List.getElem_cons_succ, List.getElem_cons_zero, Act.put, List.setIfInBounds_toArray, List.set_cons_zero, List.set_cons_succ])
          refine' wpAnyH_take (i := 10) (v := _) rfl (by kernel_rfl) (by kernel_rfl) (by kernel_rfl) (fun _ _ _ h => h) (Or.inl ⟨by rfl, fun w' hSw => ?_⟩) hS2 ?_; rotate_left; (focus ((try dsimp only at hSw); go_simp <;> (with_reducible rfl))); (try simp only [List.getElem_toArray, List.getElem_cons_succ, List.getElem_cons_zero, Act.put, List.setIfInBounds_toArray, List.set_cons_zero, List.set_cons_succ])
          refine wpAnyH_done (by kernel_rfl) (NoPanic.normal ?_) _
          clear hbe
          go_wp2_with fail
          go_roundw
          case rel => exact ⟨_, n1, _, t, rfl, hTL.out, HGS.out, htk.out, hbel.out.trans (hBr4.mono (by rw [World.size_alloc]; exact hzr))⟩
          case measure => simp [slC]
  · have HR : Hid (coveredC l x = true) := covered_empty he l
    rw [he] at HE0
    clear he h hl hT ih
    go_enter Tryz.func51, Tryz.ntmps51
    go_wp2_with (go_at_call 21; refine (HE0.out _ hb0.out).mono ?_; rintro e w1 ⟨rfl, hb1⟩)
    go_ret
    exact ⟨ret_bool HR.out.symm, bel1 hb1⟩
theorem covered_any (a b : Option Addr) (n c m d : Nat) (al : Option Addr) (nl cl : Nat) (x : Cu) (l : List Cu) (w : World) (h : Cb w ⟨a, n, c, b, m, d⟩ x) (hl : Cs w al nl cl l) (hT : Tz w) :
    Calls Tryz.prog 51 #[.agg #[.slice a n c, .slice b m d], .slice al nl cl] w (BoolPost w (coveredC l x)) := by
  have key : ∀ (k : Nat) (a b : Option Addr) (n c m d : Nat) (al : Option Addr) (nl cl : Nat) (x : Cu) (l : List Cu) (w : World), l.length < k → Cb w ⟨a, n, c, b, m, d⟩ x → Cs w al nl cl l → Tz w →
      Calls Tryz.prog 51 #[.agg #[.slice a n c, .slice b m d], .slice al nl cl] w (BoolPost w (coveredC l x)) := by
    intro k
    induction k with
    | zero => intro a b n c m d al nl cl x l w hk; omega
    | succ k ih =>
      intro a b n c m d al nl cl x l w hk h hl hT
      exact cov_body k ih a b n c m d al nl cl x l w (by omega) h hl hT
  exact key (l.length + 1) a b n c m d al nl cl x l w (by omega) h hl hT
end Go.Proofs.YtadomogbakcokaaGreatDoor
end
