/- Contract: Parse. -/
import Derived.Test.YtaekkpoknpnnbaaDoorBtP
import Derived.Lib.SmallJoins
namespace Go.Proofs.YtaekkpoknpnnbaaDoor
open Go.RowKit Go.PlainAid
set_option linter.unusedVariables false
set_option linter.unusedSimpArgs false
set_option maxHeartbeats 4000000

/-- What the library's tables and errors hold, now and later. -/
structure Wld (w : World) : Prop where
  tz : Tz w
  pow : Pow10 w
  space : Lib.TabBelow Tryd.prog w.heap.size w "strings.asciiSpace" .u8 Lib.asciiSpaceTab
  white : ∀ w', Below w.heap.size w w' → Lib.WhiteTab 2 w'
  syn : ∃ tp p, ∀ w', Below w.heap.size w w' → w'.var? Tryd.prog "strconv.ErrSyntax" = some #[.iface tp p]
  rng : ∃ tp p, ∀ w', Below w.heap.size w w' → w'.var? Tryd.prog "strconv.ErrRange" = some #[.iface tp p]
theorem Wld.below {w w' : World} (h : Wld w) (hb : Below w.heap.size w w') : Wld w' where
  tz := h.tz.below hb
  pow := fun u hu => h.pow u (hb.trans (hu.mono hb.size))
  space := fun u hu => h.space u (hb.trans (hu.mono hb.size))
  white := fun u hu => h.white u (hb.trans (hu.mono hb.size))
  syn := by obtain ⟨tp, p, k⟩ := h.syn; exact ⟨tp, p, fun u hu => k u (hb.trans (hu.mono hb.size))⟩
  rng := by obtain ⟨tp, p, k⟩ := h.rng; exact ⟨tp, p, fun u hu => k u (hb.trans (hu.mono hb.size))⟩

def ParsePost (s : ByteArray) (w : World) (e : Ending) (w' : World) : Prop :=
  ((∃ a n cap l, e = .returned (.tuple #[.agg #[.slice a n cap], .int .i64 0]) ∧ Bs w' a n cap l ∧ s.data.toList = textB l) ∨
    (e = .returned (.tuple #[.agg #[.slice none 0 0], .int .i64 6]) ∧ ∀ l, Asc l → s.data.toList ≠ textB l)) ∧ Below w.heap.size w w'
theorem textB_ends (l : List Nat) : 2 ≤ (textB l).length ∧ (textB l)[0]? = some 123 ∧ (textB l)[(textB l).length - 1]? = some 125 := by
  unfold textB headB
  refine ⟨by simp, by simp, ?_⟩
  rw [List.length_append, List.length_singleton, Nat.add_sub_cancel, List.getElem?_append_right (Nat.le_refl _)]; simp
theorem atoi_good (s : ByteArray) (hs : s.size ≤ 281474976710656) (v : Int) (hq : Lib.atoiAll s.data.toList = .ok v) (w : World) :
    Calls Tryd.prog 55 #[.string s] w fun e w' => e = .returned (.tuple #[.int .i64 v, .nilIface]) ∧ Below w.heap.size w w' := by
  refine (Tryd.strconv_Atoi_ok s (by omega) v hq w).mono ?_
  rintro e w' ⟨rfl, h⟩
  refine ⟨rfl, ?_⟩
  rcases h with rfl | ⟨t, rfl⟩
  · exact Below.refl _ _
  · exact Joins.below_bytesWorld _ _ _ _ (Nat.le_refl _)
theorem atoi_bad (s : ByteArray) (hs : s.size ≤ 281474976710656) (hq : ∀ v, Lib.atoiAll s.data.toList ≠ .ok v) (w : World) (h : Wld w) :
    Calls Tryd.prog 55 #[.string s] w fun e w' => ∃ v tp p, e = .returned (.tuple #[.int .i64 v, .iface tp p]) ∧ Below w.heap.size w w' := by
  cases hq2 : Lib.atoiAll s.data.toList
  · exact absurd hq2 (hq _)
  · obtain ⟨tp, p, hv⟩ := h.syn
    refine (Any.strconv_Atoi_syntax_var Tryd.laysC172 s hs hq2 tp p w (hv w (Below.refl _ _))).mono ?_
    rintro e w' ⟨N, rfl, _, _, hb⟩
    exact ⟨_, _, _, rfl, hb⟩
  · obtain ⟨tp, p, hv⟩ := h.rng
    refine (Tryd.strconv_Atoi_range_var s hs hq2 tp p w (hv w (Below.refl _ _))).mono ?_
    rintro e w' ⟨N, rfl, _, _, hb⟩
    exact ⟨_, _, _, rfl, hb⟩
theorem fieldsGo_len : ∀ (f : Nat) (cur l : List UInt8), (Lib.fieldsGoD f cur l).length ≤ f + 1 ∧ (cur = [] → (Lib.fieldsGoD f cur l).length ≤ f)
  | 0, cur, l => by
    unfold Lib.fieldsGoD
    constructor
    · split <;> simp
    · intro h; rw [if_pos h]; simp
  | f + 1, cur, l => by
    have h1 := fieldsGo_len f [] (l.drop (Lib.decodeL l).2)
    have h2 := fieldsGo_len f (cur ++ l.take (Lib.decodeL l).2) (l.drop (Lib.decodeL l).2)
    unfold Lib.fieldsGoD
    constructor
    · split
      · split <;> simp
      · split
        · rw [List.length_append]
          have h3 := h1.2 rfl
          split <;> simp <;> omega
        · omega
    · intro h
      have h3 := h1.2 rfl
      simp only [h, if_true, List.nil_append] at h2 ⊢
      split
      · simp
      · split
        · omega
        · omega
theorem fieldsGo_each : ∀ (f : Nat) (cur l : List UInt8), ∀ x ∈ Lib.fieldsGoD f cur l, x.length ≤ cur.length + l.length
  | 0, cur, l => by
    intro x hx
    unfold Lib.fieldsGoD at hx
    split at hx
    · simp at hx
    · simp at hx; subst hx; omega
  | f + 1, cur, l => by
    intro x hx
    unfold Lib.fieldsGoD at hx
    split at hx
    · split at hx
      · simp at hx
      · simp at hx; subst hx; omega
    · split at hx
      · rw [List.mem_append] at hx
        rcases hx with hx | hx
        · split at hx
          · simp at hx
          · simp at hx; subst hx; omega
        · have := fieldsGo_each f _ _ x hx
          simp at this; omega
      · have := fieldsGo_each f _ _ x hx
        simp at this; omega
theorem iw_of_row {w : World} {B k : Nat} {v : Value} {zs : List Int} (h : w.ownsRow B 3 1 v k (zs.map fun z => .int .i64 z)) (hz : zs.length = k) : ∃ a cap, v = .slice a k cap ∧ Iw w a k cap zs := by
  rcases h.2 with ⟨rfl, rfl⟩ | ⟨g, cap, cur, rfl, hBg, hg, h1, h2, h3, h4⟩
  · exact ⟨none, 0, rfl, hz, Nat.le_refl _, by omega, .inl ⟨rfl, rfl, rfl⟩⟩
  · refine ⟨_, _, rfl, hz, h1, by unfold maxLen at h2; omega, .inr ⟨g, 0, rfl, (World.ownsRow.lt h g rfl).2, fun j hj => ?_⟩⟩
    rw [Nat.zero_add, World.ownsRow.cellAt h j (by simpa using hj), List.getElem?_map, List.getElem?_eq_getElem (by omega)]
    unfold zg
    rw [List.getD_eq_getElem?_getD, List.getElem?_eq_getElem (by omega)]; rfl
theorem toList_inj {a b : ByteArray} (h : a.toList = b.toList) : a = b := by
  simp only [Lib.toList_data] at h
  cases a; cases b; simp at h; rw [h]
theorem inner_of {s : ByteArray} {l : List Nat} (h : s.data.toList = textB l) : (s.extract 1 (s.size - 1)).data.toList = joinB l := by
  rw [ByteArray.data_extract, Array.toList_extract]
  have hs : s.size = (textB l).length := by rw [← h]; rfl
  rw [h, hs]
  unfold textB headB
  simp [List.extract_eq_take_drop]
theorem out_of_ends {s : ByteArray} (h2 : 2 ≤ s.size) (h : ¬ (s[0].toNat = 123 ∧ s[s.size - 1].toNat = 125)) (l : List Nat) : s.data.toList ≠ textB l := by
  intro e
  obtain ⟨a, b, c⟩ := textB_ends l
  rw [← e] at a b c
  apply h
  constructor
  · have : s.data.toList[0]? = some s[0] := by rw [List.getElem?_eq_getElem (by simpa using (show 0 < s.size by omega))]; rfl
    rw [this] at b; rw [Option.some.inj b]; rfl
  · have : s.data.toList[s.size - 1]? = some s[s.size - 1] := by rw [List.getElem?_eq_getElem (by simpa using (show s.size - 1 < s.size by omega))]; rfl
    have e2 : s.data.toList.length = s.size := rfl
    rw [e2, this] at c; rw [Option.some.inj c]; rfl

set_option maxRecDepth 20000 in
set_option maxHeartbeats 1500000 in
theorem parse_any (s : ByteArray) (hs : s.size ≤ 100000) (w : World) (hW : Wld w) :
    Calls Tryd.prog 24 #[.string s] w (ParsePost s w) := by
  have HW := Lib.hid hW
  clear hW
  by_cases h2 : 2 ≤ s.size
  · by_cases h3 : s[0].toNat = 123 ∧ s[s.size - 1].toNat = 125
    · have hA : (s[0].toNat : Int) = 123 := by omega
      have hB : (s[s.size - 1].toNat : Int) = 125 := by omega
      clear h3
      have hisz : (s.extract 1 (s.size - 1)).size ≤ 100000 := by rw [ByteArray.size_extract]; omega
      have hF := Lib.hid (fun w' (hb : Below w.heap.size w w') => Tryd.strings_Fields_any (s.extract 1 (s.size - 1)) w' (by omega) ((HW.out.below hb).space.here) ((HW.out.below hb).white _ (Below.refl _ _)))
      have hfl : (Lib.fieldsD (s.extract 1 (s.size - 1)).data.toList).length ≤ 100002 := by
        have := (fieldsGo_len ((s.extract 1 (s.size - 1)).data.toList.length + 1) [] (s.extract 1 (s.size - 1)).data.toList).2 rfl
        have e : (s.extract 1 (s.size - 1)).data.toList.length = (s.extract 1 (s.size - 1)).size := rfl
        unfold Lib.fieldsD; omega
      have hfe : Hid (∀ x ∈ Lib.fieldsD (s.extract 1 (s.size - 1)).data.toList, x.length ≤ 100000) := by
        intro x hx
        have := fieldsGo_each _ _ _ x hx
        have e : (s.extract 1 (s.size - 1)).data.toList.length = (s.extract 1 (s.size - 1)).size := rfl
        simp only [List.length_nil, e] at this; omega
      have hfs : Hid (∀ l, s.data.toList = textB l → Lib.fieldsD (s.extract 1 (s.size - 1)).data.toList = l.map Lib.decDigits) := by
        intro l hl; rw [inner_of hl, fieldsD_join]
      generalize Lib.fieldsD (s.extract 1 (s.size - 1)).data.toList = fs at hF hfl hfe hfs
      obtain ⟨i0, hi, hz0, hz1, hz2⟩ := info_parts info3i
      go_enter Tryd.func24, Tryd.ntmps24
      go_wp2_with (go_at_call 54; refine (hF.out _ ((Below.refl _ w).alloc (Nat.le_refl _) _)).mono ?_; rintro e w1 ⟨A, rfl, hA1, hrow, hb1⟩)
      have hzw1 : w.heap.size + 1 ≤ w1.heap.size := by have := hb1.size; simp at this; omega
      have hAlt : A < w1.heap.size := (World.ownsRow.lt hrow A rfl).2
      have hfc : Hid (∀ k (h : k < fs.length), w1.cell? ⟨A, k, none⟩ = some (.string ⟨fs[k].toArray⟩)) := by
        intro k h
        rw [World.ownsRow.cellAt hrow k (by simpa using h), List.getElem?_map, List.getElem?_eq_getElem h]; rfl
      have hb01 := Lib.hid (((Below.refl w.heap.size w).alloc (Nat.le_refl _) (.cells #[.slice none 0 0] 27)).trans (hb1.mono (by simp)))
      have hc1 := Lib.hid ((hb1.cell (p := ⟨w.heap.size, 0, none⟩) (by simp)).trans (new1 w _ _).1)
      have hf1 := Lib.hid ((hb1.frozen (p := ⟨w.heap.size, 0, none⟩) (by simp)).trans (new1 w _ _).2)
      clear hrow hb1 hF hA1
      go_wp2_with fail
      go_loopw [4, 34] (fun v i wr => ∃ (k : Nat) (zs : List Int), k ≤ fs.length ∧ i = .int .i64 (k : Nat) ∧ zs.length = k ∧ Hid (∀ j (h : j < fs.length), j < k → Lib.atoiAll fs[j] = .ok (zg zs j)) ∧ Hid (wr.ownsRow w1.heap.size 3 1 v k (zs.map fun z => .int .i64 z)) ∧ Hid (Below w1.heap.size w1 wr)) (fun _ i _ => fs.length - (intOf i).toNat)
      case atStart => exact ⟨0, [], Nat.zero_le _, rfl, rfl, fun j _ hj => by omega, World.ownsRow_nil _ _ _ _, Below.refl _ _⟩
      case round =>
        obtain ⟨k, zs, hk, rfl, hzl, hok, hrow, hB⟩ := hrel
        have hzr := hB.out.size
        have hBw := Lib.hid (hb01.out.trans (hB.out.mono hb01.out.size))
        have c0 := (hB.out.cell (p := ⟨w.heap.size, 0, none⟩) (show w.heap.size < w1.heap.size by omega)).trans hc1.out
        have f0 := (hB.out.frozen (p := ⟨w.heap.size, 0, none⟩) (show w.heap.size < w1.heap.size by omega)).trans hf1.out
        by_cases hlt : k < fs.length
        · have x1 := (hB.out.cell (p := ⟨A, k, none⟩) hAlt).trans (hfc.out k hlt)
          have hxl : (ByteArray.mk fs[k].toArray).size ≤ 281474976710656 := by
            have := hfe.out fs[k] (List.getElem_mem hlt)
            show fs[k].toArray.size ≤ _
            rw [List.size_toArray]; omega
          by_cases hq : ∃ v, Lib.atoiAll fs[k] = .ok v
          · obtain ⟨v, hv⟩ := hq
            have hAt := Lib.hid (fun w' => atoi_good ⟨fs[k].toArray⟩ hxl v (by simpa using hv) w')
            have HV := Lib.hid hv
            generalize fs[k] = fk at x1 hAt
            clear hv hxl
            go_wp2_with (first
              | (go_at_call 55; refine (hAt.out _).mono ?_; rintro e w2 ⟨rfl, hb2⟩; have HB2 := Lib.hid hb2; have hz2' := hb2.size; have hown := owns_below hrow.out (Nat.le_refl _) hb2; clear hb2)
              | (at_builtin; refine wpList_append_own _ rfl _ _ 22 rfl w1.heap.size 3 i0 (.int .i64 0) 1 8 Tryd.underlying22 hi hz0 hz1 hz2 rfl (by decide) _ _ _ rfl (hown.alloc _) ⟨w2.heap.size, 0, none⟩ 1 1 [.int .i64 v] rfl rfl (cell_one_new _ _ _) (by simp [Value.oneCell']) (by unfold maxLen; omega) (by omega) (by simp; omega) ?_; intro v' w3 hown' hgrow _; have hown3 := Lib.hid hown'; have hB3 := Lib.hid ((((hB.out.trans (HB2.out.mono hzr)).alloc (by omega) _).grown hgrow (by simp; omega) (fun b hb => (hown.lt b hb).1))); clear hown' hgrow))
            go_roundw
            case rel => exact ⟨k + 1, zs ++ [v], by omega, by go_num, by simp [hzl], fun j h hj => by
              unfold zg
              rw [List.getD_eq_getElem?_getD]
              by_cases hjk : j < k
              · rw [List.getElem?_append_left (by omega)]
                have := hok.out j h hjk
                unfold zg at this
                rw [List.getD_eq_getElem?_getD] at this
                exact this
              · have : j = k := by omega
                subst this
                rw [List.getElem?_append_right (by omega), hzl, Nat.sub_self]
                exact HV.out, by show World.ownsRow _ _ _ _ _ _ _; rw [List.map_append]; exact hown3.out, hB3.out⟩
            case measure => simp [intOf]; omega
          · have hq' : ∀ v, Lib.atoiAll fs[k] ≠ .ok v := fun v hv => hq ⟨v, hv⟩
            have HN : Hid (∀ l, Asc l → s.data.toList ≠ textB l) := by
              intro l hl e
              have e2 := hfs.out l e
              have h3 : k < l.length := by rw [e2] at hlt; simpa using hlt
              have h4 : fs[k] = Lib.decDigits l[k] := by simp [e2]
              exact hq' l[k] (by rw [h4]; exact atoi_dec _ (hl.2 _ (List.getElem_mem h3)))
            have hAt := Lib.hid (atoi_bad ⟨fs[k].toArray⟩ hxl (by simpa using hq') wr (HW.out.below hBw.out))
            generalize fs[k] = fk at x1 hAt
            clear hq hq' hxl
            go_wp2_with (go_at_call 55; refine hAt.out.mono ?_; rintro e w2 ⟨v2, tp2, p2, rfl, hb2⟩; have c2 := (hb2.cell (p := ⟨w.heap.size, 0, none⟩) (show w.heap.size < wr.heap.size by omega)).trans c0; have f2 := (hb2.frozen (p := ⟨w.heap.size, 0, none⟩) (show w.heap.size < wr.heap.size by omega)).trans f0; have HB2 := Lib.hid hb2; clear hb2)
            have cs := World.cell?_setCell_same w2 ⟨w.heap.size, 0, none⟩ (.slice none 0 0) c2
            refine bodyPost_ret (v := .tuple #[.agg #[.slice none 0 0], .int .i64 6]) (by simp [results, Tryd.results24, go_sem, cs]) rfl ?_
            exact ⟨.inr ⟨rfl, HN.out⟩, (hBw.out.trans (HB2.out.mono hBw.out.size)).setCell (Nat.le_refl _) _⟩
        · have hkq : k = fs.length := by omega
          have HKQ := Lib.hid hkq
          clear hkq
          obtain ⟨av, capv, rfl, hIw⟩ := iw_of_row hrow.out hzl
          have hOf := Lib.hid (of_any av k capv zs wr hIw (by omega))
          clear hIw
          have hTx := Lib.hid (fun a2 n2 d2 w' (h : Bs w' a2 n2 d2 (ofL zs)) (hb : Below w.heap.size w w') => text_any a2 n2 d2 (ofL zs) w' h (HW.out.below hb).tz (HW.out.below hb).pow)
          by_cases heq : (ByteArray.mk (textB (ofL zs)).toArray) = s
          · have HE : Hid (s.data.toList = textB (ofL zs)) := by show _ = _; rw [← heq]
            rw [heq] at hTx
            clear heq
            go_wp2_with (first
              | (go_at_call 16; refine hOf.out.mono ?_; rintro e w2 ⟨a2, n2, d2, rfl, hs2, hb2⟩; have HS2 := Lib.hid hs2; have c2 := (hb2.cell (p := ⟨w.heap.size, 0, none⟩) (show w.heap.size < wr.heap.size by omega)).trans c0; have f2 := (hb2.frozen (p := ⟨w.heap.size, 0, none⟩) (show w.heap.size < wr.heap.size by omega)).trans f0; have HB2 := Lib.hid (hBw.out.trans (hb2.mono hBw.out.size)); have hz2' := hb2.size; clear hb2 hs2)
              | (go_at_call 26; refine (hTx.out a2 n2 d2 _ (HS2.out.below ((Below.refl _ _).alloc (Nat.le_refl _) _)) (HB2.out.alloc (by omega) _)).mono ?_; rintro e w4 ⟨rfl, hb4⟩; have c4 := (hb4.cell (p := ⟨w.heap.size, 0, none⟩) (show w.heap.size < (w2.alloc _).heap.size by rw [World.size_alloc]; omega)).trans (((Below.refl w2.heap.size w2).alloc (Nat.le_refl _) _).cell (p := ⟨w.heap.size, 0, none⟩) (show w.heap.size < w2.heap.size by omega) |>.trans c2); have f4 := (hb4.frozen (p := ⟨w.heap.size, 0, none⟩) (show w.heap.size < (w2.alloc _).heap.size by rw [World.size_alloc]; omega)).trans (((Below.refl w2.heap.size w2).alloc (Nat.le_refl _) _).frozen (p := ⟨w.heap.size, 0, none⟩) (show w.heap.size < w2.heap.size by omega) |>.trans f2); have q4 := (hb4.cell (p := ⟨w2.heap.size, 0, none⟩) (show w2.heap.size < (w2.alloc _).heap.size by rw [World.size_alloc]; omega)).trans (new1 w2 _ _).1; have HB4 := Lib.hid hb4; have hz4 := hb4.size; simp at hz4; clear hb4))
            have HBf := Lib.hid ((HB2.out.alloc (by omega) _).trans (HB4.out.mono (by simp; omega)))
            have cs := World.cell?_setCell_same w4 ⟨w.heap.size, 0, none⟩ (.slice a2 n2 d2) c4
            refine bodyPost_ret (v := .tuple #[.agg #[.slice a2 n2 d2], .int .i64 0]) (by simp [results, Tryd.results24, go_sem, cs]) rfl ?_
            have hBs4 := (HS2.out.below ((Below.refl _ _).alloc (Nat.le_refl _) (.cells #[.slice a2 n2 d2] 27))).below HB4.out
            exact ⟨.inl ⟨a2, n2, d2, _, rfl, hBs4.set c4 (by intro x e; cases e), HE.out⟩, HBf.out.setCell (Nat.le_refl _) _⟩
          · have hx1 : ((ByteArray.mk (textB (ofL zs)).toArray).toList == s.toList) = false := beq_eq_false_iff_ne.2 (fun e => heq (toList_inj e))
            have hx2 : ((ByteArray.mk (textB (ofL zs)).toArray).toList != s.toList) = true := by rw [bne, hx1]; rfl
            have HN : Hid (∀ l, Asc l → s.data.toList ≠ textB l) := by
              intro l hl e
              have e2 := hfs.out l e
              have e3 : zs = l.map fun x : Nat => (x : Int) := by
                apply List.ext_getElem
                · rw [hzl, HKQ.out, e2]; simp
                · intro j h1 h2
                  have h3 : j < fs.length := by rw [← HKQ.out, ← hzl]; exact h1
                  have h4 := hok.out j h3 (by rw [HKQ.out]; exact h3)
                  have h5 : j < l.length := by simpa using h2
                  have h6 : fs[j] = Lib.decDigits l[j] := by simp [e2]
                  rw [h6, atoi_dec _ (hl.2 _ (List.getElem_mem h5))] at h4
                  have h7 : zg zs j = zs[j] := by unfold zg; rw [List.getD_eq_getElem?_getD, List.getElem?_eq_getElem h1]; rfl
                  rw [h7] at h4
                  simp at h4
                  simp [← h4]
              apply heq
              rw [e3, ofL_self hl, ← e]
            generalize (ByteArray.mk (textB (ofL zs)).toArray) = tx at hTx heq hx1 hx2
            go_wp2_with (first
              | (go_at_call 16; refine hOf.out.mono ?_; rintro e w2 ⟨a2, n2, d2, rfl, hs2, hb2⟩; have HS2 := Lib.hid hs2; have c2 := (hb2.cell (p := ⟨w.heap.size, 0, none⟩) (show w.heap.size < wr.heap.size by omega)).trans c0; have f2 := (hb2.frozen (p := ⟨w.heap.size, 0, none⟩) (show w.heap.size < wr.heap.size by omega)).trans f0; have HB2 := Lib.hid (hBw.out.trans (hb2.mono hBw.out.size)); have hz2' := hb2.size; clear hb2 hs2)
              | (go_at_call 26; refine (hTx.out a2 n2 d2 _ (HS2.out.below ((Below.refl _ _).alloc (Nat.le_refl _) _)) (HB2.out.alloc (by omega) _)).mono ?_; rintro e w4 ⟨rfl, hb4⟩; have c4 := (hb4.cell (p := ⟨w.heap.size, 0, none⟩) (show w.heap.size < (w2.alloc _).heap.size by rw [World.size_alloc]; omega)).trans (((Below.refl w2.heap.size w2).alloc (Nat.le_refl _) _).cell (p := ⟨w.heap.size, 0, none⟩) (show w.heap.size < w2.heap.size by omega) |>.trans c2); have f4 := (hb4.frozen (p := ⟨w.heap.size, 0, none⟩) (show w.heap.size < (w2.alloc _).heap.size by rw [World.size_alloc]; omega)).trans (((Below.refl w2.heap.size w2).alloc (Nat.le_refl _) _).frozen (p := ⟨w.heap.size, 0, none⟩) (show w.heap.size < w2.heap.size by omega) |>.trans f2); have q4 := (hb4.cell (p := ⟨w2.heap.size, 0, none⟩) (show w2.heap.size < (w2.alloc _).heap.size by rw [World.size_alloc]; omega)).trans (new1 w2 _ _).1; have HB4 := Lib.hid hb4; have hz4 := hb4.size; simp at hz4; clear hb4))
            have HBf := Lib.hid ((HB2.out.alloc (by omega) _).trans (HB4.out.mono (by simp; omega)))
            have cs := World.cell?_setCell_same w4 ⟨w.heap.size, 0, none⟩ (.slice none 0 0) c4
            refine bodyPost_ret (v := .tuple #[.agg #[.slice none 0 0], .int .i64 6]) (by simp [results, Tryd.results24, go_sem, cs]) rfl ?_
            exact ⟨.inr ⟨rfl, HN.out⟩, HBf.out.setCell (Nat.le_refl _) _⟩
    · have HN := Lib.hid (out_of_ends h2 h3)
      go_enter Tryd.func24, Tryd.ntmps24
      go_wp2_with fail
      all_goals first | (exfalso; omega) | skip
      all_goals
        refine bodyPost_ret (v := .tuple #[.agg #[.slice none 0 0], .int .i64 6]) (by simp [results, Tryd.results24, go_sem]) rfl ?_
        exact ⟨.inr ⟨rfl, fun l _ => HN.out l⟩, (Below.refl _ w).alloc (Nat.le_refl _) _⟩
  · have HN : Hid (∀ l, s.data.toList ≠ textB l) := by
      intro l e
      have := (textB_ends l).1
      rw [← e] at this
      exact h2 this
    go_enter Tryd.func24, Tryd.ntmps24
    go_wp2_with fail
    refine bodyPost_ret (v := .tuple #[.agg #[.slice none 0 0], .int .i64 6]) (by simp [results, Tryd.results24, go_sem]) rfl ?_
    exact ⟨.inr ⟨rfl, fun l _ => HN.out l⟩, (Below.refl _ w).alloc (Nat.le_refl _) _⟩
end Go.Proofs.YtaekkpoknpnnbaaDoor
