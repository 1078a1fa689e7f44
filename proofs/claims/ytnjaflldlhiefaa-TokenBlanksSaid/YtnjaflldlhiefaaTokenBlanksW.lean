/- The walk of TokenBlanks: it returns true. -/
import Derived.Test.YtnjaflldlhiefaaTokenLongW
import Derived.Deep.RegionHeld3
namespace Go.Proofs.Ytnjaflldlhiefaa
open Go.RowKit Go.PlainAid
set_option linter.unusedVariables false
set_option linter.unusedSimpArgs false
set_option maxHeartbeats 2000000

def fills : List (List UInt8) := [[32], [9, 10], [32, 35, 32, 110, 111, 59, 32, 116, 111, 107, 101, 110, 45, 62, 10], [13, 32, 10, 35, 10], [10]]
abbrev fillCells : Array Value := #[.string ⟨#[32]⟩, .string ⟨#[9, 10]⟩, .string ⟨#[32, 35, 32, 110, 111, 59, 32, 116, 111, 107, 101, 110, 45, 62, 10]⟩, .string ⟨#[13, 32, 10, 35, 10]⟩, .string ⟨#[10]⟩]
theorem fill_gap : ∀ b ∈ fills, Gap b ∧ b ≠ [] ∧ b.length ≤ 15 ∧ Sep (b ++ [35]) ∧ skipL false (b ++ [35]) = (b ++ [35]).length := by
  intro b hb
  have h : ∀ l, Bare l → skipL false l = 0 := fun l h => skip_bare h
  simp only [fills, List.mem_cons, List.mem_nil_iff, or_false] at hb
  rcases hb with rfl | rfl | rfl | rfl | rfl
  · refine ⟨⟨.inl rfl, fun l hl => ?_⟩, by simp, by simp, .inl rfl, rfl⟩
    have e : skipL false ([32] ++ l) = skipL false l + 1 := rfl
    rw [e, h l hl]; rfl
  · refine ⟨⟨.inl rfl, fun l hl => ?_⟩, by simp, by simp, .inl rfl, rfl⟩
    have e : skipL false ([9, 10] ++ l) = skipL false l + 2 := rfl
    rw [e, h l hl]; rfl
  · refine ⟨⟨.inl rfl, fun l hl => ?_⟩, by simp, by simp, .inl rfl, rfl⟩
    have e : skipL false ([32, 35, 32, 110, 111, 59, 32, 116, 111, 107, 101, 110, 45, 62, 10] ++ l) = skipL false l + 15 := rfl
    rw [e, h l hl]; rfl
  · refine ⟨⟨.inl rfl, fun l hl => ?_⟩, by simp, by simp, .inl rfl, rfl⟩
    have e : skipL false ([13, 32, 10, 35, 10] ++ l) = skipL false l + 5 := rfl
    rw [e, h l hl]; rfl
  · refine ⟨⟨.inl rfl, fun l hl => ?_⟩, by simp, by simp, .inl rfl, rfl⟩
    have e : skipL false ([10] ++ l) = skipL false l + 1 := rfl
    rw [e, h l hl]; rfl
def fillB (zs : List Int) (n i : Nat) : List UInt8 := fills.getD ((if i < n then zs.getD i 0 else 0) % 5).toNat []
theorem fillB_mem (zs : List Int) (n i : Nat) : fillB zs n i ∈ fills := by
  unfold fillB
  generalize (if i < n then zs.getD i 0 else 0) = z
  have h : (z % 5).toNat < 5 := by omega
  generalize (z % 5).toNat = k at h
  match k, h with
  | 0, _ | 1, _ | 2, _ | 3, _ | 4, _ => simp [fills]
def withF (zs : List Int) (n : Nat) : Nat → List Tok → List (List UInt8 × Tok)
  | _, [] => []
  | i, t :: r => (fillB zs n i, t) :: withF zs n (i + 1) r
def outF (r : List (List UInt8 × Tok)) : List UInt8 := r.flatMap fun x => x.1 ++ x.2.text
theorem lay_flat : ∀ (r : List (List UInt8 × Tok)) (e : List UInt8), lay r e = outF r ++ e
  | [], e => rfl
  | (b, t) :: r, e => by simp only [lay, outF, List.flatMap_cons, lay_flat r e]; simp [outF]
theorem withF_append (zs : List Int) (n : Nat) : ∀ (l m : List Tok) (i : Nat), withF zs n i (l ++ m) = withF zs n i l ++ withF zs n (i + l.length) m
  | [], m, i => rfl
  | t :: l, m, i => by simp only [List.cons_append, withF, withF_append zs n l m (i + 1), List.length_cons]; rw [show i + 1 + l.length = i + (l.length + 1) from by omega]
theorem withF_len (zs : List Int) (n : Nat) : ∀ (l : List Tok) (i : Nat), (withF zs n i l).length = l.length
  | [], i => rfl
  | t :: l, i => by simp only [withF, List.length_cons, withF_len zs n l]
theorem withF_mem (zs : List Int) (n : Nat) : ∀ (l : List Tok) (i : Nat), ∀ x ∈ withF zs n i l, x.1 ∈ fills ∧ x.2 ∈ l
  | [], i, x, h => by simp [withF] at h
  | t :: l, i, x, h => by
    simp only [withF, List.mem_cons] at h
    rcases h with rfl | h
    · exact ⟨fillB_mem _ _ _, List.mem_cons_self⟩
    · have := withF_mem zs n l (i + 1) x h; exact ⟨this.1, List.mem_cons_of_mem _ this.2⟩
theorem withF_plain (zs : List Int) (n : Nat) : ∀ (l : List Tok) (i : Nat), (withF zs n i l).map (fun x => plainT x.2) = l.map plainT
  | [], i => rfl
  | t :: l, i => by simp only [withF, List.map_cons, withF_plain zs n l]
theorem outF_len (zs : List Int) (n : Nat) : ∀ (l : List Tok) (i : Nat), (outF (withF zs n i l)).length ≤ 15 * l.length + texts l ∧ l.length ≤ (outF (withF zs n i l)).length
  | [], i => by simp [withF, outF, texts]
  | t :: l, i => by
    have ih := outF_len zs n l (i + 1)
    have h := (fill_gap _ (fillB_mem zs n i))
    have h2 : 1 ≤ (fillB zs n i).length := List.length_pos_iff.2 h.2.1
    have h3 := h.2.2.1
    simp only [withF, outF, List.flatMap_cons, List.length_append, List.length_cons, texts] at ih ⊢
    omega
/-- Tokens of a source, with fills, are scanned again. -/
theorem blanks_law {l : List UInt8} (zs : List Int) (n : Nat) (hl : l.length ≤ 400) (he : (scanP l).2.2 = 0) :
    (scanP (outF (withF zs n 0 (scanP l).1) ++ [35])).2 = (0, 0) ∧ (scanP (outF (withF zs n 0 (scanP l).1) ++ [35])).1.map plainT = (scanP l).1.map plainT ∧ (scanP l).1.length ≤ 401 ∧
      (scanP (outF (withF zs n 0 (scanP l).1) ++ [35])).1.length ≤ 401 ∧ texts (scanP l).1 ≤ 400 := by
  obtain ⟨ts, p, e1, e2, e3, e4, e5⟩ := scanP_shape he
  have hg := fill_gap _ (fillB_mem zs n ts.length)
  have hout : outF (withF zs n 0 (scanP l).1) ++ [35] = lay (withF zs n 0 ts) (fillB zs n ts.length ++ [35]) := by
    rw [e1, withF_append, lay_flat]
    simp [outF, withF]
  have hlen := outF_len zs n ts 0
  have hlay : (lay (withF zs n 0 ts) (fillB zs n ts.length ++ [35])).length = (outF (withF zs n 0 ts)).length + ((fillB zs n ts.length).length + 1) := by rw [lay_flat]; simp
  have hs := scanP_lay (withF zs n 0 ts) (fillB zs n ts.length ++ [35]) (fun x hx => ⟨(fill_gap _ (withF_mem zs n ts 0 x hx).1).1, e3 _ (withF_mem zs n ts 0 x hx).2⟩)
    (fun x hx => (fill_gap _ (withF_mem zs n ts 0 x (List.mem_of_mem_tail hx)).1).2.1) hg.2.2.2.1 hg.2.2.2.2 (by have := hg.2.2.1; omega) (by rw [withF_len]; omega)
  have htx : texts (scanP l).1 = texts ts := by
    rw [e1]
    have : ∀ (a : List Tok), texts (a ++ [⟨0, [], 0, p⟩]) = texts a := by
      intro a
      induction a with
      | nil => rfl
      | cons t r ih => simp only [List.cons_append, texts, ih]
    exact this ts
  rw [hout]
  refine ⟨hs.1, by rw [hs.2, withF_plain, e1, List.map_append]; rfl, by rw [e1]; simp only [List.length_append, List.length_cons, List.length_nil]; omega, ?_, by omega⟩
  have := congrArg List.length hs.2
  simp only [List.length_map, List.length_append, List.length_cons, List.length_nil, withF_len] at this
  omega

/-- What the walk is told of a slice of bytes that came in. -/
def IsRow8 (w : World) (a : Option Addr) (len cap : Nat) (zs : List Int) : Prop :=
  len ≤ cap ∧ cap ≤ maxLen ∧ (∀ i, i < len → 0 ≤ zs.getD i 0 ∧ zs.getD i 0 ≤ 255) ∧ (len = 0 ∨ ∃ b o, a = some ⟨b, o, none⟩ ∧ b < w.heap.size ∧ ∀ i, i < len → w.cell? ⟨b, o + i, none⟩ = some (.int .u8 (zs.getD i 0)))

theorem withF_get (zs : List Int) (n : Nat) : ∀ (l : List Tok) (i j : Nat) (t : Tok), l[j]? = some t → (withF zs n i l)[j]? = some (fillB zs n (i + j), t)
  | [], i, j, t, h => by simp at h
  | x :: l, i, 0, t, h => by simp at h; subst h; simp [withF]
  | x :: l, i, j + 1, t, h => by simp only [withF, List.getElem?_cons_succ]; rw [withF_get zs n l (i + 1) j t (by simpa using h), show i + 1 + j = i + (j + 1) from by omega]
theorem outF_step (zs : List Int) (n : Nat) (l : List Tok) (j : Nat) (t : Tok) (h : l[j]? = some t) : outF ((withF zs n 0 l).take (j + 1)) = outF ((withF zs n 0 l).take j) ++ (fillB zs n j ++ t.text) := by
  rw [List.take_add_one, withF_get zs n l 0 j t h]
  simp [outF]
theorem texts_mem {ts : List Tok} {t : Tok} (h : t ∈ ts) : t.text.length ≤ texts ts := texts_le ts t h

set_option maxRecDepth 100000 in
theorem tokenBlanks_walk (s : ByteArray) (a : Option Addr) (n cap : Nat) (zs : List Int) (w : World) (hz : IsRow8 w a n cap zs) (hs : s.size ≤ 9223372036854775807) :
    Calls Try.prog 5 #[.string s, .slice a n cap] w fun e w' => e = .returned (.bool true) ∧ Below w.heap.size w w' := by
  obtain ⟨hnc, hcm, hrng, hrow⟩ := hz
  unfold maxLen at hcm
  obtain ⟨s', hs'⟩ : ∃ s', s' = s.extract 0 400 := ⟨_, rfl⟩
  have hsz' : s'.size ≤ 400 := by rw [hs']; simp; omega
  have HS := Lib.hid hs'
  clear hs'
  have hl' : s'.data.toList.length ≤ 400 := hsz'
  go_enter Try.func5, Try.ntmps5
  go_wp2_with fail
  refine (awake_any _).mono ?_
  rintro e w1 ⟨rfl, hb1⟩
  go_wp2_with fail
  refine (cut_any s _ hs).mono ?_
  rintro e w2 ⟨rfl, rfl⟩
  rw [← HS.out]
  go_wp2_with fail
  refine (scan_any s' _ (by omega)).mono ?_
  rintro e w2 ⟨v, rfl, hb2, ho2⟩
  have hb12 := hb1.trans (hb2.mono hb1.size)
  by_cases he : (scanP s'.data.toList).2.2 = 0
  · have HL := Lib.hid (blanks_law zs n hl' he)
    have hS := Sl.owned ho2
    obtain ⟨hS1, av, cv, hv, hvc, hvm, hS2⟩ := hS
    subst hv
    rw [he]
    obtain ⟨T, hT⟩ : ∃ T, T = (scanP s'.data.toList).1 := ⟨_, rfl⟩
    rw [← hT] at HL hS1 hS2 hvc ho2 ⊢
    obtain ⟨m, hm⟩ : ∃ m, m = T.length := ⟨_, rfl⟩
    rw [← hm] at hS1 hS2 hvc ho2 ⊢
    have HM := Lib.hid hm
    have hm401 : m ≤ 401 := by rw [hm]; exact HL.out.2.2.1
    unfold maxLen at hvm
    have hm0 : m ≠ 0 := by
      obtain ⟨ts, p, e1, _⟩ := scanP_shape he
      rw [hm, hT, e1]; simp
    rcases hS2 with hS2 | ⟨bv, ov, rfl, hbv, hcv⟩
    · exact absurd hS2 hm0
    have HC := Lib.hid hcv
    clear hm hT he hS1 hcv hm0
    go_wp2_with fail
    go_loopw [8, 31] (fun v8 v31 wr => ∃ (j : Nat) (out : ByteArray), j ≤ m ∧ v31 = .int .i64 j ∧ v8 = .string out ∧ Below w2.heap.size w2 wr ∧ Hid (out.data.toList = outF ((withF zs n 0 T).take j)) ∧ out.size ≤ 415 * j) (fun _ v31 _ => m - (intOf v31).toNat)
    case atStart => exact ⟨0, ⟨#[]⟩, by omega, rfl, rfl, Below.refl _ _, rfl, by decide⟩
    case round =>
      obtain ⟨j, out, hj, rfl, rfl, hbel, ho, hos⟩ := hrel
      by_cases hjm : j < m
      · obtain ⟨t, ht⟩ : ∃ t, T[j]? = some t := ⟨_, List.getElem?_eq_getElem (by rw [← HM.out]; exact hjm)⟩
        obtain ⟨p0, p1, p2, p3⟩ := tokP_cells HC.out j t hjm ht
        have hA : ∀ i, wr.cell? ⟨bv, i, none⟩ = w2.cell? ⟨bv, i, none⟩ := fun i => hbel.cell (p := ⟨bv, i, none⟩) hbv
        rw [← hA] at p0 p1 p2 p3
        have hsz := hbel.size
        have hst := Lib.hid (outF_step zs n T j t ht)
        have htx : t.text.length ≤ 400 := Nat.le_trans (texts_mem (List.mem_of_getElem? ht)) HL.out.2.2.2.2
        clear hA ht
        obtain ⟨k, tx, nn, ps⟩ := t
        dsimp only at p0 p1 p2 p3 htx hst
        have hsx : Hid ((⟨tx.toArray⟩ : ByteArray).data.toList = tx) := rfl
        have hsxl : (⟨tx.toArray⟩ : ByteArray).size ≤ 400 := by rw [size_mk]; exact htx
        generalize (⟨tx.toArray⟩ : ByteArray) = sx at *
        by_cases hjn : j < n
        · rcases hrow with hrow | ⟨b, o, rfl, hbl, hcell⟩
          · omega
          obtain ⟨z, hz⟩ : ∃ z, z = zs.getD j 0 := ⟨_, rfl⟩
          have hzc : wr.cell? ⟨b, o + j, none⟩ = some (.int .u8 z) := by
            have h1 : Below w.heap.size w wr := hb12.trans (hbel.mono hb12.size)
            rw [h1.cell (p := ⟨b, o + j, none⟩) hbl, hcell j hjn, hz]
          have hbw : b < wr.heap.size := by have := hb12.size; omega
          have hz0 := hrng j hjn
          rw [← hz] at hz0
          obtain ⟨hz0, hz1⟩ := hz0
          have hf : Hid (fillB zs n j = fills.getD (z % 5).toNat []) := by show _ = _; unfold fillB; rw [if_pos hjn, ← hz]
          have htm : z.tmod 5 = z % 5 := Int.tmod_eq_emod_of_nonneg hz0
          clear hcell hz
          obtain h5 | h5 | h5 | h5 | h5 : z % 5 = 0 ∨ z % 5 = 1 ∨ z % 5 = 2 ∨ z % 5 = 3 ∨ z % 5 = 4 := by omega
          · have hfb : Hid (fillB zs n j = [32]) := by have h := hf.out; rw [h5] at h; exact h
            rw [h5] at htm
            clear hf
            go_wp2_with fail
            go_region
            all_goals
              go_wp2_with fail
              go_roundw
              case rel => exact ⟨j + 1, _, by omega, by go_num, rfl, by go_grown, by
                show _ = _
                rw [hst.out, hfb.out, ba_add, ba_add, ho.out, hsx.out], by rw [ByteArray.size_append, ByteArray.size_append, show (⟨#[32]⟩ : ByteArray).size = 1 from rfl]; omega⟩
              case measure => simp [intOf]; omega
          · have hfb : Hid (fillB zs n j = [9, 10]) := by have h := hf.out; rw [h5] at h; exact h
            rw [h5] at htm
            clear hf
            go_wp2_with fail
            go_region
            all_goals
              go_wp2_with fail
              go_roundw
              case rel => exact ⟨j + 1, _, by omega, by go_num, rfl, by go_grown, by
                show _ = _
                rw [hst.out, hfb.out, ba_add, ba_add, ho.out, hsx.out], by rw [ByteArray.size_append, ByteArray.size_append, show (⟨#[9, 10]⟩ : ByteArray).size = 2 from rfl]; omega⟩
              case measure => simp [intOf]; omega
          · have hfb : Hid (fillB zs n j = [32, 35, 32, 110, 111, 59, 32, 116, 111, 107, 101, 110, 45, 62, 10]) := by have h := hf.out; rw [h5] at h; exact h
            rw [h5] at htm
            clear hf
            go_wp2_with fail
            go_region
            all_goals
              go_wp2_with fail
              go_roundw
              case rel => exact ⟨j + 1, _, by omega, by go_num, rfl, by go_grown, by
                show _ = _
                rw [hst.out, hfb.out, ba_add, ba_add, ho.out, hsx.out], by rw [ByteArray.size_append, ByteArray.size_append, show (⟨#[32, 35, 32, 110, 111, 59, 32, 116, 111, 107, 101, 110, 45, 62, 10]⟩ : ByteArray).size = 15 from rfl]; omega⟩
              case measure => simp [intOf]; omega
          · have hfb : Hid (fillB zs n j = [13, 32, 10, 35, 10]) := by have h := hf.out; rw [h5] at h; exact h
            rw [h5] at htm
            clear hf
            go_wp2_with fail
            go_region
            all_goals
              go_wp2_with fail
              go_roundw
              case rel => exact ⟨j + 1, _, by omega, by go_num, rfl, by go_grown, by
                show _ = _
                rw [hst.out, hfb.out, ba_add, ba_add, ho.out, hsx.out], by rw [ByteArray.size_append, ByteArray.size_append, show (⟨#[13, 32, 10, 35, 10]⟩ : ByteArray).size = 5 from rfl]; omega⟩
              case measure => simp [intOf]; omega
          · have hfb : Hid (fillB zs n j = [10]) := by have h := hf.out; rw [h5] at h; exact h
            rw [h5] at htm
            clear hf
            go_wp2_with fail
            go_region
            all_goals
              go_wp2_with fail
              go_roundw
              case rel => exact ⟨j + 1, _, by omega, by go_num, rfl, by go_grown, by
                show _ = _
                rw [hst.out, hfb.out, ba_add, ba_add, ho.out, hsx.out], by rw [ByteArray.size_append, ByteArray.size_append, show (⟨#[10]⟩ : ByteArray).size = 1 from rfl]; omega⟩
              case measure => simp [intOf]; omega
        · have hfb : Hid (fillB zs n j = [32]) := by show _ = _; unfold fillB; rw [if_neg hjn]; rfl
          go_wp2_with fail
          go_region
          all_goals
            go_wp2_with fail
            go_roundw
            case rel => exact ⟨j + 1, _, by omega, by go_num, rfl, by go_grown, by
              show _ = _
              rw [hst.out, hfb.out, ba_add, ba_add, ho.out, hsx.out], by rw [ByteArray.size_append, ByteArray.size_append, show (⟨#[32]⟩ : ByteArray).size = 1 from rfl]; omega⟩
            case measure => simp [intOf]; omega
      · obtain rfl : j = m := by omega
        have hfull : (withF zs n 0 T).take j = withF zs n 0 T := List.take_of_length_le (by rw [withF_len]; have := HM.out; omega)
        rw [hfull] at ho
        clear hfull
        have hb1r : Below w.heap.size w wr := hb12.trans (hbel.mono hb12.size)
        have hj35 : Hid ((out ++ ⟨#[35]⟩).data.toList = outF (withF zs n 0 T) ++ [35]) := by show _ = _; rw [ba_add, ho.out]
        have hS3 : Sl wr _ _ 4 _ := (Sl.owned ho2).below hbel
        have h35 : (out ++ ⟨#[35]⟩ : ByteArray).size ≤ 200000 := by
          have h1 : (⟨#[35]⟩ : ByteArray).size = 1 := rfl
          rw [ByteArray.size_append, h1]; omega
        clear hrow ho
        go_wp2_with fail
        obtain ⟨cat, hcat⟩ : ∃ cat, cat = out ++ (⟨#[35]⟩ : ByteArray) := ⟨_, rfl⟩
        rw [← hcat] at h35 hj35 ⊢
        clear hcat
        refine (scan_any cat _ (Nat.le_trans h35 (by decide))).mono ?_
        rintro e w4 ⟨u, rfl, hb4, ho4⟩
        rw [hj35.out] at ho4 ⊢
        rw [HL.out.1]
        have hb14 := hb1r.trans (hb4.mono hb1r.size)
        have hS4 := hS3.below hb4
        go_wp2_with fail
        refine (plain_any _ _ _ _ hS4 HM.out.symm (by omega)).mono ?_
        rintro e w5 ⟨v', rfl, hb5, ho5⟩
        have hb15 := hb14.trans (hb5.mono hb14.size)
        have hS5 := hS4.below hb5
        go_wp2_with fail
        refine (plain_any u _ _ _ ((Sl.owned ho4).below hb5) rfl (by have := HL.out.2.2.2.1; omega)).mono ?_
        rintro e w6 ⟨u', rfl, hb6, ho6⟩
        have hb16 := hb15.trans (hb6.mono hb15.size)
        have hS6 := hS5.below hb6
        have hU6 := ((Sl.owned ho4).below hb5).below hb6
        go_wp2_with fail
        refine (equal_any v' u' _ _ _ _ _ ((Sl.owned ho5).below hb6) (Sl.owned ho6) (by simp [← HM.out]) (by simp)).mono ?_
        rintro e w7 ⟨rfl, hb7⟩
        have hb17 := hb16.trans (hb7.mono hb16.size)
        have hS7 := hS6.below hb7
        have hU7 := hU6.below hb7
        rw [decide_eq_true (zt_of_plain HL.out.2.1).symm]
        have hK1 := Kt.ofP hS7 HM.out.symm
        have hK2 := Kt.ofP hU7 rfl
        have hkt : ktOf (scanP (outF (withF zs n 0 T) ++ [35])).1 = ktOf T := by
          have := congrArg (List.map fun x : Nat × List UInt8 × Nat => (x.1, x.2.1)) HL.out.2.1
          rw [List.map_map, List.map_map] at this
          exact this
        rw [hkt] at hK2
        have hjl : (joinK (ktOf T)).length ≤ 1000000 := by
          have h1 := joinK_bound (ktOf T) (by
            intro x hx
            obtain ⟨y, hy, rfl⟩ := List.mem_map.1 hx
            exact Nat.le_trans (texts_mem hy) HL.out.2.2.2.2)
          have h2 : (ktOf T).length = j := by unfold ktOf; rw [List.length_map]; exact HM.out.symm
          rw [h2] at h1; omega
        have hkl : (ktOf T).length ≤ 1000000 := by unfold ktOf; rw [List.length_map, ← HM.out]; omega
        clear hS3 hS4 hS5 hS6 hS7 hU6 hU7 ho2 ho4 ho5 ho6
        go_wp2_with fail
        refine (join_any _ _ _ hK1 hkl (by omega)).mono ?_
        rintro e w8 ⟨rfl, hb8⟩
        have hb18 := hb17.trans (hb8.mono hb17.size)
        go_wp2_with fail
        refine (join_any _ _ _ (hK2.below hb8) hkl (by omega)).mono ?_
        rintro e w9 ⟨rfl, hb9⟩
        have hb19 := hb18.trans (hb9.mono hb18.size)
        go_wp2_with fail
        go_ret
        exact ⟨rfl, hb19⟩
  · have hne := Lib.hid (scanP_err he)
    have he2 : (((scanP s'.data.toList).2.2 : Int) == 0) = false := by simpa using he
    have he3 : (((scanP s'.data.toList).2.2 : Int) != 0) = true := by simpa using he
    have ho2' := ho2.2
    rw [hne.out] at ho2'
    rcases ho2' with ⟨rfl, _⟩ | ⟨g5, c5, _, rfl, _⟩
    all_goals
      clear he ho2 hrow hrng hs
      go_wp2_with fail
      go_ret
      exact ⟨rfl, hb12⟩

end Go.Proofs.Ytnjaflldlhiefaa
