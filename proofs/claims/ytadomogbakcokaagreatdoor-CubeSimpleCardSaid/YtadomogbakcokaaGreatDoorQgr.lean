/- Several of the texts below, joined: CuZ CuAa. -/
import Derived.Test.YtadomogbakcokaaGreatDoorQgq
section
/- Contract: Parse of a cube. -/
namespace Go.Proofs.YtadomogbakcokaaGreatDoor
open Go.RowKit Go.PlainAid Go.Shelf
set_option linter.unusedVariables false
set_option linter.unusedSimpArgs false
set_option maxHeartbeats 4000000

def litP (x : Cu) (f : List UInt8) : Cu := match Lib.atoiAll (Lib.trimPrefix f [33]) with
  | .ok v => if f.head? = some 33 then (x.1, withL x.2 v) else (withL x.1 v, x.2)
  | _ => x
def parseL (s : List UInt8) : Cu := (Lib.fieldsD s).foldl litP ([], [])
theorem litP_no {x : Cu} {f : List UInt8} (h : ∀ v, Lib.atoiAll (Lib.trimPrefix f [33]) ≠ .ok v) : litP x f = x := by
  unfold litP
  split
  · rename_i v hv; exact absurd hv (h v)
  · rfl
theorem litP_neg {x : Cu} {f : List UInt8} {v : Int} (h : Lib.atoiAll (Lib.trimPrefix f [33]) = .ok v) (hf : f.head? = some 33) : litP x f = (x.1, withL x.2 v) := by
  unfold litP; rw [h]; simp [hf]
theorem litP_pos {x : Cu} {f : List UInt8} {v : Int} (h : Lib.atoiAll (Lib.trimPrefix f [33]) = .ok v) (hf : f.head? ≠ some 33) : litP x f = (withL x.1 v, x.2) := by
  unfold litP; rw [h]; simp [hf]
theorem fold_at {l : List (List UInt8)} {k : Nat} {f : List UInt8} (h : l[k]? = some f) (x : Cu) : (l.take (k + 1)).foldl litP x = litP ((l.take k).foldl litP x) f := by
  rw [take_at' h, List.foldl_append]; rfl

/-- The cube's box holds the cube x. -/
def PJ (g : Nat) (a : Option Addr) (n c : Nat) (b : Option Addr) (m d : Nat) (x : Cu) (W : World) : Prop :=
  W.heap[g]? = some (.cells #[.slice a n c, .slice b m d] 34 (0, 0)) ∧ Cb W ⟨a, n, c, b, m, d⟩ x
section
variable {g : Nat} {a : Option Addr} {n c : Nat} {b : Option Addr} {m d : Nat} {x : Cu} {W W' : World}
theorem PJ.lt (h : PJ g a n c b m d x W) : g < W.heap.size := (Array.getElem?_eq_some_iff.1 h.1).1
theorem PJ.below (h : PJ g a n c b m d x W) (hb : Below W.heap.size W W') : PJ g a n c b m d x W' :=
  ⟨(hb.block g h.lt).trans h.1, h.2.below hb⟩
theorem PJ.cells (h : PJ g a n c b m d x W) : W.cell? ⟨g, 0, none⟩ = some (.slice a n c) ∧ W.cell? ⟨g, 1, none⟩ = some (.slice b m d) ∧ W.frozen? ⟨g, 0, none⟩ = false ∧ W.frozen? ⟨g, 1, none⟩ = false := by
  obtain ⟨a1, a2, a3⟩ := cell_of2 h.1
  exact ⟨a1, a2, a3 0, a3 1⟩
theorem PJ.set1 {a' : Option Addr} {n' c' : Nat} {l : List Nat} (h : PJ g a n c b m d x W) (hl : Bs W a' n' c' l) : PJ g a' n' c' b m d (l, x.2) (W.setCell ⟨g, 0, none⟩ (.slice a' n' c')) := by
  obtain ⟨x0, x1, _⟩ := h.cells
  have hs : ∀ x : Int, (Value.slice a n c) ≠ .int .u64 x := fun x e => by cases e
  exact ⟨(heap_set2 h.1 _).1, ⟨hl.set x0 hs, h.2.2.set x0 hs⟩⟩
theorem PJ.set2 {a' : Option Addr} {n' c' : Nat} {l : List Nat} (h : PJ g a n c b m d x W) (hl : Bs W a' n' c' l) : PJ g a n c a' n' c' (x.1, l) (W.setCell ⟨g, 1, none⟩ (.slice a' n' c')) := by
  obtain ⟨x0, x1, _⟩ := h.cells
  have hs : ∀ x : Int, (Value.slice b m d) ≠ .int .u64 x := fun x e => by cases e
  exact ⟨(heap_set2 h.1 _).2, ⟨h.2.1.set x1 hs, hl.set x1 hs⟩⟩
end
def ParseCP (s : ByteArray) (w : World) (e : Ending) (w' : World) : Prop :=
  (if textC (parseL s.data.toList) = s.data.toList then ∃ a n c b m d, e = .returned (.tuple #[.agg #[.slice a n c, .slice b m d], .int .i64 0]) ∧ Cb w' ⟨a, n, c, b, m, d⟩ (parseL s.data.toList)
    else e = .returned (.tuple #[.agg #[.slice none 0 0, .slice none 0 0], .int .i64 6])) ∧ Below w.heap.size w w'

set_option maxRecDepth 20000 in
theorem parseC_any (s : ByteArray) (hs : s.size ≤ 100000) (w : World) (hW : Wld w) :
    Calls Tryz.prog 31 #[.string s] w (ParseCP s w) := by
  have HW := Lib.hid hW
  clear hW
  have hF := Lib.hid (fun w' (hb : Below w.heap.size w w') => Tryz.strings_Fields_any s w' (by omega) ((HW.out.below hb).space.here) ((HW.out.below hb).white _ (Below.refl _ _)))
  have hfl : (Lib.fieldsD s.data.toList).length ≤ 100002 := by
    have := (fieldsGo_len (s.data.toList.length + 1) [] s.data.toList).2 rfl
    have e : s.data.toList.length = s.size := rfl
    unfold Lib.fieldsD; omega
  have hfe : Hid (∀ x ∈ Lib.fieldsD s.data.toList, x.length ≤ 100000) := by
    intro x hx
    have := fieldsGo_each _ _ _ x hx
    have e : s.data.toList.length = s.size := rfl
    simp only [List.length_nil, e] at this; omega
  have HPL : Hid (parseL s.data.toList = (Lib.fieldsD s.data.toList).foldl litP ([], [])) := rfl
  generalize Lib.fieldsD s.data.toList = fs at hF hfl hfe HPL
  obtain ⟨W0, hW0⟩ : ∃ W0, W0 = w.alloc (.cells #[.slice none 0 0, .slice none 0 0] 34) := ⟨_, rfl⟩
  have hz0 : W0.heap.size = w.heap.size + 1 := by rw [hW0, World.size_alloc]
  have hbw0 : Below w.heap.size w W0 := by rw [hW0]; exact (Below.refl _ _).alloc (Nat.le_refl _) _
  have HR : Hid (W0.heap[w.heap.size]? = some (.cells #[.slice none 0 0, .slice none 0 0] 34 (0, 0))) := by rw [hW0]; exact heap_alloc_new w _
  have HJ0 : Hid (PJ (w.heap.size + 1) none 0 0 none 0 0 ([], []) (W0.alloc (.cells #[.slice none 0 0, .slice none 0 0] 34))) := by
    refine ⟨?_, Cb.nil _⟩
    have := heap_alloc_new W0 (.cells #[.slice none 0 0, .slice none 0 0] 34)
    rwa [hz0] at this
  have HB0 := Lib.hid (hbw0.alloc hbw0.size (.cells #[.slice none 0 0, .slice none 0 0] 34))
  have HR2 : Hid ((W0.alloc (.cells #[.slice none 0 0, .slice none 0 0] 34)).heap[w.heap.size]? = some (.cells #[.slice none 0 0, .slice none 0 0] 34 (0, 0))) :=
    (Below.heap_alloc W0 _ w.heap.size (by omega)).trans HR.out
  subst hW0
  go_enter Tryz.func31, Tryz.ntmps31
  go_wp2_with (go_at_call 67; refine (hF.out _ HB0.out).mono ?_; rintro e w1 ⟨A, rfl, hA1, hrow, hb1⟩)
  simp only [World.size_alloc] at hA1
  have hsz1 := hb1.size
  simp only [World.size_alloc] at hsz1
  have hAlt : A < w1.heap.size := (World.ownsRow.lt hrow A rfl).2
  have hfc : Hid (∀ k (h : k < fs.length), w1.cell? ⟨A, k, none⟩ = some (.string ⟨fs[k].toArray⟩)) := by
    intro k h
    rw [World.ownsRow.cellAt hrow k (by simpa using h), List.getElem?_map, List.getElem?_eq_getElem h]; rfl
  have hb01 := Lib.hid (HB0.out.trans (hb1.mono HB0.out.size))
  have hJ1 := Lib.hid (HJ0.out.below hb1)
  have hR1 := Lib.hid ((hb1.block w.heap.size (by rw [World.size_alloc, World.size_alloc]; omega)).trans HR2.out)
  clear hrow hb1 hF HJ0 HR HR2
  go_wp2_with fail
  go_loopw [12] (fun v wr => ∃ (k : Nat) (a : Option Addr) (n c : Nat) (b : Option Addr) (m d : Nat), k ≤ fs.length ∧ v = .int .i64 k ∧ Hid (PJ (w.heap.size + 1) a n c b m d ((fs.take k).foldl litP ([], [])) wr) ∧ Hid (But w1.heap.size (w.heap.size + 1) (w.heap.size + 1) w1 wr)) (fun v _ => fs.length - (intOf v).toNat)
  case atStart => exact ⟨0, none, 0, 0, none, 0, 0, Nat.zero_le _, rfl, hJ1.out, But.refl _ _ _ _⟩
  case round =>
    obtain ⟨k, a, n, c, b, m, d, hk, rfl, hJ, hB⟩ := hrel
    have hzr := hB.out.size
    have hBw := Lib.hid (hb01.out.trans (hB.out.below (N := w.heap.size) (by omega) (by omega) (by omega)))
    obtain ⟨z0, z1, z2, z3⟩ := hJ.out.cells
    by_cases hlt : k < fs.length
    · obtain ⟨f, hf⟩ : ∃ f, fs[k]? = some f := ⟨_, List.getElem?_eq_getElem hlt⟩
      have hfl2 : f.length ≤ 100000 := hfe.out f (List.mem_of_getElem? hf)
      have x1 : wr.cell? ⟨A, k, none⟩ = some (.string ⟨f.toArray⟩) := by
        rw [hB.out.cell hAlt (by omega) (by omega), hfc.out k hlt, (List.getElem?_eq_some_iff.1 hf).2]
      have HST := Lib.hid (fold_at hf ([], []))
      obtain ⟨x, hx⟩ : ∃ x, x = (fs.take k).foldl litP ([], []) := ⟨_, rfl⟩
      rw [← hx] at hJ HST
      clear hx hf
      have htl : (Lib.trimPrefix f [33]).length ≤ 100000 := by
        unfold Lib.trimPrefix
        split
        · rw [List.length_drop]; omega
        · exact hfl2
      have htz : (ByteArray.mk (Lib.trimPrefix f [33]).toArray).size ≤ 281474976710656 := by
        show (Lib.trimPrefix f [33]).toArray.size ≤ _
        rw [List.size_toArray]; omega
      have HTP : Hid (∀ w', Calls Tryz.prog 69 #[.string ⟨f.toArray⟩, .string ⟨#[33]⟩] w' fun e w2 => e = .returned (.string ⟨(Lib.trimPrefix f [33]).toArray⟩) ∧ w2 = w') := fun w' => Tryz.strings_TrimPrefix ⟨f.toArray⟩ ⟨#[33]⟩ w'
      by_cases hq : ∃ v, Lib.atoiAll (Lib.trimPrefix f [33]) = .ok v
      · obtain ⟨v, hv⟩ := hq
        have hAt := Lib.hid (fun w' => atoi_good ⟨(Lib.trimPrefix f [33]).toArray⟩ htz v hv w')
        obtain ⟨u, r, rfl⟩ : ∃ u r, f = u :: r := by
          cases f with
          | nil => exact absurd hv (by intro h; simp [Lib.trimPrefix, Lib.hasPrefix, Lib.atoiAll] at h)
          | cons u r => exact ⟨u, r, rfl⟩
        have HSN := Lib.hid (fun h => HST.out.trans (litP_neg (x := x) hv h))
        have HSP := Lib.hid (fun h => HST.out.trans (litP_pos (x := x) hv h))
        clear hv HST
        generalize Lib.trimPrefix (u :: r) [33] = tp at HTP hAt
        obtain ⟨fk, hfk⟩ : ∃ fk : ByteArray, fk = ⟨(u :: r).toArray⟩ := ⟨_, rfl⟩
        have h1 : 1 ≤ fk.size := by rw [hfk]; show 1 ≤ (u :: r).toArray.size; rw [List.size_toArray]; simp
        have hA0 : fk[0] = u := by subst hfk; rfl
        rw [← hfk] at x1 HTP
        clear hfk hfl2
        by_cases hu : u = 33
        · have hA : (fk[0].toNat : Int) = 33 := by rw [hA0, hu]; rfl
          have HS := Lib.hid (HSN.out (by rw [hu]; rfl))
          clear HSN HSP hA0 hu
          go_wp2_with (first
            | (go_at_call 69; refine (HTP.out _).mono ?_; rintro e w5 ⟨rfl, rfl⟩)
            | (go_at_call 68; refine (hAt.out _).mono ?_; rintro e w2 ⟨rfl, hb2⟩; have hJ2 := Lib.hid (hJ.out.below hb2); obtain ⟨z0, z1, z2, z3⟩ := hJ2.out.cells; have HB2 := Lib.hid hb2; clear hb2)
            | (go_at_call 70; refine (with_any b m d x.2 v _ hJ2.out.2.2).mono ?_; rintro e w6 ⟨a6, n6, c6, rfl, hs6, hb6⟩; have hJ6 := Lib.hid (hJ2.out.below hb6); obtain ⟨z0, z1, z2, z3⟩ := hJ6.out.cells; have HS6 := Lib.hid hs6; have HB6 := Lib.hid hb6; clear hs6 hb6))
          go_roundw
          case rel => exact ⟨k + 1, a, n, c, a6, n6, c6, by omega, by go_num, by show PJ _ _ _ _ _ _ _ _ _; rw [HS.out]; exact hJ6.out.set2 HS6.out, ((hB.out.trans (But.of (HB2.out.mono hzr))).trans (But.of (HB6.out.mono (Nat.le_trans hzr HB2.out.size)))).trans (But.set _ _ (.inl rfl))⟩
          case measure => simp [intOf]; omega
        · have hA : ((fk[0].toNat : Int) == 33) = false := by
            rw [hA0, beq_eq_false_iff_ne]; intro e; apply hu
            apply UInt8.toNat_inj.1
            show u.toNat = 33
            omega
          have HS := Lib.hid (HSP.out (by simp [hu]))
          clear HSN HSP hA0 hu
          go_wp2_with (first
            | (go_at_call 69; refine (HTP.out _).mono ?_; rintro e w5 ⟨rfl, rfl⟩)
            | (go_at_call 68; refine (hAt.out _).mono ?_; rintro e w2 ⟨rfl, hb2⟩; have hJ2 := Lib.hid (hJ.out.below hb2); obtain ⟨z0, z1, z2, z3⟩ := hJ2.out.cells; have HB2 := Lib.hid hb2; clear hb2)
            | (go_at_call 70; refine (with_any a n c x.1 v _ hJ2.out.2.1).mono ?_; rintro e w6 ⟨a6, n6, c6, rfl, hs6, hb6⟩; have hJ6 := Lib.hid (hJ2.out.below hb6); obtain ⟨z0, z1, z2, z3⟩ := hJ6.out.cells; have HS6 := Lib.hid hs6; have HB6 := Lib.hid hb6; clear hs6 hb6))
          go_roundw
          case rel => exact ⟨k + 1, a6, n6, c6, b, m, d, by omega, by go_num, by show PJ _ _ _ _ _ _ _ _ _; rw [HS.out]; exact hJ6.out.set1 HS6.out, ((hB.out.trans (But.of (HB2.out.mono hzr))).trans (But.of (HB6.out.mono (Nat.le_trans hzr HB2.out.size)))).trans (But.set _ _ (.inl rfl))⟩
          case measure => simp [intOf]; omega
      · have hq' : ∀ v, Lib.atoiAll (Lib.trimPrefix f [33]) ≠ .ok v := fun v hv => hq ⟨v, hv⟩
        have hAt := Lib.hid (atoi_bad ⟨(Lib.trimPrefix f [33]).toArray⟩ htz hq' wr (HW.out.below hBw.out))
        have HS := Lib.hid (HST.out.trans (litP_no hq'))
        clear hq hq' HST
        generalize Lib.trimPrefix f [33] = tp at HTP hAt
        obtain ⟨fk, hfk⟩ : ∃ fk : ByteArray, fk = ⟨f.toArray⟩ := ⟨_, rfl⟩
        rw [← hfk] at x1 HTP
        clear hfk hfl2
        go_wp2_with (first
          | (go_at_call 69; refine (HTP.out _).mono ?_; rintro e w5 ⟨rfl, rfl⟩)
          | (go_at_call 68; refine hAt.out.mono ?_; rintro e w2 ⟨v2, tp2, p2, rfl, hb2⟩; have hJ2 := Lib.hid (hJ.out.below hb2); have HB2 := Lib.hid hb2; clear hb2))
        go_roundw
        case rel => exact ⟨k + 1, a, n, c, b, m, d, by omega, by go_num, by show PJ _ _ _ _ _ _ _ _ _; rw [HS.out]; exact hJ2.out, hB.out.trans (But.of (HB2.out.mono hzr))⟩
        case measure => simp [intOf]; omega
    · have hkl : k = fs.length := by omega
      have HX : Hid ((fs.take k).foldl litP ([], []) = parseL s.data.toList) := by show _ = _; rw [HPL.out, hkl, List.take_length]
      obtain ⟨x, hx⟩ : ∃ x, x = (fs.take k).foldl litP ([], []) := ⟨_, rfl⟩
      rw [← hx] at hJ HX
      clear hx
      have hRw := (hB.out.block w.heap.size (by omega) (by omega) (by omega)).trans hR1.out
      have HRW := Lib.hid hRw
      have HTX := Lib.hid (textC_any a b n c m d x wr hJ.out.2 (HW.out.below hBw.out).tz (HW.out.below hBw.out).pow)
      unfold TextP at HTX
      by_cases heq : textC x = s.data.toList
      · have hstr : (ByteArray.mk (textC x).toArray) = s := by rw [heq]
        rw [hstr] at HTX
        have HEQ : Hid (textC (parseL s.data.toList) = s.data.toList) := by show _ = _; rw [← HX.out]; exact heq
        clear heq hstr hRw
        go_wp2_with (go_at_call 32; refine HTX.out.mono ?_; rintro e w7 ⟨rfl, hb7⟩; have hJ7 := Lib.hid (hJ.out.below hb7); obtain ⟨z0, z1, z2, z3⟩ := hJ7.out.cells; obtain ⟨t0, t1, t2⟩ := cell_of2 ((hb7.block w.heap.size (by omega)).trans HRW.out); have g0 := t2 0; have g1 := t2 1; have HB7 := Lib.hid (hBw.out.trans (hb7.mono hBw.out.size)); clear hb7 t2)
        obtain ⟨cs0, cs1⟩ := stw2 (u := .slice a n c) (v := .slice b m d) t0 t1
        refine bodyPost_ret (v := .tuple #[.agg #[.slice a n c, .slice b m d], .int .i64 0]) (by simp [results, Tryz.results31, go_sem, cs0, cs1]) rfl ?_
        refine ⟨?_, (HB7.out.setCell (p := ⟨w.heap.size, 0, none⟩) (Nat.le_refl _) _).setCell (p := ⟨w.heap.size, 1, none⟩) (Nat.le_refl _) _⟩
        rw [if_pos HEQ.out, ← HX.out]
        exact ⟨a, n, c, b, m, d, rfl, Cb.st2 hJ7.out.2 t0 t1 _ _⟩
      · have hstr : (ByteArray.mk (textC x).toArray) ≠ s := by intro e; apply heq; rw [← e]
        have HEQ : Hid (¬ textC (parseL s.data.toList) = s.data.toList) := by show ¬ _; rw [← HX.out]; exact heq
        have hx1 : ((ByteArray.mk (textC x).toArray).toList == s.toList) = false := beq_eq_false_iff_ne.2 (fun e => hstr (toList_inj e))
        have hx2 : ((ByteArray.mk (textC x).toArray).toList != s.toList) = true := by rw [bne, hx1]; rfl
        clear heq hRw
        generalize (ByteArray.mk (textC x).toArray) = tx at HTX hstr hx1 hx2
        go_wp2_with (go_at_call 32; refine HTX.out.mono ?_; rintro e w7 ⟨rfl, hb7⟩; have hJ7 := Lib.hid (hJ.out.below hb7); obtain ⟨z0, z1, z2, z3⟩ := hJ7.out.cells; obtain ⟨t0, t1, t2⟩ := cell_of2 ((hb7.block w.heap.size (by omega)).trans HRW.out); have g0 := t2 0; have g1 := t2 1; have HB7 := Lib.hid (hBw.out.trans (hb7.mono hBw.out.size)); clear hb7 t2)
        obtain ⟨cs0, cs1⟩ := stw2 (u := .slice none 0 0) (v := .slice none 0 0) t0 t1
        refine bodyPost_ret (v := .tuple #[.agg #[.slice none 0 0, .slice none 0 0], .int .i64 6]) (by simp [results, Tryz.results31, go_sem, cs0, cs1]) rfl ?_
        refine ⟨?_, (HB7.out.setCell (p := ⟨w.heap.size, 0, none⟩) (Nat.le_refl _) _).setCell (p := ⟨w.heap.size, 1, none⟩) (Nat.le_refl _) _⟩
        rw [if_neg HEQ.out]
end Go.Proofs.YtadomogbakcokaaGreatDoor
end

section
/- Plain: the text of a cube is parsed to it. -/
namespace Go.Proofs.YtadomogbakcokaaGreatDoor
open Go.RowKit Go.PlainAid Go.Shelf
set_option linter.unusedVariables false
set_option linter.unusedSimpArgs false
set_option maxHeartbeats 1000000

theorem trim_dec (r : Nat) : Lib.trimPrefix (Lib.decDigits r) [33] = Lib.decDigits r ∧ (Lib.decDigits r).head? ≠ some 33 := by
  have h := dec_digit r
  cases hd : Lib.decDigits r with
  | nil => exact absurd hd (dec_ne r)
  | cons u t =>
    have h1 := h u (by rw [hd]; simp)
    have hu : u ≠ 33 := by rintro rfl; revert h1; decide
    refine ⟨?_, by simpa using hu⟩
    unfold Lib.trimPrefix
    rw [if_neg]
    intro h2
    apply hu
    simp [Lib.hasPrefix] at h2
    exact h2.symm
theorem trim_neg (d : List UInt8) : Lib.trimPrefix (33 :: d) [33] = d := by
  unfold Lib.trimPrefix
  rw [if_pos (by simp [Lib.hasPrefix])]; rfl
theorem litP_dec {x : Cu} {r : Nat} (hr : r < 4096) : litP x (Lib.decDigits r) = (withL x.1 r, x.2) :=
  litP_pos (by rw [(trim_dec r).1]; exact atoi_dec r hr) (trim_dec r).2
theorem litP_bang {x : Cu} {r : Nat} (hr : r < 4096) : litP x (33 :: Lib.decDigits r) = (x.1, withL x.2 r) :=
  litP_neg (by rw [trim_neg]; exact atoi_dec r hr) rfl
theorem litB_fold (x c : Cu) (r : Nat) (hr : r < 4096) : (litB x r).foldl litP c = ((if inB x.1 r then withL c.1 r else c.1), (if inB x.2 r then withL c.2 r else c.2)) := by
  unfold litB
  cases inB x.1 r <;> cases inB x.2 r <;> simp [litP_dec hr, litP_bang hr]
theorem lits_fold (x : Cu) : ∀ (l : List Nat) (c : Cu), Asc c.1 → Asc c.2 → (∀ r ∈ l, r < 4096) →
    Asc ((l.flatMap (litB x)).foldl litP c).1 ∧ Asc ((l.flatMap (litB x)).foldl litP c).2 ∧ (∀ y, y ∈ ((l.flatMap (litB x)).foldl litP c).1 ↔ y ∈ c.1 ∨ (y ∈ l ∧ y ∈ x.1)) ∧ (∀ y, y ∈ ((l.flatMap (litB x)).foldl litP c).2 ↔ y ∈ c.2 ∨ (y ∈ l ∧ y ∈ x.2))
  | [], c, h1, h2, _ => ⟨h1, h2, fun y => by simp, fun y => by simp⟩
  | r :: l, c, h1, h2, hl => by
    have hr := hl r (by simp)
    rw [List.flatMap_cons, List.foldl_append, litB_fold x c r hr]
    have a1 : Asc (if inB x.1 r then withL c.1 r else c.1) := by split; exact asc_withC h1 _; exact h1
    have a2 : Asc (if inB x.2 r then withL c.2 r else c.2) := by split; exact asc_withC h2 _; exact h2
    have m1 : ∀ y, y ∈ (if inB x.1 r then withL c.1 r else c.1) ↔ y ∈ c.1 ∨ (y = r ∧ y ∈ x.1) := fun y => by
      unfold inB
      by_cases h : r ∈ x.1
      · rw [if_pos (by simpa using h), mem_with hr h1]
        exact ⟨fun k => k.imp id fun e => ⟨e, e ▸ h⟩, fun k => k.imp id fun e => e.1⟩
      · rw [if_neg (by simpa using h)]
        exact ⟨.inl, fun k => k.elim id fun e => absurd (e.1 ▸ e.2) h⟩
    have m2 : ∀ y, y ∈ (if inB x.2 r then withL c.2 r else c.2) ↔ y ∈ c.2 ∨ (y = r ∧ y ∈ x.2) := fun y => by
      unfold inB
      by_cases h : r ∈ x.2
      · rw [if_pos (by simpa using h), mem_with hr h2]
        exact ⟨fun k => k.imp id fun e => ⟨e, e ▸ h⟩, fun k => k.imp id fun e => e.1⟩
      · rw [if_neg (by simpa using h)]
        exact ⟨.inl, fun k => k.elim id fun e => absurd (e.1 ▸ e.2) h⟩
    obtain ⟨i1, i2, i3, i4⟩ := lits_fold x l ((if inB x.1 r then withL c.1 r else c.1), (if inB x.2 r then withL c.2 r else c.2)) a1 a2 (fun y hy => hl y (by simp [hy]))
    refine ⟨i1, i2, fun y => ?_, fun y => ?_⟩
    · rw [i3, m1, List.mem_cons]
      constructor
      · rintro ((h | h) | h)
        · exact .inl h
        · exact .inr ⟨.inl h.1, h.2⟩
        · exact .inr ⟨.inr h.1, h.2⟩
      · rintro (h | ⟨h | h, k⟩)
        · exact .inl (.inl h)
        · exact .inl (.inr ⟨h, k⟩)
        · exact .inr ⟨h, k⟩
    · rw [i4, m2, List.mem_cons]
      constructor
      · rintro ((h | h) | h)
        · exact .inl h
        · exact .inr ⟨.inl h.1, h.2⟩
        · exact .inr ⟨.inr h.1, h.2⟩
      · rintro (h | ⟨h | h, k⟩)
        · exact .inl (.inl h)
        · exact .inl (.inr ⟨h, k⟩)
        · exact .inr ⟨h, k⟩
theorem fold_lits {x : Cu} (hx : CuOk x) : (litsC x).foldl litP ([], []) = x := by
  obtain ⟨i1, i2, i3, i4⟩ := lits_fold x (orL x.1 x.2) ([], []) ⟨List.Pairwise.nil, by simp⟩ ⟨List.Pairwise.nil, by simp⟩ (asc_or x.1 x.2).2
  unfold litsC
  refine Prod.ext (asc_ext i1 hx.1 fun y => ?_) (asc_ext i2 hx.2 fun y => ?_)
  · rw [i3, mem_or]
    exact ⟨fun h => h.elim (fun h => by cases h) (·.2), fun h => .inr ⟨⟨hx.1.2 y h, .inl h⟩, h⟩⟩
  · rw [i4, mem_or]
    exact ⟨fun h => h.elim (fun h => by cases h) (·.2), fun h => .inr ⟨⟨hx.2.2 y h, .inr h⟩, h⟩⟩
theorem go_words : ∀ (ws : List (List UInt8)) (cur : List UInt8), cur ≠ [] → (∀ w ∈ ws, w ≠ [] ∧ ∀ b ∈ w, Lib.isSp b = false) → Lib.fieldsGo cur (ws.flatMap (32 :: ·)) = cur :: ws
  | [], cur, hc, _ => by simp [Lib.fieldsGo, hc]
  | w :: ws, cur, hc, h => by
    obtain ⟨h1, h2⟩ := h w (by simp)
    have ih := go_words ws w h1 (fun v hv => h v (by simp [hv]))
    rw [List.flatMap_cons]
    show Lib.fieldsGo cur (32 :: (w ++ ws.flatMap (32 :: ·))) = _
    rw [Lib.fieldsGo, if_pos (by decide), go_word w [] _ h2, List.nil_append, ih]
    simp [hc]
theorem inter_words : ∀ (w : List UInt8) (ws : List (List UInt8)), ((w :: ws).intersperse [32]).flatten = w ++ ws.flatMap (32 :: ·)
  | w, [] => by simp
  | w, v :: ws => by
    have ih := inter_words v ws
    rw [List.intersperse, List.flatten_cons, List.flatten_cons, ih, List.flatMap_cons]; simp
    intro h; cases h
theorem fields_words {w : List UInt8} {ws : List (List UInt8)} (h : ∀ v ∈ w :: ws, v ≠ [] ∧ ∀ b ∈ v, Lib.isSp b = false) : Lib.fields (Lib.join (w :: ws) [32]) = w :: ws := by
  have e : Lib.join (w :: ws) [32] = w ++ ws.flatMap (32 :: ·) := inter_words w ws
  rw [e, Lib.fields, go_word w [] _ (h w (by simp)).2, List.nil_append, go_words ws w (h w (by simp)).1 (fun v hv => h v (by simp [hv]))]
theorem lits_word {x : Cu} : ∀ v ∈ litsC x, v ≠ [] ∧ ∀ b ∈ v, b.toNat < 58 ∧ b.toNat > 32 := by
  intro v hv
  obtain ⟨r, hr, hs⟩ := List.mem_flatMap.1 hv
  unfold litB at hs
  rcases List.mem_append.1 hs with hs | hs
  · split at hs
    · cases List.mem_singleton.1 hs
      exact ⟨dec_ne r, fun b hb => by have := dec_digit r b hb; omega⟩
    · cases hs
  · split at hs
    · cases List.mem_singleton.1 hs
      refine ⟨by simp, fun b hb => ?_⟩
      rcases List.mem_cons.1 hb with rfl | hb
      · decide
      · have := dec_digit r b hb; omega
    · cases hs
theorem nosp2 {b : UInt8} (h : b.toNat > 32) : Lib.isSp b = false := by
  have key : ∀ c : UInt8, c.toNat ≤ 32 → b ≠ c := fun c hc e => by rw [e] at h; omega
  simp [Lib.isSp, key 9 (by decide), key 10 (by decide), key 11 (by decide), key 12 (by decide), key 13 (by decide), key 32 (by decide)]
theorem join_lits_ascii {w : List UInt8} {ws : List (List UInt8)} (h : ∀ v ∈ w :: ws, v ≠ [] ∧ ∀ b ∈ v, b.toNat < 58 ∧ b.toNat > 32) : ∀ b ∈ Lib.join (w :: ws) [32], b.toNat < 128 := by
  have e : Lib.join (w :: ws) [32] = w ++ ws.flatMap (32 :: ·) := inter_words w ws
  intro b hb
  rw [e, List.mem_append] at hb
  rcases hb with hb | hb
  · have := ((h w (by simp)).2 b hb).1; omega
  · obtain ⟨v, hv, hb⟩ := List.mem_flatMap.1 hb
    rcases List.mem_cons.1 hb with rfl | hb
    · decide
    · have := ((h v (by simp [hv])).2 b hb).1; omega
theorem parse_textC {x : Cu} (hx : CuOk x) : parseL (textC x) = x := by
  have hf := fold_lits hx
  by_cases h0 : litsC x = []
  · rw [h0] at hf
    rw [← hf]
    have : textC x = [102, 117, 108, 108] := by unfold textC; rw [if_pos h0]
    rw [show textC (List.foldl litP ([], []) []) = [102, 117, 108, 108] from by rw [hf]; exact this]
    have h2 : Lib.fieldsD [102, 117, 108, 108] = [[102, 117, 108, 108]] := by rw [Go.Lib.fieldsD_ascii _ (by decide)]; decide
    unfold parseL
    rw [h2]
    exact litP_no (x := ([], [])) (f := [102, 117, 108, 108]) (fun v h => by
      rw [show Lib.trimPrefix [102, 117, 108, 108] [33] = [102, 117, 108, 108] from by decide] at h
      cases h)
  · obtain ⟨w, ws, e⟩ : ∃ w ws, litsC x = w :: ws := by
      cases h : litsC x with
      | nil => exact absurd h h0
      | cons w ws => exact ⟨w, ws, rfl⟩
    have hw := lits_word (x := x)
    rw [e] at hw
    have ht : textC x = Lib.join (w :: ws) [32] := by unfold textC; rw [if_neg h0, e]
    rw [ht]
    unfold parseL
    rw [Go.Lib.fieldsD_ascii _ (join_lits_ascii hw), fields_words (fun v hv => ⟨(hw v hv).1, fun b hb => nosp2 ((hw v hv).2 b hb).2⟩), ← e]
    exact hf
end Go.Proofs.YtadomogbakcokaaGreatDoor
end
