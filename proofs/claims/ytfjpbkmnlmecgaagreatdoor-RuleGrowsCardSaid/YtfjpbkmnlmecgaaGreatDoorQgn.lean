/- Several of the texts below, joined: DaT DaK. -/
import Derived.Test.YtfjpbkmnlmecgaaGreatDoorQgk
import Derived.Lib.ItoaNum
import Derived.Lib.ItoaMem
import Derived.Lib.ItoaLen
import Derived.Lib.Join
import Derived.Test.YtfjpbkmnlmecgaaGreatDoorQgl
import Derived.Test.YtfjpbkmnlmecgaaGreatDoorQgb
import Derived.Lib.AppendIntMem
section
/- The text of a set of days, in plain words. No program in sight. -/
namespace Go.Proofs.YtfjpbkmnlmecgaaGreatDoor.Dy
set_option linter.unusedVariables false

def spanT (p : Int × Int) : List UInt8 := if p.1 = p.2 then Lib.itoa p.1 else if p.2 = 30000 then Lib.itoa p.1 ++ [45] else Lib.itoa p.1 ++ [45] ++ Lib.itoa p.2
def noneT : List UInt8 := [110, 111, 110, 101]
def allT : List UInt8 := [97, 108, 108]
def textL (l : List (Int × Int)) : List UInt8 := if l = [] then noneT else if lenD l = 30001 then allT else Lib.join (l.map spanT) [44]
theorem dec_day (x : Nat) (h : x ≤ 30000) : 1 ≤ (Lib.decDigits x).length ∧ (Lib.decDigits x).length ≤ 5 := by
  rw [Lib.decDigits_length]
  refine ⟨Lib.nDigits_pos x, ?_⟩
  by_cases h1 : x < 10
  · rw [Lib.nDigits_small h1]; omega
  · rw [Lib.nDigits_big h1]
    by_cases h2 : x / 10 < 10
    · rw [Lib.nDigits_small h2]; omega
    · rw [Lib.nDigits_big h2]
      by_cases h3 : x / 10 / 10 < 10
      · rw [Lib.nDigits_small h3]; omega
      · rw [Lib.nDigits_big h3]
        by_cases h4 : x / 10 / 10 / 10 < 10
        · rw [Lib.nDigits_small h4]; omega
        · rw [Lib.nDigits_big h4, Lib.nDigits_small (by omega)]; omega
theorem itoa_day {z : Int} (h0 : 0 ≤ z) (h1 : z ≤ 30000) : 1 ≤ (Lib.itoa z).length ∧ (Lib.itoa z).length ≤ 5 := by
  obtain ⟨x, rfl⟩ : ∃ x : Nat, z = x := ⟨z.toNat, by omega⟩
  rw [Lib.itoa_nonneg]; exact dec_day x (by omega)
theorem spanT_len {p : Int × Int} (h : Okp p) : 1 ≤ (spanT p).length ∧ (spanT p).length ≤ 11 := by
  unfold Okp at h
  have h1 := itoa_day (z := p.1) (by omega) (by omega)
  have h2 := itoa_day (z := p.2) (by omega) (by omega)
  unfold spanT
  split
  · omega
  · split <;> simp <;> omega
theorem lens_le : ∀ (l : List (Int × Int)), (∀ x ∈ l, Okp x) → Lib.lens (l.map spanT) ≤ 11 * l.length
  | [], _ => by simp [Lib.lens]
  | x :: l, h => by
    have h1 := lens_le l (fun z hz => h z (List.mem_cons_of_mem _ hz))
    have h2 := (spanT_len (h x (by simp))).2
    simp [Lib.lens] at h1 ⊢
    omega
theorem joinT_len (l : List (Int × Int)) (h : ∀ x ∈ l, Okp x) : (Lib.join (l.map spanT) [44]).length ≤ 12 * l.length := by
  cases l with
  | nil => simp [Lib.join_nil]
  | cons x l =>
    have h1 := lens_le (x :: l) h
    rw [List.map_cons, Lib.join_length]
    rw [List.map_cons] at h1
    simp at h1 ⊢
    omega
theorem textL_len {l : List (Int × Int)} (h : Can l) : (textL l).length ≤ 180012 := by
  unfold textL
  have h1 := joinT_len l h.1
  have h2 := can_len h
  split
  · decide
  · split
    · decide
    · omega

theorem can_a : Can [((3 : Int), (8 : Int)), (10, 10), (20, 30000)] := ⟨by unfold Okp; decide, by decide⟩
theorem can_b : Can [((0 : Int), (2 : Int)), (9, 9), (11, 19)] := ⟨by unfold Okp; decide, by decide⟩
theorem can_c : Can [((30000 : Int), (30000 : Int))] := ⟨by unfold Okp; decide, by decide⟩
theorem i1 (n : Nat) (h : n < 10) : Lib.itoa (n : Int) = [UInt8.ofNat (48 + n)] := by rw [Lib.itoa_nonneg, Lib.decDigits_one h]
theorem i2 (n : Nat) (h1 : ¬ n < 10) (h : n < 100) : Lib.itoa (n : Int) = [UInt8.ofNat (48 + n / 10), UInt8.ofNat (48 + n % 10)] := by rw [Lib.itoa_nonneg, Lib.decDigits_two h1 h]
theorem i5 : Lib.itoa (30000 : Int) = [51, 48, 48, 48, 48] := by decide +kernel
theorem text_a : textL [(3, 8), (10, 10), (20, 30000)] = [51, 45, 56, 44, 49, 48, 44, 50, 48, 45] := by decide +kernel
theorem text_b : textL [(0, 2), (9, 9), (11, 19)] = [48, 45, 50, 44, 57, 44, 49, 49, 45, 49, 57] := by decide +kernel
theorem text_c : textL [(30000, 30000)] = [51, 48, 48, 48, 48] := by decide +kernel
end Go.Proofs.YtfjpbkmnlmecgaaGreatDoor.Dy
end

section
/- Contracts: the text of a span, and of a set. -/
namespace Go.Proofs.YtfjpbkmnlmecgaaGreatDoor.Dy
open Go.RowKit Go.PlainAid
set_option linter.unusedVariables false
set_option linter.unusedSimpArgs false
set_option maxHeartbeats 2000000

def Pow10 (w : World) : Prop := Lib.TabBelow Tryz.prog w.heap.size w "internal/strconv.uint64pow10" .u64 Lib.pow10Tab
theorem Pow10.below {w w' : World} (h : Pow10 w) (hb : Below w.heap.size w w') : Pow10 w' := fun u hu => h u (hb.trans (hu.mono hb.size))
theorem grow_below {W w' : World} {k : Nat} {os : Array Obj} (h : w' = Go.Sort.grow (W.drewN k) os) : Below W.heap.size W w' := by rw [h]; exact Lib.below_grow _ _ (Nat.le_refl _) _ _
theorem itoa_any (z : Int) (h0 : 0 ≤ z) (h1 : z ≤ 30000) (w : World) (hP : Pow10 w) :
    Calls Tryz.prog 204 #[.int .i64 z] w fun e w' => e = .returned (.string ⟨(Lib.itoa z).toArray⟩) ∧ Below w.heap.size w w' := by
  refine (Tryz.strconv_Itoa z (by omega) (by omega) w (hP w (Below.refl _ _))).mono ?_
  rintro e w' ⟨rfl, k, os, hw⟩
  exact ⟨rfl, grow_below hw⟩
theorem ret_str {a b : ByteArray} (h : a = b) : Ending.returned (.string a) = .returned (.string b) := by rw [h]
theorem str_app {a b : ByteArray} {x y : List UInt8} (ha : a = ⟨x.toArray⟩) (hb : b = ⟨y.toArray⟩) : a ++ b = ⟨(x ++ y).toArray⟩ := by
  subst ha hb
  apply ByteArray.ext
  simp

theorem spanText_any (p1 p2 : Int) (h : Okp (p1, p2)) (w : World) (hP : Pow10 w) :
    Calls Tryz.prog 192 #[.agg #[.int .i64 p1, .int .i64 p2]] w fun e w' => e = .returned (.string ⟨(spanT (p1, p2)).toArray⟩) ∧ Below w.heap.size w w' := by
  unfold Okp at h
  dsimp only at h
  have HT1 := Lib.hid (fun W (hb : Below w.heap.size w W) => itoa_any p1 (by omega) (by omega) W (hP.below hb))
  have HT2 := Lib.hid (fun W (hb : Below w.heap.size w W) => itoa_any p2 (by omega) (by omega) W (hP.below hb))
  have hz1 := (itoa_day (z := p1) (by omega) (by omega)).2
  have hz2 := (itoa_day (z := p2) (by omega) (by omega)).2
  clear hP
  by_cases h1 : p1 = p2
  · subst h1
    have HE : Hid (spanT (p1, p1) = Lib.itoa p1) := by show _ = _; unfold spanT; rw [if_pos rfl]
    clear hz1 hz2 HT2
    go_enter Tryz.func192, Tryz.ntmps192
    go_wp2_with (go_at_call 204; (with_reducible refine (HT1.out _ ((Below.refl _ w).alloc (Nat.le_refl _) _)).mono ?_); rintro e w1 ⟨rfl, hb1⟩; obtain ⟨⟨qa, qb⟩, hD⟩ := box2s hb1)
    go_ret
    exact ⟨ret_str (a := ⟨(Lib.itoa p1).toArray⟩) (by rw [HE.out]), bel1 hb1⟩
  · obtain ⟨s1, e1⟩ : ∃ s1 : ByteArray, s1 = ⟨(Lib.itoa p1).toArray⟩ := ⟨_, rfl⟩
    obtain ⟨s2, e2⟩ : ∃ s2 : ByteArray, s2 = ⟨(Lib.itoa p2).toArray⟩ := ⟨_, rfl⟩
    rw [← e1] at HT1
    rw [← e2] at HT2
    have k1 : s1.size ≤ 5 := by rw [e1]; show (Lib.itoa p1).toArray.size ≤ 5; rw [List.size_toArray]; exact hz1
    have k2 : s2.size ≤ 5 := by rw [e2]; show (Lib.itoa p2).toArray.size ≤ 5; rw [List.size_toArray]; exact hz2
    by_cases h2 : p2 = 30000
    · have HE : Hid ((s1 ++ ⟨#[45]⟩ : ByteArray) = ⟨(spanT (p1, p2)).toArray⟩) := by show _ = _; unfold spanT; rw [if_neg h1, if_pos h2]; exact str_app e1 rfl
      subst h2
      clear hz1 hz2 HT2 e1 e2 k2
      go_enter Tryz.func192, Tryz.ntmps192
      go_wp2_with (go_at_call 204; (with_reducible refine (HT1.out _ ((Below.refl _ w).alloc (Nat.le_refl _) _)).mono ?_); rintro e w1 ⟨rfl, hb1⟩; obtain ⟨⟨qa, qb⟩, hD⟩ := box2s hb1)
      go_ret
      exact ⟨ret_str HE.out, bel1 hb1⟩
    · have HE : Hid ((s1 ++ ⟨#[45]⟩ ++ s2 : ByteArray) = ⟨(spanT (p1, p2)).toArray⟩) := by show _ = _; unfold spanT; rw [if_neg h1, if_neg h2]; exact str_app (str_app e1 rfl) e2
      clear hz1 hz2 e1 e2
      have tk0 : Hid True := trivial
      go_enter Tryz.func192, Tryz.ntmps192
      go_wp2_with (first
        | (go_at_call 204; clear tk0; (with_reducible refine (HT1.out _ ((Below.refl _ w).alloc (Nat.le_refl _) _)).mono ?_); rintro e w1 ⟨rfl, hb1⟩; obtain ⟨⟨qa, qb⟩, hD⟩ := box2s hb1; have tk1 : Hid True := trivial)
        | (go_at_call 204; clear tk1; (with_reducible refine (HT2.out _ hD).mono ?_); rintro e w2 ⟨rfl, hb2⟩))
      go_ret
      exact ⟨ret_str HE.out, hD.trans (hb2.mono hD.size)⟩

/-- The block g holds the strings xs, and may be written. -/
def So (w : World) (g n : Nat) (xs : List ByteArray) : Prop :=
  g < w.heap.size ∧ xs.length = n ∧ (∀ (j : Nat) x, xs[j]? = some x → w.cell? ⟨g, j, none⟩ = some (.string x)) ∧ ∀ j : Nat, w.frozen? ⟨g, j, none⟩ = false
theorem So.below {w w' : World} {g n N : Nat} {xs : List ByteArray} (h : So w g n xs) (hb : Below N w w') (hg : g < N) : So w' g n xs :=
  ⟨Nat.lt_of_lt_of_le h.1 hb.size, h.2.1, fun j x hx => (hb.cell (p := ⟨g, j, none⟩) hg).trans (h.2.2.1 j x hx), fun j => (hb.frozen (p := ⟨g, j, none⟩) hg).trans (h.2.2.2 j)⟩
theorem So.set {w : World} {g n : Nat} {xs : List ByteArray} (h : So w g n xs) (k : Nat) (hk : k < n) (s : ByteArray) : So (w.setCell ⟨g, k, none⟩ (.string s)) g n (xs.set k s) := by
  obtain ⟨h1, h2, h3, h4⟩ := h
  refine ⟨by simpa using h1, by simpa using h2, fun j x hx => ?_, fun j => by rw [World.frozen?_setCell]; exact h4 j⟩
  by_cases hjk : j = k
  · subst hjk
    obtain ⟨y, hy⟩ : ∃ y, xs[j]? = some y := ⟨_, List.getElem?_eq_getElem (by rw [h2]; exact hk)⟩
    rw [List.getElem?_set_self (by rw [h2]; exact hk)] at hx
    cases hx
    exact World.cell?_setCell_same _ _ _ (h3 j y hy)
  · rw [List.getElem?_set_ne (fun e => hjk e.symm)] at hx
    rw [World.cell?_setCell_other _ _ _ _ (by simp <;> omega)]; exact h3 j x hx
theorem infoStr : (Tryz.prog.info? 9).map (fun i => (i.zero, i.size, i.bytes)) = some (some (.string ByteArray.empty), 1, 16) := by kernel_rfl
theorem made_str (q j : Nat) (h : j < q) : (madeCells #[Value.string ByteArray.empty] q).toList[j]? = some (.string ByteArray.empty) := by
  have : j % 1 = 0 := Nat.mod_one j
  simp [madeCells, h, this]
theorem So.new {w : World} {B g n : Nat} (h : w.ownsRow B 9 1 (.slice (some ⟨g, 0, none⟩) n n) n (madeCells #[Value.string ByteArray.empty] n).toList) : So w g n (List.replicate n ByteArray.empty) := by
  refine ⟨(World.ownsRow.lt h g rfl).2, by simp, fun j x hx => ?_, fun j => World.ownsRow.frozenAt h j⟩
  obtain ⟨hj, hx⟩ := List.getElem?_eq_some_iff.1 hx
  rw [List.length_replicate] at hj
  rw [List.getElem_replicate] at hx
  subst hx
  rw [World.ownsRow.cellAt h j (by omega)]
  exact made_str _ _ hj

def bsP (p : Int × Int) : ByteArray := ⟨(spanT p).toArray⟩
theorem text_hit {l : List (Int × Int)} (h0 : l ≠ []) (h1 : lenD l ≠ 30001) : textL l = Lib.join ((l.map bsP).map (·.data.toList)) [44] := by
  unfold textL
  rw [if_neg h0, if_neg h1, List.map_map]; rfl
theorem parts_step {l : List (Int × Int)} {xs : List ByteArray} {j : Nat} {p : Int × Int} (h : xs.take j = (l.take j).map bsP) (hp : l[j]? = some p) (hl : l.length = xs.length) : (xs.set j (bsP p)).take (j + 1) = (l.take (j + 1)).map bsP := by
  have hj : j < xs.length := by rw [← hl]; exact (List.getElem?_eq_some_iff.1 hp).1
  rw [take_snoc' hp, List.map_append, ← h, take_snoc' (x := bsP p) (by rw [List.getElem?_set_self hj]), List.take_set_of_le (Nat.le_refl _)]; rfl

set_option maxRecDepth 100000 in
theorem text_any (a : Option Addr) (n cap : Nat) (l : List (Int × Int)) (w : World) (h : Ds w a n cap l) (hcan : Can l) (hP : Pow10 w) :
    Calls Tryz.prog 110 #[.agg #[.slice a n cap]] w fun e w' => e = .returned (.string ⟨(textL l).toArray⟩) ∧ Below w.heap.size w w' := by
  have hlen := can_len hcan
  rw [h.1] at hlen
  have HLEN := Lib.hid (fun W (hb : Below w.heap.size w W) => len_any a n cap l W (h.below hb (Nat.le_refl _)) hcan)
  by_cases h0 : n = 0
  · have hnil : l = [] := List.eq_nil_of_length_eq_zero (by rw [h.1]; exact h0)
    subst hnil
    subst h0
    clear HLEN
    go_enter Tryz.func110, Tryz.ntmps110
    go_wp2_with (go_at_call 190; (with_reducible refine (empty_any _ _ _ _).mono ?_); rintro e w1 ⟨rfl, hb1⟩)
    go_ret
    exact ⟨rfl, bel1 hb1⟩
  · have hne : l ≠ [] := fun e => h0 (by rw [← h.1, e]; rfl)
    have HD : Hid (decide (n = 0) = false) := decide_eq_false h0
    by_cases h1 : lenD l = 30001
    · have HE : Hid (textL l = allT) := by show _ = _; unfold textL; rw [if_neg hne, if_pos h1]
      rw [h1] at HLEN
      clear h hcan hne h1
      go_enter Tryz.func110, Tryz.ntmps110
      go_wp2_with (first
        | (go_at_call 190; (with_reducible refine (empty_any _ _ _ _).mono ?_); rintro e w1 ⟨rfl, hb1⟩; rw [HD.out]; obtain ⟨q1, hD⟩ := box1s hb1)
        | (go_at_call 191; (with_reducible refine (HLEN.out _ hD).mono ?_); rintro e w2 ⟨rfl, hb2⟩))
      go_ret
      exact ⟨ret_str (a := ⟨allT.toArray⟩) (by rw [HE.out]), hD.trans (hb2.mono hD.size)⟩
    · obtain ⟨i0, hi, hz0, hz1, hz2⟩ := info_parts infoStr
      have HTX := Lib.hid (text_hit hne h1)
      have HJL : Hid ((Lib.join ((l.map bsP).map (·.data.toList)) [44]).length ≤ 140737488355328) := by
        show _ ≤ _
        rw [← text_hit hne h1]; have := textL_len hcan; omega
      have hb0 := lenD_bounds hcan
      have hx : Hid True := trivial
      obtain ⟨x, hxl⟩ : ∃ x, lenD l = x := ⟨_, rfl⟩
      rw [hxl] at HLEN h1 hb0
      have HOK := Lib.hid hcan.1
      obtain ⟨hl, hc, hm, h4⟩ := h
      unfold maxLen at hm
      have H4 := Lib.hid h4
      have HL := Lib.hid hl
      have HPW := Lib.hid (fun W (hb : Below w.heap.size w W) => hP.below hb)
      clear h4 hl hcan hne hxl hP
      go_enter Tryz.func110, Tryz.ntmps110
      go_wp2_with (first
        | (go_at_call 190; (with_reducible refine (empty_any _ _ _ _).mono ?_); rintro e w1 ⟨rfl, hb1⟩; rw [HD.out]; obtain ⟨q1, hD⟩ := box1s hb1)
        | (go_at_call 191; (with_reducible refine (HLEN.out _ hD).mono ?_); rintro e w2 ⟨rfl, hb2⟩; have q2 := (hb2.cell (p := ⟨w.heap.size, 0, none⟩) (by have := hb1.size; simp at this; show w.heap.size < w1.heap.size; omega)).trans q1; have hD2 := hD.trans (hb2.mono hD.size))
        | (refine wpList_make_full _ rfl (.tmp 13) (.tmp 13) 52 rfl w2.heap.size 9 i0 (.string ByteArray.empty) 1 Tryz.underlying52 hi hz0 hz1 .i64 .i64 n n n rfl rfl rfl rfl (by rw [hz2]; omega) (by unfold maxLen; omega) (Nat.le_refl _) ?_))
      intro w3 hown3 hgr3
      have hb3 : Below w2.heap.size w2 w3 := (Below.refl _ _).grown hgr3 (Nat.le_refl _) (fun b hb => by cases hb)
      have hSo := So.new hown3
      have hz2' := hD2.size
      have hlt0 : w.heap.size < w1.heap.size := by have := hb1.size; simp at this; omega
      have hlt0' : w.heap.size < w2.heap.size := by have := hb2.size; omega
      have q3 := (hb3.cell (p := ⟨w.heap.size, 0, none⟩) hlt0').trans q2
      have hD3 := hD2.trans (hb3.mono hz2')
      have hg0 : w.heap.size < w2.heap.size := hlt0'
      clear hown3 hgr3 hb3 hb2 hb1 q2 q1 hz2' hlt0 hlt0' hi hz0 hz1 hz2 HLEN hD hD2
      generalize w2.heap.size = g at hSo hg0
      clear w2 w1
      go_wp2_with fail
      go_loopw [18] (fun v wr => ∃ (j : Nat) (xs : List ByteArray), j ≤ n ∧ v = .int .i64 j ∧ So wr g n xs ∧ Hid (xs.take j = (l.take j).map bsP) ∧ Below w.heap.size w wr ∧ wr.cell? ⟨w.heap.size, 0, none⟩ = some (.slice a n cap)) (fun v _ => n - (intOf v).toNat)
      case atStart => exact ⟨0, _, by omega, rfl, hSo, rfl, hD3, q3⟩
      case round =>
        obtain ⟨j, xs, hj, rfl, hS, hpre, hbel, q0⟩ := hrel
        have hzr := hbel.size
        have hgl := hS.1
        by_cases hjn : j < n
        · rcases H4.out with hh | ⟨b, o, rfl, hb, hcell⟩
          · omega
          obtain ⟨⟨p1, p2⟩, hp⟩ : ∃ p, l[j]? = some p := ⟨_, List.getElem?_eq_getElem (by rw [HL.out]; exact hjn)⟩
          obtain ⟨c1, c2⟩ := hcell j _ hp
          have c1 := (hbel.cell (p := ⟨b, _, none⟩) hb).trans c1
          have c2 := (hbel.cell (p := ⟨b, _, none⟩) hb).trans c2
          dsimp only at c1 c2
          have hj0 : (0 : Int) ≤ (j : Int) := Int.natCast_nonneg _
          have hj1 : (j : Int) < (n : Int) := by omega
          have HST := Lib.hid (parts_step hpre.out hp (by rw [HL.out, hS.2.1]))
          have HTX2 := Lib.hid (spanText_any p1 p2 (HOK.out _ (List.mem_of_getElem? hp)) (wr.alloc (.cells #[.int .i64 p1, .int .i64 p2] 158)) (HPW.out _ (hbel.alloc hzr _)))
          obtain ⟨s5, hs5⟩ : ∃ s : ByteArray, s = bsP (p1, p2) := ⟨_, rfl⟩
          rw [show (⟨(spanT (p1, p2)).toArray⟩ : ByteArray) = bsP (p1, p2) from rfl, ← hs5] at HTX2
          rw [← hs5] at HST
          have hSo5 := Lib.hid hS
          clear hcell hp hpre hs5 hS
          go_wp2_with (go_at_call 192; (with_reducible refine HTX2.out.mono ?_); rintro e w5 ⟨rfl, hb5⟩; have hd5 := bel1 hb5; have hS5 := hSo5.out.below hd5 hgl; have q5 := (hd5.cell (p := ⟨w.heap.size, 0, none⟩) (show w.heap.size < wr.heap.size by omega)).trans q0; have hbel5 := hbel.trans (hd5.mono hzr); have y5 := hS5.2.2.2 j; have hgl5 := hS5.1; have HS5 := Lib.hid hS5; obtain ⟨y0, hy0⟩ : ∃ y, xs[j]? = some y := ⟨_, List.getElem?_eq_getElem (by rw [hS5.2.1]; exact hjn)⟩; have y6 := hS5.2.2.1 j _ hy0; clear hS5 hb5 hd5 hy0)
          go_roundw
          case rel => exact ⟨j + 1, _, by omega, by go_num, HS5.out.set j hjn _, HST.out, hbel5.setCell (by show w.heap.size ≤ g; omega) _, by rw [World.cell?_setCell_other _ _ _ _ (by simp <;> omega)]; exact q5⟩
          case measure => simp [intOf]; omega
        · obtain rfl : j = n := by omega
          have hxs : xs = l.map bsP := by
            have := hpre.out
            rwa [List.take_of_length_le (by rw [hS.2.1]; exact Nat.le_refl _), List.take_of_length_le (by rw [HL.out]; exact Nat.le_refl _)] at this
          subst hxs
          have hJ := Tryz.strings_Join g 0 j (l.map bsP) ⟨#[44]⟩ wr (fun k x hx => by rw [Nat.zero_add]; exact hS.2.2.1 k x hx) hgl (by rw [List.length_map, HL.out]; omega) (by rw [List.length_map, HL.out]; omega) HJL.out
          rw [List.length_map, HL.out] at hJ
          rw [show (⟨#[44]⟩ : ByteArray).data.toList = [44] from rfl, ← HTX.out] at hJ
          have HJ := Lib.hid hJ
          clear hJ hpre hS
          go_wp2_with (go_at_call 193; (with_reducible refine HJ.out.mono ?_); rintro e w6 ⟨rfl, hb6⟩)
          go_ret
          exact ⟨rfl, hbel.trans (hb6.mono hzr)⟩
end Go.Proofs.YtfjpbkmnlmecgaaGreatDoor.Dy
end
