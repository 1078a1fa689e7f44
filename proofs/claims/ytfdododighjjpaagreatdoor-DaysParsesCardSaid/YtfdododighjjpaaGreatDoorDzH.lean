/- Contracts: the reference's span. -/
import Derived.Test.YtfdododighjjpaaGreatDoorDzG
namespace Go.Proofs.YtfdododighjjpaaGreatDoor.Dy
open Go.RowKit Go.PlainAid
set_option linter.unusedVariables false
set_option linter.unusedSimpArgs false
set_option maxHeartbeats 4000000
set_option maxRecDepth 20000

def SpRes (x : List UInt8) (p : Int × Int) (ok : Bool) : Prop := (ok = true → Okp p) ∧ ∀ q, Okp q → spanT q = x → ok = true ∧ p = q
theorem itoa_day2 {z : Int} (h0 : 0 ≤ z) (h1 : z ≤ 30000) : ∃ y : Nat, z = y ∧ y ≤ 30000 ∧ Lib.itoa z = Lib.decDigits y := ⟨z.toNat, by omega, by omega, itoa_toNat h0⟩
theorem num_of {x : List UInt8} {n : Int} {ok : Bool} (h : NumR x n ok) {z : Int} (h0 : 0 ≤ z) (h1 : z ≤ 30000) (e : Lib.itoa z = x) : ok = true ∧ n = z := by
  obtain ⟨y, hy1, hy2, hy3⟩ := itoa_day2 h0 h1
  rcases h with ⟨hok, y', h2, h3, h4⟩ | ⟨hok, hno⟩
  · refine ⟨hok, ?_⟩
    have : y' = y := by
      have := congrArg valD (h4.symm.trans (e.symm.trans hy3))
      rwa [valD_dec, valD_dec] at this
    omega
  · exact absurd (e.symm.trans hy3) (hno y hy2)
theorem num_in {x : List UInt8} {n : Int} {ok : Bool} (h : NumR x n ok) (hok : ok = true) : 0 ≤ n ∧ n ≤ 30000 := by
  rcases h with ⟨_, y, h2, h3, h4⟩ | ⟨h, _⟩
  · omega
  · rw [h] at hok; cases hok
def NoDash (l : List UInt8) : Prop := ∀ b ∈ l, b ≠ 45
theorem cut_itoa {z : Int} (h0 : 0 ≤ z) (h1 : z ≤ 30000) (r : List UInt8) : Lib.cut (Lib.itoa z ++ 45 :: r) [45] = (Lib.itoa z, r, true) := cut_at fun b hb => ((itoa_dec h0 h1).2.1 b hb).1
theorem cut_itoa0 {z : Int} (h0 : 0 ≤ z) (h1 : z ≤ 30000) : Lib.cut (Lib.itoa z) [45] = (Lib.itoa z, [], false) := cut_none fun b hb => ((itoa_dec h0 h1).2.1 b hb).1
theorem sp_two {x s1 s2 : List UInt8} {a b : Int} {oa ob : Bool} (hx : x = s1 ++ 45 :: s2) (hd : NoDash s1) (h2 : s2 ≠ []) (ha : NumR s1 a oa) (hb : NumR s2 b ob) {ok : Bool} (hok : ok = (oa && ob && decide (a ≤ b))) : SpRes x (a, b) ok := by
  have hc : Lib.cut x [45] = (s1, s2, true) := by rw [hx]; exact cut_at hd
  refine ⟨fun h => ?_, fun q hq e => ?_⟩
  · rw [hok, Bool.and_eq_true, Bool.and_eq_true, decide_eq_true_iff] at h
    have h3 := num_in ha h.1.1
    have h4 := num_in hb h.1.2
    unfold Okp
    dsimp only
    omega
  · have hq' := hq
    unfold Okp at hq'
    unfold spanT at e
    split at e
    · rw [← e, cut_itoa0 (by omega) (by omega)] at hc
      simp at hc
    · split at e
      · rw [← e, cut_itoa (by omega) (by omega) []] at hc
        simp only [Prod.mk.injEq, and_true] at hc
        exact absurd hc.2.symm h2
      · rw [← e, List.append_assoc] at hc
        rw [show [45] ++ Lib.itoa q.2 = 45 :: Lib.itoa q.2 from rfl, cut_itoa (by omega) (by omega) _] at hc
        simp only [Prod.mk.injEq, and_true] at hc
        obtain ⟨h3, h4⟩ := num_of ha (z := q.1) (by omega) (by omega) hc.1
        obtain ⟨h5, h6⟩ := num_of hb (z := q.2) (by omega) (by omega) hc.2
        refine ⟨?_, Prod.ext h4 h6⟩
        rw [hok, h3, h5, decide_eq_true (by rw [h4, h6]; omega)]; rfl
theorem sp_open {x s1 : List UInt8} {a : Int} {oa : Bool} (hx : x = s1 ++ [45]) (hd : NoDash s1) (ha : NumR s1 a oa) {ok : Bool} (hok : ok = (oa && decide (a ≤ 30000))) : SpRes x (a, 30000) ok := by
  have hc : Lib.cut x [45] = (s1, [], true) := by rw [hx]; exact cut_at hd
  refine ⟨fun h => ?_, fun q hq e => ?_⟩
  · rw [hok, Bool.and_eq_true, decide_eq_true_iff] at h
    have h3 := num_in ha h.1
    unfold Okp
    dsimp only
    omega
  · have hq' := hq
    unfold Okp at hq'
    unfold spanT at e
    split at e
    · rw [← e, cut_itoa0 (by omega) (by omega)] at hc
      simp at hc
    · split at e
      · rename_i h30
        rw [← e, cut_itoa (by omega) (by omega) []] at hc
        simp only [Prod.mk.injEq, and_true] at hc
        obtain ⟨h3, h4⟩ := num_of ha (z := q.1) (by omega) (by omega) hc
        refine ⟨?_, Prod.ext h4 h30.symm⟩
        rw [hok, h3, decide_eq_true (by rw [h4]; omega)]; rfl
      · rw [← e, List.append_assoc] at hc
        rw [show [45] ++ Lib.itoa q.2 = 45 :: Lib.itoa q.2 from rfl, cut_itoa (by omega) (by omega) _] at hc
        simp only [Prod.mk.injEq, and_true] at hc
        exact absurd hc.2 (itoa_dec (z := q.2) (by omega) (by omega)).2.2
theorem sp_one {x : List UInt8} {a : Int} {oa : Bool} (hd : NoDash x) (ha : NumR x a oa) : SpRes x (a, a) oa := by
  have hc : Lib.cut x [45] = (x, [], false) := cut_none hd
  refine ⟨fun h => ?_, fun q hq e => ?_⟩
  · have h3 := num_in ha h
    unfold Okp
    dsimp only
    omega
  · have hq' := hq
    unfold Okp at hq'
    unfold spanT at e
    split at e
    · rename_i h12
      obtain ⟨h3, h4⟩ := num_of ha (z := q.1) (by omega) (by omega) e
      exact ⟨h3, Prod.ext h4 (h4.trans h12)⟩
    · split at e
      · rw [← e, cut_itoa (by omega) (by omega) []] at hc
        simp at hc
      · rw [← e, List.append_assoc] at hc
        rw [show [45] ++ Lib.itoa q.2 = 45 :: Lib.itoa q.2 from rfl, cut_itoa (by omega) (by omega) _] at hc
        simp at hc
theorem split_at {x : List UInt8} {j : Nat} (h : x[j]? = some 45) : x = x.take j ++ 45 :: x.drop (j + 1) := by
  conv => lhs; rw [← List.take_append_drop j x]
  rw [drop_at h]
def SpanRP (s : ByteArray) (w : World) (e : Ending) (w' : World) : Prop := ∃ p1 p2 ok, e = .returned (.tuple #[.agg #[.int .i64 p1, .int .i64 p2], .bool ok]) ∧ SpRes s.data.toList (p1, p2) ok ∧ RowKit.Below w.heap.size w w'
theorem drop_ne {l : List UInt8} {k : Nat} (h : k < l.length) : l.drop k ≠ [] := by
  intro e
  have := congrArg List.length e
  rw [List.length_drop, List.length_nil] at this
  omega
theorem ext_take (s : ByteArray) (j : Nat) (h : j ≤ s.size) : (s.extract 0 j).data.toList = s.data.toList.take j := by simp
theorem ext_drop (s : ByteArray) (j : Nat) (h : j ≤ s.size) : (s.extract j s.size).data.toList = s.data.toList.drop j := by
  obtain ⟨⟨l⟩⟩ := s
  rw [ByteArray.extract_mk]
  show (l.drop j).take (l.length - j) = l.drop j
  exact List.take_of_length_le (by simp)
theorem ext_size (s : ByteArray) (i j : Nat) : (s.extract i j).size ≤ s.size := by simp; omega
set_option maxRecDepth 100000 in
theorem span_any (s : ByteArray) (hs : s.size ≤ 1000) (w : World) :
    Calls Tryz.prog 36 #[.string s] w (SpanRP s w) := by
  have hb := get_bt s
  go_enter Tryz.func36, Tryz.ntmps36
  obtain ⟨W1, hW1⟩ : ∃ W1, w.alloc (.cells #[.int .i64 0, .int .i64 0] 61) = W1 := ⟨_, rfl⟩
  have hB1 : RowKit.Below w.heap.size w W1 := by rw [← hW1]; exact (RowKit.Below.refl _ _).alloc (Nat.le_refl _) _
  have k0 : W1.cell? ⟨w.heap.size, 0, none⟩ = some (.int .i64 0) := by rw [← hW1]; exact (new2 w _ _ _).1
  have k1 : W1.cell? ⟨w.heap.size, 1, none⟩ = some (.int .i64 0) := by rw [← hW1]; exact (new2 w _ _ _).2
  have f0 : W1.frozen? ⟨w.heap.size, 0, none⟩ = false := by rw [← hW1]; simp
  have f1 : W1.frozen? ⟨w.heap.size, 1, none⟩ = false := by rw [← hW1]; simp
  have hz1 : w.heap.size < W1.heap.size := by rw [← hW1]; simp
  have HW1 := Lib.hid hW1
  clear hW1
  go_upto_region 1 with fail
  rw [HW1.out]
  go_wp2_with fail
  go_loop [4] (fun v4 => ∃ (j : Nat), j ≤ s.size ∧ v4 = .int .i64 j ∧ Hid (NoDash (s.data.toList.take j))) (fun v => s.size - (intOf v).toNat)
  case atStart => exact ⟨0, by omega, rfl, fun b hb => by simp at hb⟩
  case round =>
    obtain ⟨j, hj, rfl, hnd⟩ := hrel
    have hj0 : (0 : Int) ≤ (j : Int) := Int.natCast_nonneg _
    by_cases hlt : j < s.size
    · have hj1 : (j : Int) < (s.size : Int) := by omega
      obtain ⟨b, hb1, hb2⟩ := bt_at hlt
      have HB1 := Lib.hid hb1
      have hc0 : 0 ≤ bt s j := bt_nonneg s j
      have hc1 : bt s j ≤ 255 := bt_le s j
      have HB2 := Lib.hid hb2
      clear hb1 hb2
      obtain ⟨c, hc⟩ : ∃ c, bt s j = c := ⟨_, rfl⟩
      have hbj := hb j hlt
      rw [hc] at hbj hc0 hc1
      have HB3 : Hid (c = (b.toNat : Int)) := by show _ = _; rw [← hc]; exact HB2.out
      clear hc HB2 hb
      by_cases h45 : c = 45
      · have hbb : b = 45 := by
          apply UInt8.toNat_inj.1
          have := HB3.out
          have e : (45 : UInt8).toNat = 45 := rfl
          omega
        have hx45 : s.data.toList[j]? = some 45 := by rw [← hbb]; exact HB1.out
        have HSP := Lib.hid (split_at hx45)
        clear hbb
        subst h45
        clear hx45 hc0 hc1
        obtain ⟨t1, ht1⟩ : ∃ t1, s.extract 0 j = t1 := ⟨_, rfl⟩
        have hd1 : t1.data.toList = s.data.toList.take j := by rw [← ht1]; exact ext_take s j hj
        have hs1 : t1.size ≤ 1000 := by rw [← ht1]; exact Nat.le_trans (ext_size s _ _) hs
        have HN1 := Lib.hid (fun W => number_any t1 hs1 W)
        have HD1 := Lib.hid hd1
        clear hd1 hs1
        by_cases hlast : j + 1 < s.size
        · have hlast1 : (j : Int) + 1 < (s.size : Int) := by omega
          obtain ⟨t2, ht2⟩ : ∃ t2, s.extract (j + 1) s.size = t2 := ⟨_, rfl⟩
          have hd2 : t2.data.toList = s.data.toList.drop (j + 1) := by rw [← ht2]; exact ext_drop s (j + 1) (by omega)
          have hs2 : t2.size ≤ 1000 := by rw [← ht2]; exact Nat.le_trans (ext_size s _ _) hs
          have HN2 := Lib.hid (fun W => number_any t2 hs2 W)
          have HD2 := Lib.hid hd2
          clear hd2 hs2
          have tk0 : Nat := 0
          go_upto_region 9 with (first
            | (go_at_call 65; clear tk0; (with_reducible refine (HN1.out _).mono ?_); rintro e w2 ⟨a, oa, rfl, hn1, hb2⟩; have HR1 := Lib.hid hn1; clear hn1; have c0 := (hb2.cell (p := ⟨w.heap.size, 0, none⟩) hz1).trans k0; have c1 := (hb2.cell (p := ⟨w.heap.size, 1, none⟩) hz1).trans k1; have g0 := (hb2.frozen (p := ⟨w.heap.size, 0, none⟩) hz1).trans f0; have g1 := (hb2.frozen (p := ⟨w.heap.size, 1, none⟩) hz1).trans f1; have hz2 := Nat.lt_of_lt_of_le hz1 hb2.size; have hbw := hB1.trans (hb2.mono hB1.size); have tk1 : Nat := 0)
            | (go_at_call 65; clear tk1; (with_reducible refine (HN2.out _).mono ?_); rintro e w3 ⟨b2, ob, rfl, hn2, hb3⟩; have HR2 := Lib.hid hn2; clear hn2; have c0 := (hb3.cell (p := ⟨w.heap.size, 0, none⟩) hz2).trans c0; have c1 := (hb3.cell (p := ⟨w.heap.size, 1, none⟩) hz2).trans c1; have g0 := (hb3.frozen (p := ⟨w.heap.size, 0, none⟩) hz2).trans g0; have g1 := (hb3.frozen (p := ⟨w.heap.size, 1, none⟩) hz2).trans g1; have hz3 := Nat.lt_of_lt_of_le hz2 hb3.size; have hbw := hbw.trans (hb3.mono hbw.size)))
          by_cases hab : a ≤ b2
          · cases oa with
            | false =>
              cases ob with
              | false =>
                have HF := Lib.hid (sp_two (ok := false) HSP.out hnd.out (drop_ne (by rw [Array.length_toList]; exact hlast)) (HD1.out ▸ HR1.out) (HD2.out ▸ HR2.out) (by rw [decide_eq_true hab]; rfl))
                go_wp2_with fail
                all_goals first | (exfalso; omega) | skip
                have d0 : ((w3.setCell ⟨w.heap.size, 0, none⟩ (.int .i64 a)).setCell ⟨w.heap.size, 1, none⟩ (.int .i64 b2)).cell? ⟨w.heap.size, 0, none⟩ = some (.int .i64 a) := (World.cell?_setCell_other _ _ _ _ (by simp)).trans (World.cell?_setCell_same _ _ _ c0)
                have d1 : ((w3.setCell ⟨w.heap.size, 0, none⟩ (.int .i64 a)).setCell ⟨w.heap.size, 1, none⟩ (.int .i64 b2)).cell? ⟨w.heap.size, 1, none⟩ = some (.int .i64 b2) := World.cell?_setCell_same _ _ _ ((World.cell?_setCell_other _ _ _ _ (by simp)).trans c1)
                refine bodyPost_ret (v := .tuple #[.agg #[.int .i64 a, .int .i64 b2], .bool false]) (by simp [results, Tryz.results36, go_sem, d0, d1]) rfl ?_
                exact ⟨_, _, _, rfl, HF.out, (hbw.setCell (Nat.le_refl _) _).setCell (Nat.le_refl _) _⟩
              | true =>
                have HF := Lib.hid (sp_two (ok := false) HSP.out hnd.out (drop_ne (by rw [Array.length_toList]; exact hlast)) (HD1.out ▸ HR1.out) (HD2.out ▸ HR2.out) (by rw [decide_eq_true hab]; rfl))
                go_wp2_with fail
                all_goals first | (exfalso; omega) | skip
                have d0 : ((w3.setCell ⟨w.heap.size, 0, none⟩ (.int .i64 a)).setCell ⟨w.heap.size, 1, none⟩ (.int .i64 b2)).cell? ⟨w.heap.size, 0, none⟩ = some (.int .i64 a) := (World.cell?_setCell_other _ _ _ _ (by simp)).trans (World.cell?_setCell_same _ _ _ c0)
                have d1 : ((w3.setCell ⟨w.heap.size, 0, none⟩ (.int .i64 a)).setCell ⟨w.heap.size, 1, none⟩ (.int .i64 b2)).cell? ⟨w.heap.size, 1, none⟩ = some (.int .i64 b2) := World.cell?_setCell_same _ _ _ ((World.cell?_setCell_other _ _ _ _ (by simp)).trans c1)
                refine bodyPost_ret (v := .tuple #[.agg #[.int .i64 a, .int .i64 b2], .bool false]) (by simp [results, Tryz.results36, go_sem, d0, d1]) rfl ?_
                exact ⟨_, _, _, rfl, HF.out, (hbw.setCell (Nat.le_refl _) _).setCell (Nat.le_refl _) _⟩
            | true =>
              cases ob with
              | false =>
                have HF := Lib.hid (sp_two (ok := false) HSP.out hnd.out (drop_ne (by rw [Array.length_toList]; exact hlast)) (HD1.out ▸ HR1.out) (HD2.out ▸ HR2.out) (by rw [decide_eq_true hab]; rfl))
                go_wp2_with fail
                all_goals first | (exfalso; omega) | skip
                have d0 : ((w3.setCell ⟨w.heap.size, 0, none⟩ (.int .i64 a)).setCell ⟨w.heap.size, 1, none⟩ (.int .i64 b2)).cell? ⟨w.heap.size, 0, none⟩ = some (.int .i64 a) := (World.cell?_setCell_other _ _ _ _ (by simp)).trans (World.cell?_setCell_same _ _ _ c0)
                have d1 : ((w3.setCell ⟨w.heap.size, 0, none⟩ (.int .i64 a)).setCell ⟨w.heap.size, 1, none⟩ (.int .i64 b2)).cell? ⟨w.heap.size, 1, none⟩ = some (.int .i64 b2) := World.cell?_setCell_same _ _ _ ((World.cell?_setCell_other _ _ _ _ (by simp)).trans c1)
                refine bodyPost_ret (v := .tuple #[.agg #[.int .i64 a, .int .i64 b2], .bool false]) (by simp [results, Tryz.results36, go_sem, d0, d1]) rfl ?_
                exact ⟨_, _, _, rfl, HF.out, (hbw.setCell (Nat.le_refl _) _).setCell (Nat.le_refl _) _⟩
              | true =>
                have HF := Lib.hid (sp_two (ok := true) HSP.out hnd.out (drop_ne (by rw [Array.length_toList]; exact hlast)) (HD1.out ▸ HR1.out) (HD2.out ▸ HR2.out) (by rw [decide_eq_true hab]; rfl))
                go_wp2_with fail
                all_goals first | (exfalso; omega) | skip
                have d0 : ((w3.setCell ⟨w.heap.size, 0, none⟩ (.int .i64 a)).setCell ⟨w.heap.size, 1, none⟩ (.int .i64 b2)).cell? ⟨w.heap.size, 0, none⟩ = some (.int .i64 a) := (World.cell?_setCell_other _ _ _ _ (by simp)).trans (World.cell?_setCell_same _ _ _ c0)
                have d1 : ((w3.setCell ⟨w.heap.size, 0, none⟩ (.int .i64 a)).setCell ⟨w.heap.size, 1, none⟩ (.int .i64 b2)).cell? ⟨w.heap.size, 1, none⟩ = some (.int .i64 b2) := World.cell?_setCell_same _ _ _ ((World.cell?_setCell_other _ _ _ _ (by simp)).trans c1)
                refine bodyPost_ret (v := .tuple #[.agg #[.int .i64 a, .int .i64 b2], .bool true]) (by simp [results, Tryz.results36, go_sem, d0, d1]) rfl ?_
                exact ⟨_, _, _, rfl, HF.out, (hbw.setCell (Nat.le_refl _) _).setCell (Nat.le_refl _) _⟩
          · cases oa with
            | false =>
              cases ob with
              | false =>
                have HF := Lib.hid (sp_two (ok := false) HSP.out hnd.out (drop_ne (by rw [Array.length_toList]; exact hlast)) (HD1.out ▸ HR1.out) (HD2.out ▸ HR2.out) (by rw [decide_eq_false hab]; rfl))
                go_wp2_with fail
                all_goals first | (exfalso; omega) | skip
                have d0 : ((w3.setCell ⟨w.heap.size, 0, none⟩ (.int .i64 a)).setCell ⟨w.heap.size, 1, none⟩ (.int .i64 b2)).cell? ⟨w.heap.size, 0, none⟩ = some (.int .i64 a) := (World.cell?_setCell_other _ _ _ _ (by simp)).trans (World.cell?_setCell_same _ _ _ c0)
                have d1 : ((w3.setCell ⟨w.heap.size, 0, none⟩ (.int .i64 a)).setCell ⟨w.heap.size, 1, none⟩ (.int .i64 b2)).cell? ⟨w.heap.size, 1, none⟩ = some (.int .i64 b2) := World.cell?_setCell_same _ _ _ ((World.cell?_setCell_other _ _ _ _ (by simp)).trans c1)
                refine bodyPost_ret (v := .tuple #[.agg #[.int .i64 a, .int .i64 b2], .bool false]) (by simp [results, Tryz.results36, go_sem, d0, d1]) rfl ?_
                exact ⟨_, _, _, rfl, HF.out, (hbw.setCell (Nat.le_refl _) _).setCell (Nat.le_refl _) _⟩
              | true =>
                have HF := Lib.hid (sp_two (ok := false) HSP.out hnd.out (drop_ne (by rw [Array.length_toList]; exact hlast)) (HD1.out ▸ HR1.out) (HD2.out ▸ HR2.out) (by rw [decide_eq_false hab]; rfl))
                go_wp2_with fail
                all_goals first | (exfalso; omega) | skip
                have d0 : ((w3.setCell ⟨w.heap.size, 0, none⟩ (.int .i64 a)).setCell ⟨w.heap.size, 1, none⟩ (.int .i64 b2)).cell? ⟨w.heap.size, 0, none⟩ = some (.int .i64 a) := (World.cell?_setCell_other _ _ _ _ (by simp)).trans (World.cell?_setCell_same _ _ _ c0)
                have d1 : ((w3.setCell ⟨w.heap.size, 0, none⟩ (.int .i64 a)).setCell ⟨w.heap.size, 1, none⟩ (.int .i64 b2)).cell? ⟨w.heap.size, 1, none⟩ = some (.int .i64 b2) := World.cell?_setCell_same _ _ _ ((World.cell?_setCell_other _ _ _ _ (by simp)).trans c1)
                refine bodyPost_ret (v := .tuple #[.agg #[.int .i64 a, .int .i64 b2], .bool false]) (by simp [results, Tryz.results36, go_sem, d0, d1]) rfl ?_
                exact ⟨_, _, _, rfl, HF.out, (hbw.setCell (Nat.le_refl _) _).setCell (Nat.le_refl _) _⟩
            | true =>
              cases ob with
              | false =>
                have HF := Lib.hid (sp_two (ok := false) HSP.out hnd.out (drop_ne (by rw [Array.length_toList]; exact hlast)) (HD1.out ▸ HR1.out) (HD2.out ▸ HR2.out) (by rw [decide_eq_false hab]; rfl))
                go_wp2_with fail
                all_goals first | (exfalso; omega) | skip
                have d0 : ((w3.setCell ⟨w.heap.size, 0, none⟩ (.int .i64 a)).setCell ⟨w.heap.size, 1, none⟩ (.int .i64 b2)).cell? ⟨w.heap.size, 0, none⟩ = some (.int .i64 a) := (World.cell?_setCell_other _ _ _ _ (by simp)).trans (World.cell?_setCell_same _ _ _ c0)
                have d1 : ((w3.setCell ⟨w.heap.size, 0, none⟩ (.int .i64 a)).setCell ⟨w.heap.size, 1, none⟩ (.int .i64 b2)).cell? ⟨w.heap.size, 1, none⟩ = some (.int .i64 b2) := World.cell?_setCell_same _ _ _ ((World.cell?_setCell_other _ _ _ _ (by simp)).trans c1)
                refine bodyPost_ret (v := .tuple #[.agg #[.int .i64 a, .int .i64 b2], .bool false]) (by simp [results, Tryz.results36, go_sem, d0, d1]) rfl ?_
                exact ⟨_, _, _, rfl, HF.out, (hbw.setCell (Nat.le_refl _) _).setCell (Nat.le_refl _) _⟩
              | true =>
                have HF := Lib.hid (sp_two (ok := false) HSP.out hnd.out (drop_ne (by rw [Array.length_toList]; exact hlast)) (HD1.out ▸ HR1.out) (HD2.out ▸ HR2.out) (by rw [decide_eq_false hab]; rfl))
                go_wp2_with fail
                all_goals first | (exfalso; omega) | skip
                have d0 : ((w3.setCell ⟨w.heap.size, 0, none⟩ (.int .i64 a)).setCell ⟨w.heap.size, 1, none⟩ (.int .i64 b2)).cell? ⟨w.heap.size, 0, none⟩ = some (.int .i64 a) := (World.cell?_setCell_other _ _ _ _ (by simp)).trans (World.cell?_setCell_same _ _ _ c0)
                have d1 : ((w3.setCell ⟨w.heap.size, 0, none⟩ (.int .i64 a)).setCell ⟨w.heap.size, 1, none⟩ (.int .i64 b2)).cell? ⟨w.heap.size, 1, none⟩ = some (.int .i64 b2) := World.cell?_setCell_same _ _ _ ((World.cell?_setCell_other _ _ _ _ (by simp)).trans c1)
                refine bodyPost_ret (v := .tuple #[.agg #[.int .i64 a, .int .i64 b2], .bool false]) (by simp [results, Tryz.results36, go_sem, d0, d1]) rfl ?_
                exact ⟨_, _, _, rfl, HF.out, (hbw.setCell (Nat.le_refl _) _).setCell (Nat.le_refl _) _⟩
        · have hlast1 : ¬ (j : Int) + 1 < (s.size : Int) := by omega
          have tk0 : Nat := 0
          go_upto_region 9 with (go_at_call 65; clear tk0; (with_reducible refine (HN1.out _).mono ?_); rintro e w2 ⟨a, oa, rfl, hn1, hb2⟩; have HR1 := Lib.hid hn1; clear hn1; have c0 := (hb2.cell (p := ⟨w.heap.size, 0, none⟩) hz1).trans k0; have c1 := (hb2.cell (p := ⟨w.heap.size, 1, none⟩) hz1).trans k1; have g0 := (hb2.frozen (p := ⟨w.heap.size, 0, none⟩) hz1).trans f0; have g1 := (hb2.frozen (p := ⟨w.heap.size, 1, none⟩) hz1).trans f1; have hz2 := Nat.lt_of_lt_of_le hz1 hb2.size; have hbw := hB1.trans (hb2.mono hB1.size); have tk1 : Nat := 0)
          by_cases hab : a ≤ 30000
          · cases oa with
            | false =>
              have HF := Lib.hid (sp_open (ok := false) (HSP.out.trans (by rw [List.drop_of_length_le (by rw [Array.length_toList]; show s.size ≤ j + 1; omega)])) hnd.out (HD1.out ▸ HR1.out) (by rw [decide_eq_true hab]; rfl))
              go_wp2_with fail
              all_goals first | (exfalso; omega) | skip
              have d0 : ((w2.setCell ⟨w.heap.size, 0, none⟩ (.int .i64 a)).setCell ⟨w.heap.size, 1, none⟩ (.int .i64 30000)).cell? ⟨w.heap.size, 0, none⟩ = some (.int .i64 a) := (World.cell?_setCell_other _ _ _ _ (by simp)).trans (World.cell?_setCell_same _ _ _ c0)
              have d1 : ((w2.setCell ⟨w.heap.size, 0, none⟩ (.int .i64 a)).setCell ⟨w.heap.size, 1, none⟩ (.int .i64 30000)).cell? ⟨w.heap.size, 1, none⟩ = some (.int .i64 30000) := World.cell?_setCell_same _ _ _ ((World.cell?_setCell_other _ _ _ _ (by simp)).trans c1)
              refine bodyPost_ret (v := .tuple #[.agg #[.int .i64 a, .int .i64 30000], .bool false]) (by simp [results, Tryz.results36, go_sem, d0, d1]) rfl ?_
              exact ⟨_, _, _, rfl, HF.out, (hbw.setCell (Nat.le_refl _) _).setCell (Nat.le_refl _) _⟩
            | true =>
              have HF := Lib.hid (sp_open (ok := true) (HSP.out.trans (by rw [List.drop_of_length_le (by rw [Array.length_toList]; show s.size ≤ j + 1; omega)])) hnd.out (HD1.out ▸ HR1.out) (by rw [decide_eq_true hab]; rfl))
              go_wp2_with fail
              all_goals first | (exfalso; omega) | skip
              have d0 : ((w2.setCell ⟨w.heap.size, 0, none⟩ (.int .i64 a)).setCell ⟨w.heap.size, 1, none⟩ (.int .i64 30000)).cell? ⟨w.heap.size, 0, none⟩ = some (.int .i64 a) := (World.cell?_setCell_other _ _ _ _ (by simp)).trans (World.cell?_setCell_same _ _ _ c0)
              have d1 : ((w2.setCell ⟨w.heap.size, 0, none⟩ (.int .i64 a)).setCell ⟨w.heap.size, 1, none⟩ (.int .i64 30000)).cell? ⟨w.heap.size, 1, none⟩ = some (.int .i64 30000) := World.cell?_setCell_same _ _ _ ((World.cell?_setCell_other _ _ _ _ (by simp)).trans c1)
              refine bodyPost_ret (v := .tuple #[.agg #[.int .i64 a, .int .i64 30000], .bool true]) (by simp [results, Tryz.results36, go_sem, d0, d1]) rfl ?_
              exact ⟨_, _, _, rfl, HF.out, (hbw.setCell (Nat.le_refl _) _).setCell (Nat.le_refl _) _⟩
          · cases oa with
            | false =>
              have HF := Lib.hid (sp_open (ok := false) (HSP.out.trans (by rw [List.drop_of_length_le (by rw [Array.length_toList]; show s.size ≤ j + 1; omega)])) hnd.out (HD1.out ▸ HR1.out) (by rw [decide_eq_false hab]; rfl))
              go_wp2_with fail
              all_goals first | (exfalso; omega) | skip
              have d0 : ((w2.setCell ⟨w.heap.size, 0, none⟩ (.int .i64 a)).setCell ⟨w.heap.size, 1, none⟩ (.int .i64 30000)).cell? ⟨w.heap.size, 0, none⟩ = some (.int .i64 a) := (World.cell?_setCell_other _ _ _ _ (by simp)).trans (World.cell?_setCell_same _ _ _ c0)
              have d1 : ((w2.setCell ⟨w.heap.size, 0, none⟩ (.int .i64 a)).setCell ⟨w.heap.size, 1, none⟩ (.int .i64 30000)).cell? ⟨w.heap.size, 1, none⟩ = some (.int .i64 30000) := World.cell?_setCell_same _ _ _ ((World.cell?_setCell_other _ _ _ _ (by simp)).trans c1)
              refine bodyPost_ret (v := .tuple #[.agg #[.int .i64 a, .int .i64 30000], .bool false]) (by simp [results, Tryz.results36, go_sem, d0, d1]) rfl ?_
              exact ⟨_, _, _, rfl, HF.out, (hbw.setCell (Nat.le_refl _) _).setCell (Nat.le_refl _) _⟩
            | true =>
              have HF := Lib.hid (sp_open (ok := false) (HSP.out.trans (by rw [List.drop_of_length_le (by rw [Array.length_toList]; show s.size ≤ j + 1; omega)])) hnd.out (HD1.out ▸ HR1.out) (by rw [decide_eq_false hab]; rfl))
              go_wp2_with fail
              all_goals first | (exfalso; omega) | skip
              have d0 : ((w2.setCell ⟨w.heap.size, 0, none⟩ (.int .i64 a)).setCell ⟨w.heap.size, 1, none⟩ (.int .i64 30000)).cell? ⟨w.heap.size, 0, none⟩ = some (.int .i64 a) := (World.cell?_setCell_other _ _ _ _ (by simp)).trans (World.cell?_setCell_same _ _ _ c0)
              have d1 : ((w2.setCell ⟨w.heap.size, 0, none⟩ (.int .i64 a)).setCell ⟨w.heap.size, 1, none⟩ (.int .i64 30000)).cell? ⟨w.heap.size, 1, none⟩ = some (.int .i64 30000) := World.cell?_setCell_same _ _ _ ((World.cell?_setCell_other _ _ _ _ (by simp)).trans c1)
              refine bodyPost_ret (v := .tuple #[.agg #[.int .i64 a, .int .i64 30000], .bool false]) (by simp [results, Tryz.results36, go_sem, d0, d1]) rfl ?_
              exact ⟨_, _, _, rfl, HF.out, (hbw.setCell (Nat.le_refl _) _).setCell (Nat.le_refl _) _⟩
      · have HND : Hid (NoDash (s.data.toList.take (j + 1))) := by
          show NoDash _
          rw [take_get HB1.out]
          intro x hx
          rcases List.mem_append.1 hx with hx | hx
          · exact hnd.out x hx
          · rw [List.mem_singleton] at hx
            rw [hx]; rintro rfl
            exact h45 HB3.out
        have h45b : (c == 45) = false := beq_eq_false_iff_ne.2 h45
        go_wp2_with fail
        all_goals first | (exfalso; omega) | skip
        go_round
        case rel => exact ⟨j + 1, by omega, by go_num, HND.out⟩
        case measure => simp [intOf]; omega
    · obtain rfl : j = s.size := by omega
      have HND : Hid (NoDash s.data.toList) := by
        have h := hnd.out
        rwa [List.take_of_length_le (by rw [Array.length_toList]; exact Nat.le_refl _)] at h
      have HN1 := Lib.hid (fun W => number_any s hs W)
      clear hb
      go_wp2_with (go_at_call 65; (with_reducible refine (HN1.out _).mono ?_); rintro e w2 ⟨a, oa, rfl, hn1, hb2⟩; have HR1 := Lib.hid hn1; clear hn1; have c0 := (hb2.cell (p := ⟨w.heap.size, 0, none⟩) hz1).trans k0; have c1 := (hb2.cell (p := ⟨w.heap.size, 1, none⟩) hz1).trans k1; have g0 := (hb2.frozen (p := ⟨w.heap.size, 0, none⟩) hz1).trans f0; have g1 := (hb2.frozen (p := ⟨w.heap.size, 1, none⟩) hz1).trans f1; have hbw := hB1.trans (hb2.mono hB1.size))
      have d0 : ((w2.setCell ⟨w.heap.size, 0, none⟩ (.int .i64 a)).setCell ⟨w.heap.size, 1, none⟩ (.int .i64 a)).cell? ⟨w.heap.size, 0, none⟩ = some (.int .i64 a) := (World.cell?_setCell_other _ _ _ _ (by simp)).trans (World.cell?_setCell_same _ _ _ c0)
      have d1 : ((w2.setCell ⟨w.heap.size, 0, none⟩ (.int .i64 a)).setCell ⟨w.heap.size, 1, none⟩ (.int .i64 a)).cell? ⟨w.heap.size, 1, none⟩ = some (.int .i64 a) := World.cell?_setCell_same _ _ _ ((World.cell?_setCell_other _ _ _ _ (by simp)).trans c1)
      refine bodyPost_ret (v := .tuple #[.agg #[.int .i64 a, .int .i64 a], .bool oa]) (by simp [results, Tryz.results36, go_sem, d0, d1]) rfl ?_
      exact ⟨_, _, _, rfl, sp_one HND.out HR1.out, (hbw.setCell (Nat.le_refl _) _).setCell (Nat.le_refl _) _⟩
end Go.Proofs.YtfdododighjjpaaGreatDoor.Dy
