/- Several of the texts below, joined: RuQ RuR RuS. -/
import Derived.Test.YtfjpbkmnlmecgaaGreatDoorQgf
import Derived.Test.YtfjpbkmnlmecgaaGreatDoorQgd
import Derived.Carry
import Derived.RangeFuncBox
section
/- Package names: Add, the walk. -/
namespace Go.Proofs.YtfjpbkmnlmecgaaGreatDoor.Ru
open Go.RowKit Go.PlainAid Go.Maps Go.Proofs.YtfjpbkmnlmecgaaGreatDoor
set_option linter.unusedVariables false
set_option linter.unusedSimpArgs false
set_option maxHeartbeats 4000000
set_option maxRecDepth 20000

theorem wf_int (z : Int) (h0 : 0 ≤ z) (h1 : z ≤ 1000000) : (Lit.int .i64 z).wf = true := by
  have e1 : IntKind.i64.min = -9223372036854775808 := by decide
  have e2 : IntKind.i64.max = 9223372036854775807 := by decide
  show (decide (IntKind.i64.min ≤ z) && decide (z ≤ IntKind.i64.max)) = true
  rw [e1, e2, Bool.and_eq_true, decide_eq_true_eq, decide_eq_true_eq]
  omega
def N1 (s : ByteArray) (v : Value) (w : World) : Prop := ∃ g, v = .slice (some ⟨g, 0, none⟩) 1 1 ∧ w.heap[g]? = some (.cells #[.string s] 9 (0, 0))
def Nr (base n : Nat) (ys : List Value) (v : Value) (w : World) : Prop := ∃ g cap, v = .slice (some ⟨g, 0, none⟩) (n + 1) cap ∧ w.ownsRow base 9 1 (.slice (some ⟨g, 0, none⟩) (n + 1) cap) (n + 1) ys
def Nm (base n : Nat) (D : DataW Unit) (v : Value) (w : World) : Prop := ∃ b, v = .map (some b) ∧ base ≤ b ∧ w.ownsMap Tryz.prog 9 (plainElem Tryz.prog 3) b n D
def Nb (base n : Nat) (ys : List Value) (M : Value → World → Prop) (v : Value) (w : World) : Prop := ∃ p x y, v = .pointer (some ⟨p, 0, none⟩) ∧ base ≤ p ∧ w.heap[p]? = some (.cells #[x, y] 264 (0, 0)) ∧ Nr base n ys x w ∧ M y w
theorem N1.st {s : ByteArray} {v : Value} {base n : Nat} {ys : List Value} {w w' : World} (h : N1 s v w) (hb : Tad base n ys w w') : N1 s v w' := by
  obtain ⟨g, e, h⟩ := h; exact ⟨g, e, hb.one h⟩
theorem Nr.st {v : Value} {base n : Nat} {ys : List Value} {w w' : World} (h : Nr base n ys v w) (hb : Tad base n ys w w') : Nr base n ys v w' := by
  obtain ⟨g, c, e, h⟩ := h; exact ⟨g, c, e, hb.more h⟩
theorem Nm.st {v : Value} {base n m : Nat} {ys : List Value} {D : DataW Unit} {w w' : World} (h : Nm base m D v w) (hb : Tad base n ys w w') : Nm base m D v w' := by
  obtain ⟨g, e, h0, h⟩ := h; exact ⟨g, e, h0, hb.map h⟩
theorem Nb.st {v : Value} {base n : Nat} {ys : List Value} {M : Value → World → Prop} (hM : ∀ y w w', M y w → Tad base n ys w w' → M y w') {w w' : World} (h : Nb base n ys M v w) (hb : Tad base n ys w w') : Nb base n ys M v w' := by
  obtain ⟨p, x, y, e, h0, h1, h2, h3⟩ := h; exact ⟨p, x, y, e, h0, hb.two h1, h2.st hb, hM _ _ _ h3 hb⟩
theorem ownsRow_base {w : World} {B B' : Nat} {T : TypeId} {k n : Nat} {v : Value} {xs : List Value} (h : w.ownsRow B T k v n xs) (hB : B' ≤ B) : w.ownsRow B' T k v n xs := by
  refine ⟨h.1, ?_⟩
  rcases h.2 with h | ⟨g, cap, cur, e, hb, r⟩
  · exact .inl h
  · exact .inr ⟨g, cap, cur, e, Nat.le_trans hB hb, r⟩
theorem Nr.sn {base n : Nat} {ns : List ByteArray} {a : Option Addr} {c : Nat} {w : World} (hn : ns.length = n + 1) (h : w.ownsRow base 9 1 (.slice a (n + 1) c) (n + 1) (ns.map Value.string)) : Sn w a (n + 1) c ns := by
  rcases h.2 with ⟨e, h0⟩ | ⟨g, cap, cur, e, hb, hg, hc, hcm, hcs, ht⟩
  · omega
  · injection e with e1 e2 e3
    subst e1 e3
    refine ⟨hn, hc, by unfold maxLen at hcm; omega, .inr ⟨by omega, g, 0, rfl, (Array.getElem?_eq_some_iff.1 hg).1, fun j hj => ?_⟩⟩
    have := h.cells (g := g) rfl j (.string (ns.getD j ByteArray.empty)) (by
      rw [List.getElem?_map, List.getElem?_eq_getElem (by omega)]
      simp [List.getD_eq_getElem?_getD, List.getElem?_eq_getElem (show j < ns.length by omega)])
    rw [show ((⟨g, 0, none⟩ : Addr).add j) = ⟨g, 0 + j, none⟩ by unfold Addr.add; split <;> simp_all] at this
    exact this
theorem tb_done {w w' : World} {p b : Nat} {a : Option Addr} {c base : Nat} {ns : List ByteArray} {s : ByteArray} {D : DataW Unit} (hp : w.heap[p]? = some (.cells #[.slice a (ns.length + 1) c, .map (some b)] 264 (0, 0)))
    (hm0 : ∃ es k, w.heap[b]? = some (.map es k)) (hr : w.ownsRow base 9 1 (.slice a (ns.length + 1) c) (ns.length + 1) ((ns ++ [s]).map Value.string))
    (hg : w.grownBy w' (some b)) (hm : w'.ownsMap Tryz.prog 9 (plainElem Tryz.prog 3) b (ns.length + 1) (D.put (kl s) (.lit (.int .i64 ((ns.length + 1 : Nat) : Int))))) (hD : TabD D ns) (hs : s ∉ ns) : Tb w' p (ns ++ [s]) := by
  obtain ⟨es, k, hb⟩ := hm0
  have hpb : p ≠ b := by intro e; subst e; rw [hp] at hb; cases hb
  have hrb : ∀ g, (Value.slice a (ns.length + 1) c).ownBlock = some g → g ≠ b := by
    intro g hgb e
    subst e
    rcases hr.2 with ⟨e, h0⟩ | ⟨g1, cap, cur, e, _, hg1, _⟩
    · omega
    · injection e with e1
      subst e1
      simp [Value.ownBlock] at hgb
      subst hgb
      rw [hg1] at hb; cases hb
  have hr' : w'.ownsRow base 9 1 (.slice a (ns.length + 1) c) (ns.length + 1) ((ns ++ [s]).map Value.string) := hr.kept hg (.inr (fun e => hrb b e rfl))
  have hlen : (ns ++ [s]).length = ns.length + 1 := by simp
  refine ⟨a, c, some b, ?_, ?_, .inr ⟨by simp, b, _, rfl, ?_, hD.put s hs⟩⟩
  · rw [hlen]
    exact (hg.block p (Array.getElem?_eq_some_iff.1 hp).1 (fun e => hpb (Option.some.inj e))).trans hp
  · rw [hlen]; exact Nr.sn hlen hr'
  · rw [hlen]; exact hm
theorem add_more (t : Nat) (ns : List ByteArray) (s : ByteArray) (most : Int) (n : Nat) (W : World) (h : Tb W t ns) (hn : ns.length = n) (hn0 : 0 < n) (hv : validB s = true) (hnot : s ∉ ns) (hmost : (n : Int) < most) (hn100 : n < 100) (hs : s.size ≤ 1000000) :
    Calls Tryz.prog 128 #[.pointer (some ⟨t, 0, none⟩), .string s, .int .i64 most] W fun e w' => ∃ p, e = .returned (.tuple #[.pointer (some ⟨p, 0, none⟩), .int .i64 ((n : Int) + 1), .int .i64 0]) ∧ Tb w' p (ns ++ [s]) ∧ Below W.heap.size W w' := by
  have HV := Lib.hid hv
  have htl := h.lt
  obtain ⟨a, c, m, h1, h2, h3⟩ := h
  rw [hn] at h1 h2
  have q0 := (cell2 h1).1
  have q1 := (cell2 h1).2.1
  clear h1 hv
  obtain ⟨-, hac, hcm, h4⟩ := h2
  rcases h4 with ⟨-, h0, -⟩ | ⟨-, b, o, rfl, hbl, hc⟩
  · omega
  rcases h3 with ⟨-, h0⟩ | ⟨-, m, D, rfl, hown, hD⟩
  · rw [h0] at hn; simp at hn; omega
  rw [hn] at hown
  have HM := Lib.hid hown
  have HD := Lib.hid hD
  have hnum : D.atKey (kl s) (.lit (.int .i64 0)) = .lit (.int .i64 0) := by rw [(hD.2 s).2, numB_zero.2 hnot]; rfl
  have HC := Lib.hid hc
  have CLN := Lib.hid (fun (w : World) hc => Tryz.slices_Clone_string b o n c ns w (by omega) (by omega) hc)
  rw [hn] at CLN
  have htk : ns.take n = ns := List.take_of_length_le (by omega)
  rw [htk] at CLN
  clear hown hD hc htk
  obtain ⟨ys, hys⟩ : ∃ ys, ns.map Value.string ++ [Value.string s] = ys := ⟨_, rfl⟩
  have HYS := Lib.hid hys
  have hn1000 : n ≤ 1000 := by omega
  have hnm : ¬ (most ≤ (n : Int)) := by omega
  have hn256 : ¬ (256 ≤ (n : Int)) := by omega
  clear hys
  go_enter Tryz.func128, Tryz.ntmps128
  go_upto_region 9 with (first | (go_at_call 207; refine (valid_any _ _).mono ?_; rintro en w5 ⟨rfl, hb5⟩; rw [HV.out]; have k0 := (hb5.cell (p := ⟨t, 0, none⟩) htl).trans q0; have k1 := (hb5.cell (p := ⟨t, 1, none⟩) htl).trans q1; have HM5 := Lib.hid (HM.out.kept ⟨hb5.os, hb5.tape, hb5.output, hb5.size, fun k hk _ => hb5.block k hk⟩ (row := none) (by simp))) | (at_lookup; refine wpList_lookup_own_int _ rfl _ _ 262 rfl 9 3 .i64 keyLaw Tryz.underlying262 Tryz.underlying3 (zeroInt _) m n D rfl HM5.out _ _ rfl (key_of s hs) ?_; intro cv hat hwc; rw [hnum] at hat; injection hat with hat; injection hat with _ hat; subst hat))
  clear k0 k1 HM5
  refine region_slots [41, 42, 43, 44, 45, 46, 47, 48, 49, 50, 51, 52, 53, 54, 55, 9]
    [fun v w => v = .pointer (some ⟨t, 0, none⟩),
     fun v w => v = .pointer (some ⟨t, 0, none⟩),
     fun v w => v = .pointer (some ⟨t, 0, none⟩),
     fun v w => v = .slice (some ⟨b, o, none⟩) n c,
     fun v w => w.ownsRow W.heap.size 9 1 v n (ns.map Value.string),
     fun v w => v = .string s,
     fun v w => N1 s v w,
     fun v w => Nr W.heap.size n ys v w,
     fun v w => v = .pointer (some ⟨t, 0, none⟩),
     fun v w => v = .pointer (some ⟨t, 0, none⟩),
     fun v w => v = .pointer (some ⟨t, 1, none⟩),
     fun v w => v = .map (some m),
     fun v w => Nm W.heap.size n D v w,
     fun v w => ∃ x y, v = .agg #[x, y] ∧ Nr W.heap.size n ys x w ∧ (Nm W.heap.size n D) y w,
     fun v w => Nb W.heap.size n ys (Nm W.heap.size n D) v w,
     fun v w => Nb W.heap.size n ys (Nm W.heap.size n D) v w]
    (fun w' => Below W.heap.size W w') (Tad W.heap.size n ys) (by kernel_rfl) (by kernel_rfl) rfl [undef, undef, undef, undef, undef, undef, undef, undef, undef, undef, undef, undef, undef, undef, undef, undef] (by simp only [puts, List.set_cons_zero, List.set_cons_succ, Act.put, List.setIfInBounds_toArray]) rfl (hb5.drew) ?_ ⟨?_, ?_, ?_, ?_, ?_, ?_, ?_, ?_, ?_, ?_, ?_, ?_, ?_, ?_, ?_, ?_, trivial⟩ ?_
  · intro j D hj v w w' hb hD
    match j, hj with
    | 0, hj => cases hj; exact hD
    | 1, hj => cases hj; exact hD
    | 2, hj => cases hj; exact hD
    | 3, hj => cases hj; exact hD
    | 4, hj => cases hj; exact hb.row hD
    | 5, hj => cases hj; exact hD
    | 6, hj => cases hj; exact N1.st hD hb
    | 7, hj => cases hj; exact Nr.st hD hb
    | 8, hj => cases hj; exact hD
    | 9, hj => cases hj; exact hD
    | 10, hj => cases hj; exact hD
    | 11, hj => cases hj; exact hD
    | 12, hj => cases hj; exact Nm.st hD hb
    | 13, hj => cases hj; obtain ⟨x, y, e, h1, h2⟩ := hD; exact ⟨x, y, e, h1.st hb, Nm.st h2 hb⟩
    | 14, hj => cases hj; exact Nb.st (M := Nm W.heap.size n D) (fun y w w' h hb => Nm.st h hb) hD hb
    | 15, hj => cases hj; exact Nb.st (M := Nm W.heap.size n D) (fun y w w' h hb => Nm.st h hb) hD hb
    | j + 16, hj => cases hj
  · refine ⟨[], by decide, fun vs w hl hR hd K hK => ?_⟩
    obtain ⟨v0, vs, rfl, hl1⟩ := len_succ hl
    obtain ⟨v1, vs, rfl, hl2⟩ := len_succ hl1
    obtain ⟨v2, vs, rfl, hl3⟩ := len_succ hl2
    obtain ⟨v3, vs, rfl, hl4⟩ := len_succ hl3
    obtain ⟨v4, vs, rfl, hl5⟩ := len_succ hl4
    obtain ⟨v5, vs, rfl, hl6⟩ := len_succ hl5
    obtain ⟨v6, vs, rfl, hl7⟩ := len_succ hl6
    obtain ⟨v7, vs, rfl, hl8⟩ := len_succ hl7
    obtain ⟨v8, vs, rfl, hl9⟩ := len_succ hl8
    obtain ⟨v9, vs, rfl, hl10⟩ := len_succ hl9
    obtain ⟨v10, vs, rfl, hl11⟩ := len_succ hl10
    obtain ⟨v11, vs, rfl, hl12⟩ := len_succ hl11
    obtain ⟨v12, vs, rfl, hl13⟩ := len_succ hl12
    obtain ⟨v13, vs, rfl, hl14⟩ := len_succ hl13
    obtain ⟨v14, vs, rfl, hl15⟩ := len_succ hl14
    obtain ⟨v15, vs, rfl, hl16⟩ := len_succ hl15
    obtain rfl := len_zero hl16
    clear hd hl hl1 hl2 hl3 hl4 hl5 hl6 hl7 hl8 hl9 hl10 hl11 hl12 hl13 hl14 hl15 hl16
    replace hK := hK.out
    simp only [puts, List.set_cons_zero, List.set_cons_succ, Act.put, List.setIfInBounds_toArray] at hK ⊢
    have hK' : Shut _ := hK
    clear hK
    go_simp
    (try go_wp2_with fail)
    exact hK'.out _ _ (Tad.of (Below.refl _ _) hR.size) (hR) (fun D hD => by cases hD; rfl)
  · refine ⟨[0], by decide, fun vs w hl hR hd K hK => ?_⟩
    obtain ⟨v0, vs, rfl, hl1⟩ := len_succ hl
    obtain ⟨v1, vs, rfl, hl2⟩ := len_succ hl1
    obtain ⟨v2, vs, rfl, hl3⟩ := len_succ hl2
    obtain ⟨v3, vs, rfl, hl4⟩ := len_succ hl3
    obtain ⟨v4, vs, rfl, hl5⟩ := len_succ hl4
    obtain ⟨v5, vs, rfl, hl6⟩ := len_succ hl5
    obtain ⟨v6, vs, rfl, hl7⟩ := len_succ hl6
    obtain ⟨v7, vs, rfl, hl8⟩ := len_succ hl7
    obtain ⟨v8, vs, rfl, hl9⟩ := len_succ hl8
    obtain ⟨v9, vs, rfl, hl10⟩ := len_succ hl9
    obtain ⟨v10, vs, rfl, hl11⟩ := len_succ hl10
    obtain ⟨v11, vs, rfl, hl12⟩ := len_succ hl11
    obtain ⟨v12, vs, rfl, hl13⟩ := len_succ hl12
    obtain ⟨v13, vs, rfl, hl14⟩ := len_succ hl13
    obtain ⟨v14, vs, rfl, hl15⟩ := len_succ hl14
    obtain ⟨v15, vs, rfl, hl16⟩ := len_succ hl15
    obtain rfl := len_zero hl16
    have dd := hd 0 (by simp) _ rfl; simp only [List.getD_cons_zero, List.getD_cons_succ] at dd; obtain rfl := dd
    clear hd hl hl1 hl2 hl3 hl4 hl5 hl6 hl7 hl8 hl9 hl10 hl11 hl12 hl13 hl14 hl15 hl16
    replace hK := hK.out
    simp only [puts, List.set_cons_zero, List.set_cons_succ, Act.put, List.setIfInBounds_toArray] at hK ⊢
    have hK' : Shut _ := hK
    clear hK
    go_simp
    (try go_wp2_with fail)
    exact hK'.out _ _ (Tad.of (Below.refl _ _) hR.size) (hR) (fun D hD => by cases hD; rfl)
  · refine ⟨[1], by decide, fun vs w hl hR hd K hK => ?_⟩
    obtain ⟨v0, vs, rfl, hl1⟩ := len_succ hl
    obtain ⟨v1, vs, rfl, hl2⟩ := len_succ hl1
    obtain ⟨v2, vs, rfl, hl3⟩ := len_succ hl2
    obtain ⟨v3, vs, rfl, hl4⟩ := len_succ hl3
    obtain ⟨v4, vs, rfl, hl5⟩ := len_succ hl4
    obtain ⟨v5, vs, rfl, hl6⟩ := len_succ hl5
    obtain ⟨v6, vs, rfl, hl7⟩ := len_succ hl6
    obtain ⟨v7, vs, rfl, hl8⟩ := len_succ hl7
    obtain ⟨v8, vs, rfl, hl9⟩ := len_succ hl8
    obtain ⟨v9, vs, rfl, hl10⟩ := len_succ hl9
    obtain ⟨v10, vs, rfl, hl11⟩ := len_succ hl10
    obtain ⟨v11, vs, rfl, hl12⟩ := len_succ hl11
    obtain ⟨v12, vs, rfl, hl13⟩ := len_succ hl12
    obtain ⟨v13, vs, rfl, hl14⟩ := len_succ hl13
    obtain ⟨v14, vs, rfl, hl15⟩ := len_succ hl14
    obtain ⟨v15, vs, rfl, hl16⟩ := len_succ hl15
    obtain rfl := len_zero hl16
    have dd := hd 1 (by simp) _ rfl; simp only [List.getD_cons_zero, List.getD_cons_succ] at dd; obtain rfl := dd
    clear hd hl hl1 hl2 hl3 hl4 hl5 hl6 hl7 hl8 hl9 hl10 hl11 hl12 hl13 hl14 hl15 hl16
    replace hK := hK.out
    simp only [puts, List.set_cons_zero, List.set_cons_succ, Act.put, List.setIfInBounds_toArray] at hK ⊢
    have hK' : Shut _ := hK
    clear hK
    go_simp
    (try go_wp2_with fail)
    exact hK'.out _ _ (Tad.of (Below.refl _ _) hR.size) (hR) (fun D hD => by cases hD; rfl)
  · refine ⟨[2], by decide, fun vs w hl hR hd K hK => ?_⟩
    obtain ⟨v0, vs, rfl, hl1⟩ := len_succ hl
    obtain ⟨v1, vs, rfl, hl2⟩ := len_succ hl1
    obtain ⟨v2, vs, rfl, hl3⟩ := len_succ hl2
    obtain ⟨v3, vs, rfl, hl4⟩ := len_succ hl3
    obtain ⟨v4, vs, rfl, hl5⟩ := len_succ hl4
    obtain ⟨v5, vs, rfl, hl6⟩ := len_succ hl5
    obtain ⟨v6, vs, rfl, hl7⟩ := len_succ hl6
    obtain ⟨v7, vs, rfl, hl8⟩ := len_succ hl7
    obtain ⟨v8, vs, rfl, hl9⟩ := len_succ hl8
    obtain ⟨v9, vs, rfl, hl10⟩ := len_succ hl9
    obtain ⟨v10, vs, rfl, hl11⟩ := len_succ hl10
    obtain ⟨v11, vs, rfl, hl12⟩ := len_succ hl11
    obtain ⟨v12, vs, rfl, hl13⟩ := len_succ hl12
    obtain ⟨v13, vs, rfl, hl14⟩ := len_succ hl13
    obtain ⟨v14, vs, rfl, hl15⟩ := len_succ hl14
    obtain ⟨v15, vs, rfl, hl16⟩ := len_succ hl15
    obtain rfl := len_zero hl16
    have dd := hd 2 (by simp) _ rfl; simp only [List.getD_cons_zero, List.getD_cons_succ] at dd; obtain rfl := dd
    clear hd hl hl1 hl2 hl3 hl4 hl5 hl6 hl7 hl8 hl9 hl10 hl11 hl12 hl13 hl14 hl15 hl16
    replace hK := hK.out
    simp only [puts, List.set_cons_zero, List.set_cons_succ, Act.put, List.setIfInBounds_toArray] at hK ⊢
    have hK' : Shut _ := hK
    clear hK
    have k0 := (hR.cell (p := ⟨t, 0, none⟩) htl).trans q0
    go_simp
    (try go_wp2_with fail)
    exact hK'.out _ _ (Tad.of (Below.refl _ _) hR.size) (hR) (fun D hD => by cases hD; rfl)
  · refine ⟨[3], by decide, fun vs w hl hR hd K hK => ?_⟩
    obtain ⟨v0, vs, rfl, hl1⟩ := len_succ hl
    obtain ⟨v1, vs, rfl, hl2⟩ := len_succ hl1
    obtain ⟨v2, vs, rfl, hl3⟩ := len_succ hl2
    obtain ⟨v3, vs, rfl, hl4⟩ := len_succ hl3
    obtain ⟨v4, vs, rfl, hl5⟩ := len_succ hl4
    obtain ⟨v5, vs, rfl, hl6⟩ := len_succ hl5
    obtain ⟨v6, vs, rfl, hl7⟩ := len_succ hl6
    obtain ⟨v7, vs, rfl, hl8⟩ := len_succ hl7
    obtain ⟨v8, vs, rfl, hl9⟩ := len_succ hl8
    obtain ⟨v9, vs, rfl, hl10⟩ := len_succ hl9
    obtain ⟨v10, vs, rfl, hl11⟩ := len_succ hl10
    obtain ⟨v11, vs, rfl, hl12⟩ := len_succ hl11
    obtain ⟨v12, vs, rfl, hl13⟩ := len_succ hl12
    obtain ⟨v13, vs, rfl, hl14⟩ := len_succ hl13
    obtain ⟨v14, vs, rfl, hl15⟩ := len_succ hl14
    obtain ⟨v15, vs, rfl, hl16⟩ := len_succ hl15
    obtain rfl := len_zero hl16
    have dd := hd 3 (by simp) _ rfl; simp only [List.getD_cons_zero, List.getD_cons_succ] at dd; obtain rfl := dd
    clear hd hl hl1 hl2 hl3 hl4 hl5 hl6 hl7 hl8 hl9 hl10 hl11 hl12 hl13 hl14 hl15 hl16
    replace hK := hK.out
    simp only [puts, List.set_cons_zero, List.set_cons_succ, Act.put, List.setIfInBounds_toArray] at hK ⊢
    have hK' : Shut _ := hK
    clear hK
    have kc := fun j hj => (hR.cell (p := ⟨b, o + j, none⟩) hbl).trans (HC.out j hj)
    go_simp
    go_at_call 208; refine (CLN.out _ kc).mono ?_; rintro e w2 ⟨v', rfl, hown, -, hb2⟩; replace hown := Lib.hid (ownsRow_base hown hR.size)
    (try go_wp2_with fail)
    exact hK'.out _ _ (Tad.of hb2 hR.size) ((hR.trans (hb2.mono hR.size))) (fun D hD => by cases hD; exact hown.out)
  · refine ⟨[], by decide, fun vs w hl hR hd K hK => ?_⟩
    obtain ⟨v0, vs, rfl, hl1⟩ := len_succ hl
    obtain ⟨v1, vs, rfl, hl2⟩ := len_succ hl1
    obtain ⟨v2, vs, rfl, hl3⟩ := len_succ hl2
    obtain ⟨v3, vs, rfl, hl4⟩ := len_succ hl3
    obtain ⟨v4, vs, rfl, hl5⟩ := len_succ hl4
    obtain ⟨v5, vs, rfl, hl6⟩ := len_succ hl5
    obtain ⟨v6, vs, rfl, hl7⟩ := len_succ hl6
    obtain ⟨v7, vs, rfl, hl8⟩ := len_succ hl7
    obtain ⟨v8, vs, rfl, hl9⟩ := len_succ hl8
    obtain ⟨v9, vs, rfl, hl10⟩ := len_succ hl9
    obtain ⟨v10, vs, rfl, hl11⟩ := len_succ hl10
    obtain ⟨v11, vs, rfl, hl12⟩ := len_succ hl11
    obtain ⟨v12, vs, rfl, hl13⟩ := len_succ hl12
    obtain ⟨v13, vs, rfl, hl14⟩ := len_succ hl13
    obtain ⟨v14, vs, rfl, hl15⟩ := len_succ hl14
    obtain ⟨v15, vs, rfl, hl16⟩ := len_succ hl15
    obtain rfl := len_zero hl16
    clear hd hl hl1 hl2 hl3 hl4 hl5 hl6 hl7 hl8 hl9 hl10 hl11 hl12 hl13 hl14 hl15 hl16
    replace hK := hK.out
    simp only [puts, List.set_cons_zero, List.set_cons_succ, Act.put, List.setIfInBounds_toArray] at hK ⊢
    have hK' : Shut _ := hK
    clear hK
    go_simp
    (try go_wp2_with fail)
    exact hK'.out _ _ (Tad.of (Below.refl _ _) hR.size) (hR) (fun D hD => by cases hD; rfl)
  · refine ⟨[5], by decide, fun vs w hl hR hd K hK => ?_⟩
    obtain ⟨v0, vs, rfl, hl1⟩ := len_succ hl
    obtain ⟨v1, vs, rfl, hl2⟩ := len_succ hl1
    obtain ⟨v2, vs, rfl, hl3⟩ := len_succ hl2
    obtain ⟨v3, vs, rfl, hl4⟩ := len_succ hl3
    obtain ⟨v4, vs, rfl, hl5⟩ := len_succ hl4
    obtain ⟨v5, vs, rfl, hl6⟩ := len_succ hl5
    obtain ⟨v6, vs, rfl, hl7⟩ := len_succ hl6
    obtain ⟨v7, vs, rfl, hl8⟩ := len_succ hl7
    obtain ⟨v8, vs, rfl, hl9⟩ := len_succ hl8
    obtain ⟨v9, vs, rfl, hl10⟩ := len_succ hl9
    obtain ⟨v10, vs, rfl, hl11⟩ := len_succ hl10
    obtain ⟨v11, vs, rfl, hl12⟩ := len_succ hl11
    obtain ⟨v12, vs, rfl, hl13⟩ := len_succ hl12
    obtain ⟨v13, vs, rfl, hl14⟩ := len_succ hl13
    obtain ⟨v14, vs, rfl, hl15⟩ := len_succ hl14
    obtain ⟨v15, vs, rfl, hl16⟩ := len_succ hl15
    obtain rfl := len_zero hl16
    have dd := hd 5 (by simp) _ rfl; simp only [List.getD_cons_zero, List.getD_cons_succ] at dd; obtain rfl := dd
    clear hd hl hl1 hl2 hl3 hl4 hl5 hl6 hl7 hl8 hl9 hl10 hl11 hl12 hl13 hl14 hl15 hl16
    replace hK := hK.out
    simp only [puts, List.set_cons_zero, List.set_cons_succ, Act.put, List.setIfInBounds_toArray] at hK ⊢
    have hK' : Shut _ := hK
    clear hK
    go_simp
    (try go_wp2_with fail)
    exact hK'.out _ _ (Tad.of ((Below.refl _ _).alloc (Nat.le_refl _) _) hR.size) ((hR.alloc hR.size _)) (fun D hD => by cases hD; exact ⟨_, rfl, heap_alloc_new _ _⟩)
  · refine ⟨[4, 6], by decide, fun vs w hl hR hd K hK => ?_⟩
    obtain ⟨v0, vs, rfl, hl1⟩ := len_succ hl
    obtain ⟨v1, vs, rfl, hl2⟩ := len_succ hl1
    obtain ⟨v2, vs, rfl, hl3⟩ := len_succ hl2
    obtain ⟨v3, vs, rfl, hl4⟩ := len_succ hl3
    obtain ⟨v4, vs, rfl, hl5⟩ := len_succ hl4
    obtain ⟨v5, vs, rfl, hl6⟩ := len_succ hl5
    obtain ⟨v6, vs, rfl, hl7⟩ := len_succ hl6
    obtain ⟨v7, vs, rfl, hl8⟩ := len_succ hl7
    obtain ⟨v8, vs, rfl, hl9⟩ := len_succ hl8
    obtain ⟨v9, vs, rfl, hl10⟩ := len_succ hl9
    obtain ⟨v10, vs, rfl, hl11⟩ := len_succ hl10
    obtain ⟨v11, vs, rfl, hl12⟩ := len_succ hl11
    obtain ⟨v12, vs, rfl, hl13⟩ := len_succ hl12
    obtain ⟨v13, vs, rfl, hl14⟩ := len_succ hl13
    obtain ⟨v14, vs, rfl, hl15⟩ := len_succ hl14
    obtain ⟨v15, vs, rfl, hl16⟩ := len_succ hl15
    obtain rfl := len_zero hl16
    have dd := hd 4 (by simp) _ rfl; simp only [List.getD_cons_zero, List.getD_cons_succ] at dd; have hown := dd; clear dd
    have dd := hd 6 (by simp) _ rfl; simp only [List.getD_cons_zero, List.getD_cons_succ] at dd; refine Exists.elim dd ?_; clear dd; intro g6 dd; have e := dd.1; have hg6 := dd.2; clear dd; subst e
    clear hd hl hl1 hl2 hl3 hl4 hl5 hl6 hl7 hl8 hl9 hl10 hl11 hl12 hl13 hl14 hl15 hl16
    replace hK := hK.out
    simp only [puts, List.set_cons_zero, List.set_cons_succ, Act.put, List.setIfInBounds_toArray] at hK ⊢
    have hK' : Shut _ := hK
    clear hK
    rw [if_pos (by rfl)]; refine wp_append_tad (v := v4) (xs := ns.map Value.string) (y := .string s) (g := g6) (Operand.tmp 45) (Operand.tmp 47) (by rfl) (by rfl) (by rfl) (by rfl) (by rfl) hown (.inr hn0) hg6 hn1000 hR.size ?_; intro v' w2 hown2 htad; rw [HYS.out] at hown2 htad; obtain ⟨g', cap', rfl⟩ := ownsRow_succ hown2
    (try go_wp2_with fail)
    exact hK'.out _ _ (htad) ((hR.trans htad.1)) (fun D hD => by cases hD; exact ⟨_, _, rfl, hown2⟩)
  · refine ⟨[], by decide, fun vs w hl hR hd K hK => ?_⟩
    obtain ⟨v0, vs, rfl, hl1⟩ := len_succ hl
    obtain ⟨v1, vs, rfl, hl2⟩ := len_succ hl1
    obtain ⟨v2, vs, rfl, hl3⟩ := len_succ hl2
    obtain ⟨v3, vs, rfl, hl4⟩ := len_succ hl3
    obtain ⟨v4, vs, rfl, hl5⟩ := len_succ hl4
    obtain ⟨v5, vs, rfl, hl6⟩ := len_succ hl5
    obtain ⟨v6, vs, rfl, hl7⟩ := len_succ hl6
    obtain ⟨v7, vs, rfl, hl8⟩ := len_succ hl7
    obtain ⟨v8, vs, rfl, hl9⟩ := len_succ hl8
    obtain ⟨v9, vs, rfl, hl10⟩ := len_succ hl9
    obtain ⟨v10, vs, rfl, hl11⟩ := len_succ hl10
    obtain ⟨v11, vs, rfl, hl12⟩ := len_succ hl11
    obtain ⟨v12, vs, rfl, hl13⟩ := len_succ hl12
    obtain ⟨v13, vs, rfl, hl14⟩ := len_succ hl13
    obtain ⟨v14, vs, rfl, hl15⟩ := len_succ hl14
    obtain ⟨v15, vs, rfl, hl16⟩ := len_succ hl15
    obtain rfl := len_zero hl16
    clear hd hl hl1 hl2 hl3 hl4 hl5 hl6 hl7 hl8 hl9 hl10 hl11 hl12 hl13 hl14 hl15 hl16
    replace hK := hK.out
    simp only [puts, List.set_cons_zero, List.set_cons_succ, Act.put, List.setIfInBounds_toArray] at hK ⊢
    have hK' : Shut _ := hK
    clear hK
    go_simp
    (try go_wp2_with fail)
    exact hK'.out _ _ (Tad.of (Below.refl _ _) hR.size) (hR) (fun D hD => by cases hD; rfl)
  · refine ⟨[8], by decide, fun vs w hl hR hd K hK => ?_⟩
    obtain ⟨v0, vs, rfl, hl1⟩ := len_succ hl
    obtain ⟨v1, vs, rfl, hl2⟩ := len_succ hl1
    obtain ⟨v2, vs, rfl, hl3⟩ := len_succ hl2
    obtain ⟨v3, vs, rfl, hl4⟩ := len_succ hl3
    obtain ⟨v4, vs, rfl, hl5⟩ := len_succ hl4
    obtain ⟨v5, vs, rfl, hl6⟩ := len_succ hl5
    obtain ⟨v6, vs, rfl, hl7⟩ := len_succ hl6
    obtain ⟨v7, vs, rfl, hl8⟩ := len_succ hl7
    obtain ⟨v8, vs, rfl, hl9⟩ := len_succ hl8
    obtain ⟨v9, vs, rfl, hl10⟩ := len_succ hl9
    obtain ⟨v10, vs, rfl, hl11⟩ := len_succ hl10
    obtain ⟨v11, vs, rfl, hl12⟩ := len_succ hl11
    obtain ⟨v12, vs, rfl, hl13⟩ := len_succ hl12
    obtain ⟨v13, vs, rfl, hl14⟩ := len_succ hl13
    obtain ⟨v14, vs, rfl, hl15⟩ := len_succ hl14
    obtain ⟨v15, vs, rfl, hl16⟩ := len_succ hl15
    obtain rfl := len_zero hl16
    have dd := hd 8 (by simp) _ rfl; simp only [List.getD_cons_zero, List.getD_cons_succ] at dd; obtain rfl := dd
    clear hd hl hl1 hl2 hl3 hl4 hl5 hl6 hl7 hl8 hl9 hl10 hl11 hl12 hl13 hl14 hl15 hl16
    replace hK := hK.out
    simp only [puts, List.set_cons_zero, List.set_cons_succ, Act.put, List.setIfInBounds_toArray] at hK ⊢
    have hK' : Shut _ := hK
    clear hK
    go_simp
    (try go_wp2_with fail)
    exact hK'.out _ _ (Tad.of (Below.refl _ _) hR.size) (hR) (fun D hD => by cases hD; rfl)
  · refine ⟨[9], by decide, fun vs w hl hR hd K hK => ?_⟩
    obtain ⟨v0, vs, rfl, hl1⟩ := len_succ hl
    obtain ⟨v1, vs, rfl, hl2⟩ := len_succ hl1
    obtain ⟨v2, vs, rfl, hl3⟩ := len_succ hl2
    obtain ⟨v3, vs, rfl, hl4⟩ := len_succ hl3
    obtain ⟨v4, vs, rfl, hl5⟩ := len_succ hl4
    obtain ⟨v5, vs, rfl, hl6⟩ := len_succ hl5
    obtain ⟨v6, vs, rfl, hl7⟩ := len_succ hl6
    obtain ⟨v7, vs, rfl, hl8⟩ := len_succ hl7
    obtain ⟨v8, vs, rfl, hl9⟩ := len_succ hl8
    obtain ⟨v9, vs, rfl, hl10⟩ := len_succ hl9
    obtain ⟨v10, vs, rfl, hl11⟩ := len_succ hl10
    obtain ⟨v11, vs, rfl, hl12⟩ := len_succ hl11
    obtain ⟨v12, vs, rfl, hl13⟩ := len_succ hl12
    obtain ⟨v13, vs, rfl, hl14⟩ := len_succ hl13
    obtain ⟨v14, vs, rfl, hl15⟩ := len_succ hl14
    obtain ⟨v15, vs, rfl, hl16⟩ := len_succ hl15
    obtain rfl := len_zero hl16
    have dd := hd 9 (by simp) _ rfl; simp only [List.getD_cons_zero, List.getD_cons_succ] at dd; obtain rfl := dd
    clear hd hl hl1 hl2 hl3 hl4 hl5 hl6 hl7 hl8 hl9 hl10 hl11 hl12 hl13 hl14 hl15 hl16
    replace hK := hK.out
    simp only [puts, List.set_cons_zero, List.set_cons_succ, Act.put, List.setIfInBounds_toArray] at hK ⊢
    have hK' : Shut _ := hK
    clear hK
    go_simp
    (try go_wp2_with fail)
    exact hK'.out _ _ (Tad.of (Below.refl _ _) hR.size) (hR) (fun D hD => by cases hD; rfl)
  · refine ⟨[10], by decide, fun vs w hl hR hd K hK => ?_⟩
    obtain ⟨v0, vs, rfl, hl1⟩ := len_succ hl
    obtain ⟨v1, vs, rfl, hl2⟩ := len_succ hl1
    obtain ⟨v2, vs, rfl, hl3⟩ := len_succ hl2
    obtain ⟨v3, vs, rfl, hl4⟩ := len_succ hl3
    obtain ⟨v4, vs, rfl, hl5⟩ := len_succ hl4
    obtain ⟨v5, vs, rfl, hl6⟩ := len_succ hl5
    obtain ⟨v6, vs, rfl, hl7⟩ := len_succ hl6
    obtain ⟨v7, vs, rfl, hl8⟩ := len_succ hl7
    obtain ⟨v8, vs, rfl, hl9⟩ := len_succ hl8
    obtain ⟨v9, vs, rfl, hl10⟩ := len_succ hl9
    obtain ⟨v10, vs, rfl, hl11⟩ := len_succ hl10
    obtain ⟨v11, vs, rfl, hl12⟩ := len_succ hl11
    obtain ⟨v12, vs, rfl, hl13⟩ := len_succ hl12
    obtain ⟨v13, vs, rfl, hl14⟩ := len_succ hl13
    obtain ⟨v14, vs, rfl, hl15⟩ := len_succ hl14
    obtain ⟨v15, vs, rfl, hl16⟩ := len_succ hl15
    obtain rfl := len_zero hl16
    have dd := hd 10 (by simp) _ rfl; simp only [List.getD_cons_zero, List.getD_cons_succ] at dd; obtain rfl := dd
    clear hd hl hl1 hl2 hl3 hl4 hl5 hl6 hl7 hl8 hl9 hl10 hl11 hl12 hl13 hl14 hl15 hl16
    replace hK := hK.out
    simp only [puts, List.set_cons_zero, List.set_cons_succ, Act.put, List.setIfInBounds_toArray] at hK ⊢
    have hK' : Shut _ := hK
    clear hK
    have k1 := (hR.cell (p := ⟨t, 1, none⟩) htl).trans q1
    go_simp
    (try go_wp2_with fail)
    exact hK'.out _ _ (Tad.of (Below.refl _ _) hR.size) (hR) (fun D hD => by cases hD; rfl)
  · refine ⟨[11], by decide, fun vs w hl hR hd K hK => ?_⟩
    obtain ⟨v0, vs, rfl, hl1⟩ := len_succ hl
    obtain ⟨v1, vs, rfl, hl2⟩ := len_succ hl1
    obtain ⟨v2, vs, rfl, hl3⟩ := len_succ hl2
    obtain ⟨v3, vs, rfl, hl4⟩ := len_succ hl3
    obtain ⟨v4, vs, rfl, hl5⟩ := len_succ hl4
    obtain ⟨v5, vs, rfl, hl6⟩ := len_succ hl5
    obtain ⟨v6, vs, rfl, hl7⟩ := len_succ hl6
    obtain ⟨v7, vs, rfl, hl8⟩ := len_succ hl7
    obtain ⟨v8, vs, rfl, hl9⟩ := len_succ hl8
    obtain ⟨v9, vs, rfl, hl10⟩ := len_succ hl9
    obtain ⟨v10, vs, rfl, hl11⟩ := len_succ hl10
    obtain ⟨v11, vs, rfl, hl12⟩ := len_succ hl11
    obtain ⟨v12, vs, rfl, hl13⟩ := len_succ hl12
    obtain ⟨v13, vs, rfl, hl14⟩ := len_succ hl13
    obtain ⟨v14, vs, rfl, hl15⟩ := len_succ hl14
    obtain ⟨v15, vs, rfl, hl16⟩ := len_succ hl15
    obtain rfl := len_zero hl16
    have dd := hd 11 (by simp) _ rfl; simp only [List.getD_cons_zero, List.getD_cons_succ] at dd; obtain rfl := dd
    clear hd hl hl1 hl2 hl3 hl4 hl5 hl6 hl7 hl8 hl9 hl10 hl11 hl12 hl13 hl14 hl15 hl16
    replace hK := hK.out
    simp only [puts, List.set_cons_zero, List.set_cons_succ, Act.put, List.setIfInBounds_toArray] at hK ⊢
    have hK' : Shut _ := hK
    clear hK
    obtain ⟨es, ck, hmb, hF, hes, hDe⟩ := HM.out.kept ⟨hR.os, hR.tape, hR.output, hR.size, fun k hk _ => hR.block k hk⟩ (row := none) (by simp); replace hDe := Lib.hid hDe; replace hF := Lib.hid hF; replace hes := Lib.hid hes
    go_simp
    go_at_call 209; refine (mclone_any m es ck _ hmb).mono ?_; rintro e w2 ⟨rfl, rfl⟩
    (try go_wp2_with fail)
    exact hK'.out _ _ (Tad.of ((Below.refl _ _).alloc (Nat.le_refl _) _) hR.size) ((hR.alloc hR.size _)) (fun D hD => by cases hD; exact ⟨_, rfl, hR.size, ⟨es, ck, heap_alloc_new _ _, hF.out, hes.out, hDe.out⟩⟩)
  · refine ⟨[7, 12], by decide, fun vs w hl hR hd K hK => ?_⟩
    obtain ⟨v0, vs, rfl, hl1⟩ := len_succ hl
    obtain ⟨v1, vs, rfl, hl2⟩ := len_succ hl1
    obtain ⟨v2, vs, rfl, hl3⟩ := len_succ hl2
    obtain ⟨v3, vs, rfl, hl4⟩ := len_succ hl3
    obtain ⟨v4, vs, rfl, hl5⟩ := len_succ hl4
    obtain ⟨v5, vs, rfl, hl6⟩ := len_succ hl5
    obtain ⟨v6, vs, rfl, hl7⟩ := len_succ hl6
    obtain ⟨v7, vs, rfl, hl8⟩ := len_succ hl7
    obtain ⟨v8, vs, rfl, hl9⟩ := len_succ hl8
    obtain ⟨v9, vs, rfl, hl10⟩ := len_succ hl9
    obtain ⟨v10, vs, rfl, hl11⟩ := len_succ hl10
    obtain ⟨v11, vs, rfl, hl12⟩ := len_succ hl11
    obtain ⟨v12, vs, rfl, hl13⟩ := len_succ hl12
    obtain ⟨v13, vs, rfl, hl14⟩ := len_succ hl13
    obtain ⟨v14, vs, rfl, hl15⟩ := len_succ hl14
    obtain ⟨v15, vs, rfl, hl16⟩ := len_succ hl15
    obtain rfl := len_zero hl16
    have dd := hd 7 (by simp) _ rfl; simp only [List.getD_cons_zero, List.getD_cons_succ] at dd; refine Exists.elim dd ?_; clear dd; intro g7 dd; refine Exists.elim dd ?_; clear dd; intro c7 dd; have e := dd.1; have h7 := dd.2; clear dd; subst e
    have dd := hd 12 (by simp) _ rfl; simp only [List.getD_cons_zero, List.getD_cons_succ] at dd; refine Exists.elim dd ?_; clear dd; intro b12 dd; have e := dd.1; have h12 := dd.2; clear dd; subst e
    clear hd hl hl1 hl2 hl3 hl4 hl5 hl6 hl7 hl8 hl9 hl10 hl11 hl12 hl13 hl14 hl15 hl16
    replace hK := hK.out
    simp only [puts, List.set_cons_zero, List.set_cons_succ, Act.put, List.setIfInBounds_toArray] at hK ⊢
    have hK' : Shut _ := hK
    clear hK
    go_simp
    (try go_wp2_with fail)
    exact hK'.out _ _ (Tad.of (Below.refl _ _) hR.size) (hR) (fun D hD => by cases hD; exact ⟨_, _, rfl, ⟨_, _, rfl, h7⟩, ⟨_, rfl, h12⟩⟩)
  · refine ⟨[13], by decide, fun vs w hl hR hd K hK => ?_⟩
    obtain ⟨v0, vs, rfl, hl1⟩ := len_succ hl
    obtain ⟨v1, vs, rfl, hl2⟩ := len_succ hl1
    obtain ⟨v2, vs, rfl, hl3⟩ := len_succ hl2
    obtain ⟨v3, vs, rfl, hl4⟩ := len_succ hl3
    obtain ⟨v4, vs, rfl, hl5⟩ := len_succ hl4
    obtain ⟨v5, vs, rfl, hl6⟩ := len_succ hl5
    obtain ⟨v6, vs, rfl, hl7⟩ := len_succ hl6
    obtain ⟨v7, vs, rfl, hl8⟩ := len_succ hl7
    obtain ⟨v8, vs, rfl, hl9⟩ := len_succ hl8
    obtain ⟨v9, vs, rfl, hl10⟩ := len_succ hl9
    obtain ⟨v10, vs, rfl, hl11⟩ := len_succ hl10
    obtain ⟨v11, vs, rfl, hl12⟩ := len_succ hl11
    obtain ⟨v12, vs, rfl, hl13⟩ := len_succ hl12
    obtain ⟨v13, vs, rfl, hl14⟩ := len_succ hl13
    obtain ⟨v14, vs, rfl, hl15⟩ := len_succ hl14
    obtain ⟨v15, vs, rfl, hl16⟩ := len_succ hl15
    obtain rfl := len_zero hl16
    have dd := hd 13 (by simp) _ rfl; simp only [List.getD_cons_zero, List.getD_cons_succ] at dd; refine Exists.elim dd ?_; clear dd; intro x dd; refine Exists.elim dd ?_; clear dd; intro y dd; have e := dd.1; have hx := dd.2.1; have hy := dd.2.2; clear dd; subst e; refine Exists.elim hx ?_; clear hx; intro g7 hx; refine Exists.elim hx ?_; clear hx; intro c7 hx; have e := hx.1; have h7 := hx.2; clear hx; subst e; refine Exists.elim hy ?_; clear hy; intro b12 hy; have e := hy.1; have h12 := hy.2; clear hy; subst e
    clear hd hl hl1 hl2 hl3 hl4 hl5 hl6 hl7 hl8 hl9 hl10 hl11 hl12 hl13 hl14 hl15 hl16
    replace hK := hK.out
    simp only [puts, List.set_cons_zero, List.set_cons_succ, Act.put, List.setIfInBounds_toArray] at hK ⊢
    have hK' : Shut _ := hK
    clear hK
    go_simp
    (try go_wp2_with fail)
    exact hK'.out _ _ (Tad.of ((Below.refl _ _).alloc (Nat.le_refl _) _) hR.size) ((hR.alloc hR.size _)) (fun D hD => by cases hD; exact ⟨_, _, _, rfl, hR.size, heap_alloc_new _ _, ⟨_, _, rfl, h7.alloc _⟩, ⟨_, rfl, h12.1, h12.2.alloc _⟩⟩)
  · refine ⟨[14], by decide, fun vs w hl hR hd K hK => ?_⟩
    obtain ⟨v0, vs, rfl, hl1⟩ := len_succ hl
    obtain ⟨v1, vs, rfl, hl2⟩ := len_succ hl1
    obtain ⟨v2, vs, rfl, hl3⟩ := len_succ hl2
    obtain ⟨v3, vs, rfl, hl4⟩ := len_succ hl3
    obtain ⟨v4, vs, rfl, hl5⟩ := len_succ hl4
    obtain ⟨v5, vs, rfl, hl6⟩ := len_succ hl5
    obtain ⟨v6, vs, rfl, hl7⟩ := len_succ hl6
    obtain ⟨v7, vs, rfl, hl8⟩ := len_succ hl7
    obtain ⟨v8, vs, rfl, hl9⟩ := len_succ hl8
    obtain ⟨v9, vs, rfl, hl10⟩ := len_succ hl9
    obtain ⟨v10, vs, rfl, hl11⟩ := len_succ hl10
    obtain ⟨v11, vs, rfl, hl12⟩ := len_succ hl11
    obtain ⟨v12, vs, rfl, hl13⟩ := len_succ hl12
    obtain ⟨v13, vs, rfl, hl14⟩ := len_succ hl13
    obtain ⟨v14, vs, rfl, hl15⟩ := len_succ hl14
    obtain ⟨v15, vs, rfl, hl16⟩ := len_succ hl15
    obtain rfl := len_zero hl16
    have dd := hd 14 (by simp) _ rfl; simp only [List.getD_cons_zero, List.getD_cons_succ] at dd; refine Exists.elim dd ?_; clear dd; intro p14 dd; refine Exists.elim dd ?_; clear dd; intro x dd; refine Exists.elim dd ?_; clear dd; intro y dd; have e := dd.1; have h14 := dd.2; clear dd; subst e
    clear hd hl hl1 hl2 hl3 hl4 hl5 hl6 hl7 hl8 hl9 hl10 hl11 hl12 hl13 hl14 hl15 hl16
    replace hK := hK.out
    simp only [puts, List.set_cons_zero, List.set_cons_succ, Act.put, List.setIfInBounds_toArray] at hK ⊢
    have hK' : Shut _ := hK
    clear hK
    go_simp
    (try go_wp2_with fail)
    exact hK'.out _ _ (Tad.of (Below.refl _ _) hR.size) (hR) (fun D hD => by cases hD; exact ⟨p14, x, y, rfl, h14⟩)
  · intro vs w9 hl hR hd
    obtain ⟨v0, vs, rfl, hl1⟩ := len_succ hl
    obtain ⟨v1, vs, rfl, hl2⟩ := len_succ hl1
    obtain ⟨v2, vs, rfl, hl3⟩ := len_succ hl2
    obtain ⟨v3, vs, rfl, hl4⟩ := len_succ hl3
    obtain ⟨v4, vs, rfl, hl5⟩ := len_succ hl4
    obtain ⟨v5, vs, rfl, hl6⟩ := len_succ hl5
    obtain ⟨v6, vs, rfl, hl7⟩ := len_succ hl6
    obtain ⟨v7, vs, rfl, hl8⟩ := len_succ hl7
    obtain ⟨v8, vs, rfl, hl9⟩ := len_succ hl8
    obtain ⟨v9, vs, rfl, hl10⟩ := len_succ hl9
    obtain ⟨v10, vs, rfl, hl11⟩ := len_succ hl10
    obtain ⟨v11, vs, rfl, hl12⟩ := len_succ hl11
    obtain ⟨v12, vs, rfl, hl13⟩ := len_succ hl12
    obtain ⟨v13, vs, rfl, hl14⟩ := len_succ hl13
    obtain ⟨v14, vs, rfl, hl15⟩ := len_succ hl14
    obtain ⟨v15, vs, rfl, hl16⟩ := len_succ hl15
    obtain rfl := len_zero hl16
    have dd := hd 15 _ rfl; simp only [List.getD_cons_zero, List.getD_cons_succ] at dd; obtain ⟨p, x, y, rfl, hbp, hp9, ⟨g9, c9, rfl, hr9⟩, b9, rfl, hbb9, hm9⟩ := dd
    clear hd hl hl1 hl2 hl3 hl4 hl5 hl6 hl7 hl8 hl9 hl10 hl11 hl12 hl13 hl14 hl15 hl16
    simp only [puts, List.set_cons_zero, List.set_cons_succ, Act.put, List.setIfInBounds_toArray]
    have HM9 := Lib.hid hm9
    have hp0 := (cell2 hp9).1
    have hp1 := (cell2 hp9).2.1
    have HP9 := Lib.hid hp9
    have HR9 := Lib.hid hr9
    clear hm9 hp9 hr9
    have hq := fun w => run_eql_map_nil_sl (P := Tryz.prog) w 262 _ _ (some b9) Tryz.underlying262
    have hval : plainElem (H := Unit) Tryz.prog 3 (.int .i64 ((n : Int) + 1)) = some (.lit (.int .i64 ((n : Int) + 1)), []) := plainElem_int Tryz.underlying3 (wf_int _ (by omega) (by omega))
    go_upto_region 12 with fail
    obtain ⟨w11, hrun, hown11, hgrow11⟩ := (World.ownsMap.drew HM9.out).update keyLaw Tryz.underlying262 (by unfold maxLen; omega) (key_of s hs) hval
    have HM11 := Lib.hid hown11
    have HG11 := Lib.hid hgrow11
    clear hown11 hgrow11
    have hmb9 : ∃ es k, w9.heap[b9]? = some (.map es k) := by obtain ⟨es, k, h, _⟩ := HM9.out; exact ⟨es, k, h⟩
    have hpb : p ≠ b9 := by
      obtain ⟨es, k, h⟩ := hmb9
      intro e; have hp := HP9.out; rw [e, h] at hp; cases hp
    have hp2 : w11.cell? ⟨p, 0, none⟩ = some (.slice (some ⟨g9, 0, none⟩) (n + 1) c9) := HG11.out.cell hp0 (fun e => hpb (Option.some.inj e))
    have hp3 : w11.cell? ⟨p, 1, none⟩ = some (.map (some b9)) := HG11.out.cell hp1 (fun e => hpb (Option.some.inj e))
    have HPB := Lib.hid hpb
    have HMB := Lib.hid hmb9
    clear hpb hmb9
    have hfin : Tb w11 p (ns ++ [s]) ∧ Below W.heap.size W w11 := by
      refine ⟨tb_done (base := W.heap.size) (w := w9) (b := b9) (a := some ⟨g9, 0, none⟩) (c := c9) (D := D) (by rw [hn]; exact HP9.out) HMB.out (by rw [hn, List.map_append, List.map_singleton, HYS.out]; exact HR9.out) ⟨HG11.out.os, HG11.out.tape, HG11.out.output, HG11.out.size, HG11.out.block⟩ (by rw [hn]; exact HM11.out) HD.out hnot, (hR.drew).grown HG11.out hR.size (fun k e => by injection e with e; omega)⟩
    have HFIN := Lib.hid hfin
    clear hfin
    go_region_held3 (fun w' => w'.cell? ⟨p, 0, none⟩ = some (.slice (some ⟨g9, 0, none⟩) (n + 1) c9) ∧ w'.cell? ⟨p, 1, none⟩ = some (.map (some b9))) (first | exact ⟨hp0, hp1⟩ | exact ⟨hp2, hp3⟩) (fail)
    all_goals (go_upto_region 13 with fail)
    all_goals (go_region_held3 (fun w' => w'.cell? ⟨p, 0, none⟩ = some (.slice (some ⟨g9, 0, none⟩) (n + 1) c9)) (exact hp2) (fail))
    all_goals go_wp2_with fail
    all_goals go_ret3
    all_goals exact ⟨p, rfl, HFIN.out.1.below ((Below.refl _ _).drew), HFIN.out.2.drew⟩
end Go.Proofs.YtfjpbkmnlmecgaaGreatDoor.Ru
end

section
/- Package names: Add to a table without names. -/
namespace Go.Proofs.YtfjpbkmnlmecgaaGreatDoor.Ru
open Go.RowKit Go.PlainAid Go.Maps Go.Proofs.YtfjpbkmnlmecgaaGreatDoor
set_option linter.unusedVariables false
set_option linter.unusedSimpArgs false
set_option maxHeartbeats 4000000
set_option maxRecDepth 20000
theorem add_first (t : Nat) (s : ByteArray) (most : Int) (W : World) (h : Tb W t []) (hv : validB s = true) (hmost : 0 < most) (hs : s.size ≤ 1000000) :
    Calls Tryz.prog 128 #[.pointer (some ⟨t, 0, none⟩), .string s, .int .i64 most] W fun e w' => ∃ p, e = .returned (.tuple #[.pointer (some ⟨p, 0, none⟩), .int .i64 1, .int .i64 0]) ∧ Tb w' p [s] ∧ Below W.heap.size W w' := by
  have HV := Lib.hid hv
  have htl := h.lt
  obtain ⟨a, c, m, h1, h2, h3⟩ := h
  rcases h3 with ⟨rfl, -⟩ | ⟨h0, -⟩
  rotate_left
  · exact absurd rfl h0
  obtain ⟨-, hac, hcm, h4⟩ := h2
  rcases h4 with ⟨rfl, -, rfl⟩ | ⟨h0, -⟩
  rotate_left
  · exact absurd h0 (by decide)
  have q0 := (cell2 h1).1
  have q1 := (cell2 h1).2.1
  rw [show ([] : List ByteArray).length = 0 from rfl] at q0
  clear h1 hv hac hcm
  obtain ⟨ys, hys⟩ : ∃ ys, [] ++ [Value.string s] = ys := ⟨_, rfl⟩
  have HYS := Lib.hid hys
  have hn1000 : 0 ≤ 1000 := by omega
  have hnm : ¬ (most ≤ 0) := by omega
  have hlk := fun w => Maps.look_nil (P := Tryz.prog) (w := w) false keyLaw Tryz.underlying262 (zeroInt w) (key_of s hs)
  have hq := fun w => run_eql_map_nil_sl (P := Tryz.prog) w 262 _ _ none Tryz.underlying262
  have hmm := @run_makeMap Tryz.prog
  clear hys
  go_enter Tryz.func128, Tryz.ntmps128
  go_upto_region 9 with (first | (go_at_call 207; refine (valid_any _ _).mono ?_; rintro en w5 ⟨rfl, hb5⟩; rw [HV.out]; have k0 := (hb5.cell (p := ⟨t, 0, none⟩) htl).trans q0; have k1 := (hb5.cell (p := ⟨t, 1, none⟩) htl).trans q1))
  clear k0 k1
  refine region_slots [41, 42, 43, 44, 45, 46, 47, 48, 49, 50, 51, 52, 53, 54, 55, 9]
    [fun v w => v = .pointer (some ⟨t, 0, none⟩),
     fun v w => v = .pointer (some ⟨t, 0, none⟩),
     fun v w => v = .pointer (some ⟨t, 0, none⟩),
     fun v w => v = .slice none 0 0,
     fun v w => v = .slice none 0 0,
     fun v w => v = .string s,
     fun v w => N1 s v w,
     fun v w => Nr W.heap.size 0 ys v w,
     fun v w => v = .pointer (some ⟨t, 0, none⟩),
     fun v w => v = .pointer (some ⟨t, 0, none⟩),
     fun v w => v = .pointer (some ⟨t, 1, none⟩),
     fun v w => v = .map none,
     fun v w => v = .map none,
     fun v w => ∃ x y, v = .agg #[x, y] ∧ Nr W.heap.size 0 ys x w ∧ (fun y _ => y = .map none) y w,
     fun v w => Nb W.heap.size 0 ys (fun y _ => y = .map none) v w,
     fun v w => Nb W.heap.size 0 ys (fun y _ => y = .map none) v w]
    (fun w' => Below W.heap.size W w') (Tad W.heap.size 0 ys) (by kernel_rfl) (by kernel_rfl) rfl [undef, undef, undef, undef, undef, undef, undef, undef, undef, undef, undef, undef, undef, undef, undef, undef] (by simp only [puts, List.set_cons_zero, List.set_cons_succ, Act.put, List.setIfInBounds_toArray]) rfl (hb5.drew) ?_ ⟨?_, ?_, ?_, ?_, ?_, ?_, ?_, ?_, ?_, ?_, ?_, ?_, ?_, ?_, ?_, ?_, trivial⟩ ?_
  · intro j D hj v w w' hb hD
    match j, hj with
    | 0, hj => cases hj; exact hD
    | 1, hj => cases hj; exact hD
    | 2, hj => cases hj; exact hD
    | 3, hj => cases hj; exact hD
    | 4, hj => cases hj; exact hD
    | 5, hj => cases hj; exact hD
    | 6, hj => cases hj; exact N1.st hD hb
    | 7, hj => cases hj; exact Nr.st hD hb
    | 8, hj => cases hj; exact hD
    | 9, hj => cases hj; exact hD
    | 10, hj => cases hj; exact hD
    | 11, hj => cases hj; exact hD
    | 12, hj => cases hj; exact hD
    | 13, hj => cases hj; obtain ⟨x, y, e, h1, h2⟩ := hD; exact ⟨x, y, e, h1.st hb, h2⟩
    | 14, hj => cases hj; exact Nb.st (M := fun y _ => y = .map none) (fun y w w' h hb => h) hD hb
    | 15, hj => cases hj; exact Nb.st (M := fun y _ => y = .map none) (fun y w w' h hb => h) hD hb
    | j + 16, hj => cases hj
  · refine ⟨[], by decide, fun vs w hl hR hd K hK => ?_⟩
    obtain ⟨v0, vs, rfl, hl1⟩ := len_succ hl
    obtain ⟨v1, vs, rfl, hl2⟩ := len_succ hl1
    obtain ⟨v2, vs, rfl, hl3⟩ := len_succ hl2
    obtain ⟨v3, vs, rfl, hl4⟩ := len_succ hl3
    obtain ⟨v4, vs, rfl, hl5⟩ := len_succ hl4
    obtain ⟨v5, vs, rfl, hl6⟩ := len_succ hl5
    obtain ⟨v6, vs, rfl, hl7⟩ := len_succ hl6
    obtain ⟨v7, vs, rfl, hl8⟩ := len_succ hl7
    obtain ⟨v8, vs, rfl, hl9⟩ := len_succ hl8
    obtain ⟨v9, vs, rfl, hl10⟩ := len_succ hl9
    obtain ⟨v10, vs, rfl, hl11⟩ := len_succ hl10
    obtain ⟨v11, vs, rfl, hl12⟩ := len_succ hl11
    obtain ⟨v12, vs, rfl, hl13⟩ := len_succ hl12
    obtain ⟨v13, vs, rfl, hl14⟩ := len_succ hl13
    obtain ⟨v14, vs, rfl, hl15⟩ := len_succ hl14
    obtain ⟨v15, vs, rfl, hl16⟩ := len_succ hl15
    obtain rfl := len_zero hl16
    clear hd hl hl1 hl2 hl3 hl4 hl5 hl6 hl7 hl8 hl9 hl10 hl11 hl12 hl13 hl14 hl15 hl16
    replace hK := hK.out
    simp only [puts, List.set_cons_zero, List.set_cons_succ, Act.put, List.setIfInBounds_toArray] at hK ⊢
    have hK' : Shut _ := hK
    clear hK
    go_simp
    (try go_wp2_with fail)
    exact hK'.out _ _ (Tad.of (Below.refl _ _) hR.size) (hR) (fun D hD => by cases hD; rfl)
  · refine ⟨[0], by decide, fun vs w hl hR hd K hK => ?_⟩
    obtain ⟨v0, vs, rfl, hl1⟩ := len_succ hl
    obtain ⟨v1, vs, rfl, hl2⟩ := len_succ hl1
    obtain ⟨v2, vs, rfl, hl3⟩ := len_succ hl2
    obtain ⟨v3, vs, rfl, hl4⟩ := len_succ hl3
    obtain ⟨v4, vs, rfl, hl5⟩ := len_succ hl4
    obtain ⟨v5, vs, rfl, hl6⟩ := len_succ hl5
    obtain ⟨v6, vs, rfl, hl7⟩ := len_succ hl6
    obtain ⟨v7, vs, rfl, hl8⟩ := len_succ hl7
    obtain ⟨v8, vs, rfl, hl9⟩ := len_succ hl8
    obtain ⟨v9, vs, rfl, hl10⟩ := len_succ hl9
    obtain ⟨v10, vs, rfl, hl11⟩ := len_succ hl10
    obtain ⟨v11, vs, rfl, hl12⟩ := len_succ hl11
    obtain ⟨v12, vs, rfl, hl13⟩ := len_succ hl12
    obtain ⟨v13, vs, rfl, hl14⟩ := len_succ hl13
    obtain ⟨v14, vs, rfl, hl15⟩ := len_succ hl14
    obtain ⟨v15, vs, rfl, hl16⟩ := len_succ hl15
    obtain rfl := len_zero hl16
    have dd := hd 0 (by simp) _ rfl; simp only [List.getD_cons_zero, List.getD_cons_succ] at dd; obtain rfl := dd
    clear hd hl hl1 hl2 hl3 hl4 hl5 hl6 hl7 hl8 hl9 hl10 hl11 hl12 hl13 hl14 hl15 hl16
    replace hK := hK.out
    simp only [puts, List.set_cons_zero, List.set_cons_succ, Act.put, List.setIfInBounds_toArray] at hK ⊢
    have hK' : Shut _ := hK
    clear hK
    go_simp
    (try go_wp2_with fail)
    exact hK'.out _ _ (Tad.of (Below.refl _ _) hR.size) (hR) (fun D hD => by cases hD; rfl)
  · refine ⟨[1], by decide, fun vs w hl hR hd K hK => ?_⟩
    obtain ⟨v0, vs, rfl, hl1⟩ := len_succ hl
    obtain ⟨v1, vs, rfl, hl2⟩ := len_succ hl1
    obtain ⟨v2, vs, rfl, hl3⟩ := len_succ hl2
    obtain ⟨v3, vs, rfl, hl4⟩ := len_succ hl3
    obtain ⟨v4, vs, rfl, hl5⟩ := len_succ hl4
    obtain ⟨v5, vs, rfl, hl6⟩ := len_succ hl5
    obtain ⟨v6, vs, rfl, hl7⟩ := len_succ hl6
    obtain ⟨v7, vs, rfl, hl8⟩ := len_succ hl7
    obtain ⟨v8, vs, rfl, hl9⟩ := len_succ hl8
    obtain ⟨v9, vs, rfl, hl10⟩ := len_succ hl9
    obtain ⟨v10, vs, rfl, hl11⟩ := len_succ hl10
    obtain ⟨v11, vs, rfl, hl12⟩ := len_succ hl11
    obtain ⟨v12, vs, rfl, hl13⟩ := len_succ hl12
    obtain ⟨v13, vs, rfl, hl14⟩ := len_succ hl13
    obtain ⟨v14, vs, rfl, hl15⟩ := len_succ hl14
    obtain ⟨v15, vs, rfl, hl16⟩ := len_succ hl15
    obtain rfl := len_zero hl16
    have dd := hd 1 (by simp) _ rfl; simp only [List.getD_cons_zero, List.getD_cons_succ] at dd; obtain rfl := dd
    clear hd hl hl1 hl2 hl3 hl4 hl5 hl6 hl7 hl8 hl9 hl10 hl11 hl12 hl13 hl14 hl15 hl16
    replace hK := hK.out
    simp only [puts, List.set_cons_zero, List.set_cons_succ, Act.put, List.setIfInBounds_toArray] at hK ⊢
    have hK' : Shut _ := hK
    clear hK
    go_simp
    (try go_wp2_with fail)
    exact hK'.out _ _ (Tad.of (Below.refl _ _) hR.size) (hR) (fun D hD => by cases hD; rfl)
  · refine ⟨[2], by decide, fun vs w hl hR hd K hK => ?_⟩
    obtain ⟨v0, vs, rfl, hl1⟩ := len_succ hl
    obtain ⟨v1, vs, rfl, hl2⟩ := len_succ hl1
    obtain ⟨v2, vs, rfl, hl3⟩ := len_succ hl2
    obtain ⟨v3, vs, rfl, hl4⟩ := len_succ hl3
    obtain ⟨v4, vs, rfl, hl5⟩ := len_succ hl4
    obtain ⟨v5, vs, rfl, hl6⟩ := len_succ hl5
    obtain ⟨v6, vs, rfl, hl7⟩ := len_succ hl6
    obtain ⟨v7, vs, rfl, hl8⟩ := len_succ hl7
    obtain ⟨v8, vs, rfl, hl9⟩ := len_succ hl8
    obtain ⟨v9, vs, rfl, hl10⟩ := len_succ hl9
    obtain ⟨v10, vs, rfl, hl11⟩ := len_succ hl10
    obtain ⟨v11, vs, rfl, hl12⟩ := len_succ hl11
    obtain ⟨v12, vs, rfl, hl13⟩ := len_succ hl12
    obtain ⟨v13, vs, rfl, hl14⟩ := len_succ hl13
    obtain ⟨v14, vs, rfl, hl15⟩ := len_succ hl14
    obtain ⟨v15, vs, rfl, hl16⟩ := len_succ hl15
    obtain rfl := len_zero hl16
    have dd := hd 2 (by simp) _ rfl; simp only [List.getD_cons_zero, List.getD_cons_succ] at dd; obtain rfl := dd
    clear hd hl hl1 hl2 hl3 hl4 hl5 hl6 hl7 hl8 hl9 hl10 hl11 hl12 hl13 hl14 hl15 hl16
    replace hK := hK.out
    simp only [puts, List.set_cons_zero, List.set_cons_succ, Act.put, List.setIfInBounds_toArray] at hK ⊢
    have hK' : Shut _ := hK
    clear hK
    have k0 := (hR.cell (p := ⟨t, 0, none⟩) htl).trans q0
    go_simp
    (try go_wp2_with fail)
    exact hK'.out _ _ (Tad.of (Below.refl _ _) hR.size) (hR) (fun D hD => by cases hD; rfl)
  · refine ⟨[3], by decide, fun vs w hl hR hd K hK => ?_⟩
    obtain ⟨v0, vs, rfl, hl1⟩ := len_succ hl
    obtain ⟨v1, vs, rfl, hl2⟩ := len_succ hl1
    obtain ⟨v2, vs, rfl, hl3⟩ := len_succ hl2
    obtain ⟨v3, vs, rfl, hl4⟩ := len_succ hl3
    obtain ⟨v4, vs, rfl, hl5⟩ := len_succ hl4
    obtain ⟨v5, vs, rfl, hl6⟩ := len_succ hl5
    obtain ⟨v6, vs, rfl, hl7⟩ := len_succ hl6
    obtain ⟨v7, vs, rfl, hl8⟩ := len_succ hl7
    obtain ⟨v8, vs, rfl, hl9⟩ := len_succ hl8
    obtain ⟨v9, vs, rfl, hl10⟩ := len_succ hl9
    obtain ⟨v10, vs, rfl, hl11⟩ := len_succ hl10
    obtain ⟨v11, vs, rfl, hl12⟩ := len_succ hl11
    obtain ⟨v12, vs, rfl, hl13⟩ := len_succ hl12
    obtain ⟨v13, vs, rfl, hl14⟩ := len_succ hl13
    obtain ⟨v14, vs, rfl, hl15⟩ := len_succ hl14
    obtain ⟨v15, vs, rfl, hl16⟩ := len_succ hl15
    obtain rfl := len_zero hl16
    have dd := hd 3 (by simp) _ rfl; simp only [List.getD_cons_zero, List.getD_cons_succ] at dd; obtain rfl := dd
    clear hd hl hl1 hl2 hl3 hl4 hl5 hl6 hl7 hl8 hl9 hl10 hl11 hl12 hl13 hl14 hl15 hl16
    replace hK := hK.out
    simp only [puts, List.set_cons_zero, List.set_cons_succ, Act.put, List.setIfInBounds_toArray] at hK ⊢
    have hK' : Shut _ := hK
    clear hK
    go_simp
    go_at_call 208; refine (Tryz.slices_Clone_string_nil 0 0 _).mono ?_; rintro e w2 ⟨rfl, rfl⟩
    (try go_wp2_with fail)
    exact hK'.out _ _ (Tad.of (Below.refl _ _) hR.size) (hR) (fun D hD => by cases hD; rfl)
  · refine ⟨[], by decide, fun vs w hl hR hd K hK => ?_⟩
    obtain ⟨v0, vs, rfl, hl1⟩ := len_succ hl
    obtain ⟨v1, vs, rfl, hl2⟩ := len_succ hl1
    obtain ⟨v2, vs, rfl, hl3⟩ := len_succ hl2
    obtain ⟨v3, vs, rfl, hl4⟩ := len_succ hl3
    obtain ⟨v4, vs, rfl, hl5⟩ := len_succ hl4
    obtain ⟨v5, vs, rfl, hl6⟩ := len_succ hl5
    obtain ⟨v6, vs, rfl, hl7⟩ := len_succ hl6
    obtain ⟨v7, vs, rfl, hl8⟩ := len_succ hl7
    obtain ⟨v8, vs, rfl, hl9⟩ := len_succ hl8
    obtain ⟨v9, vs, rfl, hl10⟩ := len_succ hl9
    obtain ⟨v10, vs, rfl, hl11⟩ := len_succ hl10
    obtain ⟨v11, vs, rfl, hl12⟩ := len_succ hl11
    obtain ⟨v12, vs, rfl, hl13⟩ := len_succ hl12
    obtain ⟨v13, vs, rfl, hl14⟩ := len_succ hl13
    obtain ⟨v14, vs, rfl, hl15⟩ := len_succ hl14
    obtain ⟨v15, vs, rfl, hl16⟩ := len_succ hl15
    obtain rfl := len_zero hl16
    clear hd hl hl1 hl2 hl3 hl4 hl5 hl6 hl7 hl8 hl9 hl10 hl11 hl12 hl13 hl14 hl15 hl16
    replace hK := hK.out
    simp only [puts, List.set_cons_zero, List.set_cons_succ, Act.put, List.setIfInBounds_toArray] at hK ⊢
    have hK' : Shut _ := hK
    clear hK
    go_simp
    (try go_wp2_with fail)
    exact hK'.out _ _ (Tad.of (Below.refl _ _) hR.size) (hR) (fun D hD => by cases hD; rfl)
  · refine ⟨[5], by decide, fun vs w hl hR hd K hK => ?_⟩
    obtain ⟨v0, vs, rfl, hl1⟩ := len_succ hl
    obtain ⟨v1, vs, rfl, hl2⟩ := len_succ hl1
    obtain ⟨v2, vs, rfl, hl3⟩ := len_succ hl2
    obtain ⟨v3, vs, rfl, hl4⟩ := len_succ hl3
    obtain ⟨v4, vs, rfl, hl5⟩ := len_succ hl4
    obtain ⟨v5, vs, rfl, hl6⟩ := len_succ hl5
    obtain ⟨v6, vs, rfl, hl7⟩ := len_succ hl6
    obtain ⟨v7, vs, rfl, hl8⟩ := len_succ hl7
    obtain ⟨v8, vs, rfl, hl9⟩ := len_succ hl8
    obtain ⟨v9, vs, rfl, hl10⟩ := len_succ hl9
    obtain ⟨v10, vs, rfl, hl11⟩ := len_succ hl10
    obtain ⟨v11, vs, rfl, hl12⟩ := len_succ hl11
    obtain ⟨v12, vs, rfl, hl13⟩ := len_succ hl12
    obtain ⟨v13, vs, rfl, hl14⟩ := len_succ hl13
    obtain ⟨v14, vs, rfl, hl15⟩ := len_succ hl14
    obtain ⟨v15, vs, rfl, hl16⟩ := len_succ hl15
    obtain rfl := len_zero hl16
    have dd := hd 5 (by simp) _ rfl; simp only [List.getD_cons_zero, List.getD_cons_succ] at dd; obtain rfl := dd
    clear hd hl hl1 hl2 hl3 hl4 hl5 hl6 hl7 hl8 hl9 hl10 hl11 hl12 hl13 hl14 hl15 hl16
    replace hK := hK.out
    simp only [puts, List.set_cons_zero, List.set_cons_succ, Act.put, List.setIfInBounds_toArray] at hK ⊢
    have hK' : Shut _ := hK
    clear hK
    go_simp
    (try go_wp2_with fail)
    exact hK'.out _ _ (Tad.of ((Below.refl _ _).alloc (Nat.le_refl _) _) hR.size) ((hR.alloc hR.size _)) (fun D hD => by cases hD; exact ⟨_, rfl, heap_alloc_new _ _⟩)
  · refine ⟨[4, 6], by decide, fun vs w hl hR hd K hK => ?_⟩
    obtain ⟨v0, vs, rfl, hl1⟩ := len_succ hl
    obtain ⟨v1, vs, rfl, hl2⟩ := len_succ hl1
    obtain ⟨v2, vs, rfl, hl3⟩ := len_succ hl2
    obtain ⟨v3, vs, rfl, hl4⟩ := len_succ hl3
    obtain ⟨v4, vs, rfl, hl5⟩ := len_succ hl4
    obtain ⟨v5, vs, rfl, hl6⟩ := len_succ hl5
    obtain ⟨v6, vs, rfl, hl7⟩ := len_succ hl6
    obtain ⟨v7, vs, rfl, hl8⟩ := len_succ hl7
    obtain ⟨v8, vs, rfl, hl9⟩ := len_succ hl8
    obtain ⟨v9, vs, rfl, hl10⟩ := len_succ hl9
    obtain ⟨v10, vs, rfl, hl11⟩ := len_succ hl10
    obtain ⟨v11, vs, rfl, hl12⟩ := len_succ hl11
    obtain ⟨v12, vs, rfl, hl13⟩ := len_succ hl12
    obtain ⟨v13, vs, rfl, hl14⟩ := len_succ hl13
    obtain ⟨v14, vs, rfl, hl15⟩ := len_succ hl14
    obtain ⟨v15, vs, rfl, hl16⟩ := len_succ hl15
    obtain rfl := len_zero hl16
    have dd := hd 4 (by simp) _ rfl; simp only [List.getD_cons_zero, List.getD_cons_succ] at dd; obtain rfl := dd
    have dd := hd 6 (by simp) _ rfl; simp only [List.getD_cons_zero, List.getD_cons_succ] at dd; refine Exists.elim dd ?_; clear dd; intro g6 dd; have e := dd.1; have hg6 := dd.2; clear dd; subst e
    clear hd hl hl1 hl2 hl3 hl4 hl5 hl6 hl7 hl8 hl9 hl10 hl11 hl12 hl13 hl14 hl15 hl16
    replace hK := hK.out
    simp only [puts, List.set_cons_zero, List.set_cons_succ, Act.put, List.setIfInBounds_toArray] at hK ⊢
    have hK' : Shut _ := hK
    clear hK
    rw [if_pos (by rfl)]; refine wp_append_tad (v := .slice none 0 0) (xs := []) (y := .string s) (g := g6) (Operand.tmp 45) (Operand.tmp 47) (by rfl) (by rfl) (by rfl) (by rfl) (by rfl) (World.ownsRow_nil _ _ _ _) (.inl rfl) hg6 hn1000 hR.size ?_; intro v' w2 hown2 htad; rw [HYS.out] at hown2 htad; obtain ⟨g', cap', rfl⟩ := ownsRow_succ hown2
    (try go_wp2_with fail)
    exact hK'.out _ _ (htad) ((hR.trans htad.1)) (fun D hD => by cases hD; exact ⟨_, _, rfl, hown2⟩)
  · refine ⟨[], by decide, fun vs w hl hR hd K hK => ?_⟩
    obtain ⟨v0, vs, rfl, hl1⟩ := len_succ hl
    obtain ⟨v1, vs, rfl, hl2⟩ := len_succ hl1
    obtain ⟨v2, vs, rfl, hl3⟩ := len_succ hl2
    obtain ⟨v3, vs, rfl, hl4⟩ := len_succ hl3
    obtain ⟨v4, vs, rfl, hl5⟩ := len_succ hl4
    obtain ⟨v5, vs, rfl, hl6⟩ := len_succ hl5
    obtain ⟨v6, vs, rfl, hl7⟩ := len_succ hl6
    obtain ⟨v7, vs, rfl, hl8⟩ := len_succ hl7
    obtain ⟨v8, vs, rfl, hl9⟩ := len_succ hl8
    obtain ⟨v9, vs, rfl, hl10⟩ := len_succ hl9
    obtain ⟨v10, vs, rfl, hl11⟩ := len_succ hl10
    obtain ⟨v11, vs, rfl, hl12⟩ := len_succ hl11
    obtain ⟨v12, vs, rfl, hl13⟩ := len_succ hl12
    obtain ⟨v13, vs, rfl, hl14⟩ := len_succ hl13
    obtain ⟨v14, vs, rfl, hl15⟩ := len_succ hl14
    obtain ⟨v15, vs, rfl, hl16⟩ := len_succ hl15
    obtain rfl := len_zero hl16
    clear hd hl hl1 hl2 hl3 hl4 hl5 hl6 hl7 hl8 hl9 hl10 hl11 hl12 hl13 hl14 hl15 hl16
    replace hK := hK.out
    simp only [puts, List.set_cons_zero, List.set_cons_succ, Act.put, List.setIfInBounds_toArray] at hK ⊢
    have hK' : Shut _ := hK
    clear hK
    go_simp
    (try go_wp2_with fail)
    exact hK'.out _ _ (Tad.of (Below.refl _ _) hR.size) (hR) (fun D hD => by cases hD; rfl)
  · refine ⟨[8], by decide, fun vs w hl hR hd K hK => ?_⟩
    obtain ⟨v0, vs, rfl, hl1⟩ := len_succ hl
    obtain ⟨v1, vs, rfl, hl2⟩ := len_succ hl1
    obtain ⟨v2, vs, rfl, hl3⟩ := len_succ hl2
    obtain ⟨v3, vs, rfl, hl4⟩ := len_succ hl3
    obtain ⟨v4, vs, rfl, hl5⟩ := len_succ hl4
    obtain ⟨v5, vs, rfl, hl6⟩ := len_succ hl5
    obtain ⟨v6, vs, rfl, hl7⟩ := len_succ hl6
    obtain ⟨v7, vs, rfl, hl8⟩ := len_succ hl7
    obtain ⟨v8, vs, rfl, hl9⟩ := len_succ hl8
    obtain ⟨v9, vs, rfl, hl10⟩ := len_succ hl9
    obtain ⟨v10, vs, rfl, hl11⟩ := len_succ hl10
    obtain ⟨v11, vs, rfl, hl12⟩ := len_succ hl11
    obtain ⟨v12, vs, rfl, hl13⟩ := len_succ hl12
    obtain ⟨v13, vs, rfl, hl14⟩ := len_succ hl13
    obtain ⟨v14, vs, rfl, hl15⟩ := len_succ hl14
    obtain ⟨v15, vs, rfl, hl16⟩ := len_succ hl15
    obtain rfl := len_zero hl16
    have dd := hd 8 (by simp) _ rfl; simp only [List.getD_cons_zero, List.getD_cons_succ] at dd; obtain rfl := dd
    clear hd hl hl1 hl2 hl3 hl4 hl5 hl6 hl7 hl8 hl9 hl10 hl11 hl12 hl13 hl14 hl15 hl16
    replace hK := hK.out
    simp only [puts, List.set_cons_zero, List.set_cons_succ, Act.put, List.setIfInBounds_toArray] at hK ⊢
    have hK' : Shut _ := hK
    clear hK
    go_simp
    (try go_wp2_with fail)
    exact hK'.out _ _ (Tad.of (Below.refl _ _) hR.size) (hR) (fun D hD => by cases hD; rfl)
  · refine ⟨[9], by decide, fun vs w hl hR hd K hK => ?_⟩
    obtain ⟨v0, vs, rfl, hl1⟩ := len_succ hl
    obtain ⟨v1, vs, rfl, hl2⟩ := len_succ hl1
    obtain ⟨v2, vs, rfl, hl3⟩ := len_succ hl2
    obtain ⟨v3, vs, rfl, hl4⟩ := len_succ hl3
    obtain ⟨v4, vs, rfl, hl5⟩ := len_succ hl4
    obtain ⟨v5, vs, rfl, hl6⟩ := len_succ hl5
    obtain ⟨v6, vs, rfl, hl7⟩ := len_succ hl6
    obtain ⟨v7, vs, rfl, hl8⟩ := len_succ hl7
    obtain ⟨v8, vs, rfl, hl9⟩ := len_succ hl8
    obtain ⟨v9, vs, rfl, hl10⟩ := len_succ hl9
    obtain ⟨v10, vs, rfl, hl11⟩ := len_succ hl10
    obtain ⟨v11, vs, rfl, hl12⟩ := len_succ hl11
    obtain ⟨v12, vs, rfl, hl13⟩ := len_succ hl12
    obtain ⟨v13, vs, rfl, hl14⟩ := len_succ hl13
    obtain ⟨v14, vs, rfl, hl15⟩ := len_succ hl14
    obtain ⟨v15, vs, rfl, hl16⟩ := len_succ hl15
    obtain rfl := len_zero hl16
    have dd := hd 9 (by simp) _ rfl; simp only [List.getD_cons_zero, List.getD_cons_succ] at dd; obtain rfl := dd
    clear hd hl hl1 hl2 hl3 hl4 hl5 hl6 hl7 hl8 hl9 hl10 hl11 hl12 hl13 hl14 hl15 hl16
    replace hK := hK.out
    simp only [puts, List.set_cons_zero, List.set_cons_succ, Act.put, List.setIfInBounds_toArray] at hK ⊢
    have hK' : Shut _ := hK
    clear hK
    go_simp
    (try go_wp2_with fail)
    exact hK'.out _ _ (Tad.of (Below.refl _ _) hR.size) (hR) (fun D hD => by cases hD; rfl)
  · refine ⟨[10], by decide, fun vs w hl hR hd K hK => ?_⟩
    obtain ⟨v0, vs, rfl, hl1⟩ := len_succ hl
    obtain ⟨v1, vs, rfl, hl2⟩ := len_succ hl1
    obtain ⟨v2, vs, rfl, hl3⟩ := len_succ hl2
    obtain ⟨v3, vs, rfl, hl4⟩ := len_succ hl3
    obtain ⟨v4, vs, rfl, hl5⟩ := len_succ hl4
    obtain ⟨v5, vs, rfl, hl6⟩ := len_succ hl5
    obtain ⟨v6, vs, rfl, hl7⟩ := len_succ hl6
    obtain ⟨v7, vs, rfl, hl8⟩ := len_succ hl7
    obtain ⟨v8, vs, rfl, hl9⟩ := len_succ hl8
    obtain ⟨v9, vs, rfl, hl10⟩ := len_succ hl9
    obtain ⟨v10, vs, rfl, hl11⟩ := len_succ hl10
    obtain ⟨v11, vs, rfl, hl12⟩ := len_succ hl11
    obtain ⟨v12, vs, rfl, hl13⟩ := len_succ hl12
    obtain ⟨v13, vs, rfl, hl14⟩ := len_succ hl13
    obtain ⟨v14, vs, rfl, hl15⟩ := len_succ hl14
    obtain ⟨v15, vs, rfl, hl16⟩ := len_succ hl15
    obtain rfl := len_zero hl16
    have dd := hd 10 (by simp) _ rfl; simp only [List.getD_cons_zero, List.getD_cons_succ] at dd; obtain rfl := dd
    clear hd hl hl1 hl2 hl3 hl4 hl5 hl6 hl7 hl8 hl9 hl10 hl11 hl12 hl13 hl14 hl15 hl16
    replace hK := hK.out
    simp only [puts, List.set_cons_zero, List.set_cons_succ, Act.put, List.setIfInBounds_toArray] at hK ⊢
    have hK' : Shut _ := hK
    clear hK
    have k1 := (hR.cell (p := ⟨t, 1, none⟩) htl).trans q1
    go_simp
    (try go_wp2_with fail)
    exact hK'.out _ _ (Tad.of (Below.refl _ _) hR.size) (hR) (fun D hD => by cases hD; rfl)
  · refine ⟨[11], by decide, fun vs w hl hR hd K hK => ?_⟩
    obtain ⟨v0, vs, rfl, hl1⟩ := len_succ hl
    obtain ⟨v1, vs, rfl, hl2⟩ := len_succ hl1
    obtain ⟨v2, vs, rfl, hl3⟩ := len_succ hl2
    obtain ⟨v3, vs, rfl, hl4⟩ := len_succ hl3
    obtain ⟨v4, vs, rfl, hl5⟩ := len_succ hl4
    obtain ⟨v5, vs, rfl, hl6⟩ := len_succ hl5
    obtain ⟨v6, vs, rfl, hl7⟩ := len_succ hl6
    obtain ⟨v7, vs, rfl, hl8⟩ := len_succ hl7
    obtain ⟨v8, vs, rfl, hl9⟩ := len_succ hl8
    obtain ⟨v9, vs, rfl, hl10⟩ := len_succ hl9
    obtain ⟨v10, vs, rfl, hl11⟩ := len_succ hl10
    obtain ⟨v11, vs, rfl, hl12⟩ := len_succ hl11
    obtain ⟨v12, vs, rfl, hl13⟩ := len_succ hl12
    obtain ⟨v13, vs, rfl, hl14⟩ := len_succ hl13
    obtain ⟨v14, vs, rfl, hl15⟩ := len_succ hl14
    obtain ⟨v15, vs, rfl, hl16⟩ := len_succ hl15
    obtain rfl := len_zero hl16
    have dd := hd 11 (by simp) _ rfl; simp only [List.getD_cons_zero, List.getD_cons_succ] at dd; obtain rfl := dd
    clear hd hl hl1 hl2 hl3 hl4 hl5 hl6 hl7 hl8 hl9 hl10 hl11 hl12 hl13 hl14 hl15 hl16
    replace hK := hK.out
    simp only [puts, List.set_cons_zero, List.set_cons_succ, Act.put, List.setIfInBounds_toArray] at hK ⊢
    have hK' : Shut _ := hK
    clear hK
    go_simp
    go_at_call 209; refine (mclone_nil _).mono ?_; rintro e w2 ⟨rfl, rfl⟩
    (try go_wp2_with fail)
    exact hK'.out _ _ (Tad.of (Below.refl _ _) hR.size) (hR) (fun D hD => by cases hD; rfl)
  · refine ⟨[7, 12], by decide, fun vs w hl hR hd K hK => ?_⟩
    obtain ⟨v0, vs, rfl, hl1⟩ := len_succ hl
    obtain ⟨v1, vs, rfl, hl2⟩ := len_succ hl1
    obtain ⟨v2, vs, rfl, hl3⟩ := len_succ hl2
    obtain ⟨v3, vs, rfl, hl4⟩ := len_succ hl3
    obtain ⟨v4, vs, rfl, hl5⟩ := len_succ hl4
    obtain ⟨v5, vs, rfl, hl6⟩ := len_succ hl5
    obtain ⟨v6, vs, rfl, hl7⟩ := len_succ hl6
    obtain ⟨v7, vs, rfl, hl8⟩ := len_succ hl7
    obtain ⟨v8, vs, rfl, hl9⟩ := len_succ hl8
    obtain ⟨v9, vs, rfl, hl10⟩ := len_succ hl9
    obtain ⟨v10, vs, rfl, hl11⟩ := len_succ hl10
    obtain ⟨v11, vs, rfl, hl12⟩ := len_succ hl11
    obtain ⟨v12, vs, rfl, hl13⟩ := len_succ hl12
    obtain ⟨v13, vs, rfl, hl14⟩ := len_succ hl13
    obtain ⟨v14, vs, rfl, hl15⟩ := len_succ hl14
    obtain ⟨v15, vs, rfl, hl16⟩ := len_succ hl15
    obtain rfl := len_zero hl16
    have dd := hd 7 (by simp) _ rfl; simp only [List.getD_cons_zero, List.getD_cons_succ] at dd; refine Exists.elim dd ?_; clear dd; intro g7 dd; refine Exists.elim dd ?_; clear dd; intro c7 dd; have e := dd.1; have h7 := dd.2; clear dd; subst e
    have dd := hd 12 (by simp) _ rfl; simp only [List.getD_cons_zero, List.getD_cons_succ] at dd; obtain rfl := dd
    clear hd hl hl1 hl2 hl3 hl4 hl5 hl6 hl7 hl8 hl9 hl10 hl11 hl12 hl13 hl14 hl15 hl16
    replace hK := hK.out
    simp only [puts, List.set_cons_zero, List.set_cons_succ, Act.put, List.setIfInBounds_toArray] at hK ⊢
    have hK' : Shut _ := hK
    clear hK
    go_simp
    (try go_wp2_with fail)
    exact hK'.out _ _ (Tad.of (Below.refl _ _) hR.size) (hR) (fun D hD => by cases hD; exact ⟨_, _, rfl, ⟨_, _, rfl, h7⟩, rfl⟩)
  · refine ⟨[13], by decide, fun vs w hl hR hd K hK => ?_⟩
    obtain ⟨v0, vs, rfl, hl1⟩ := len_succ hl
    obtain ⟨v1, vs, rfl, hl2⟩ := len_succ hl1
    obtain ⟨v2, vs, rfl, hl3⟩ := len_succ hl2
    obtain ⟨v3, vs, rfl, hl4⟩ := len_succ hl3
    obtain ⟨v4, vs, rfl, hl5⟩ := len_succ hl4
    obtain ⟨v5, vs, rfl, hl6⟩ := len_succ hl5
    obtain ⟨v6, vs, rfl, hl7⟩ := len_succ hl6
    obtain ⟨v7, vs, rfl, hl8⟩ := len_succ hl7
    obtain ⟨v8, vs, rfl, hl9⟩ := len_succ hl8
    obtain ⟨v9, vs, rfl, hl10⟩ := len_succ hl9
    obtain ⟨v10, vs, rfl, hl11⟩ := len_succ hl10
    obtain ⟨v11, vs, rfl, hl12⟩ := len_succ hl11
    obtain ⟨v12, vs, rfl, hl13⟩ := len_succ hl12
    obtain ⟨v13, vs, rfl, hl14⟩ := len_succ hl13
    obtain ⟨v14, vs, rfl, hl15⟩ := len_succ hl14
    obtain ⟨v15, vs, rfl, hl16⟩ := len_succ hl15
    obtain rfl := len_zero hl16
    have dd := hd 13 (by simp) _ rfl; simp only [List.getD_cons_zero, List.getD_cons_succ] at dd; refine Exists.elim dd ?_; clear dd; intro x dd; refine Exists.elim dd ?_; clear dd; intro y dd; have e := dd.1; have hx := dd.2.1; have hy := dd.2.2; clear dd; subst e; refine Exists.elim hx ?_; clear hx; intro g7 hx; refine Exists.elim hx ?_; clear hx; intro c7 hx; have e := hx.1; have h7 := hx.2; clear hx; subst e; have e := hy; clear hy; subst e
    clear hd hl hl1 hl2 hl3 hl4 hl5 hl6 hl7 hl8 hl9 hl10 hl11 hl12 hl13 hl14 hl15 hl16
    replace hK := hK.out
    simp only [puts, List.set_cons_zero, List.set_cons_succ, Act.put, List.setIfInBounds_toArray] at hK ⊢
    have hK' : Shut _ := hK
    clear hK
    go_simp
    (try go_wp2_with fail)
    exact hK'.out _ _ (Tad.of ((Below.refl _ _).alloc (Nat.le_refl _) _) hR.size) ((hR.alloc hR.size _)) (fun D hD => by cases hD; exact ⟨_, _, _, rfl, hR.size, heap_alloc_new _ _, ⟨_, _, rfl, h7.alloc _⟩, rfl⟩)
  · refine ⟨[14], by decide, fun vs w hl hR hd K hK => ?_⟩
    obtain ⟨v0, vs, rfl, hl1⟩ := len_succ hl
    obtain ⟨v1, vs, rfl, hl2⟩ := len_succ hl1
    obtain ⟨v2, vs, rfl, hl3⟩ := len_succ hl2
    obtain ⟨v3, vs, rfl, hl4⟩ := len_succ hl3
    obtain ⟨v4, vs, rfl, hl5⟩ := len_succ hl4
    obtain ⟨v5, vs, rfl, hl6⟩ := len_succ hl5
    obtain ⟨v6, vs, rfl, hl7⟩ := len_succ hl6
    obtain ⟨v7, vs, rfl, hl8⟩ := len_succ hl7
    obtain ⟨v8, vs, rfl, hl9⟩ := len_succ hl8
    obtain ⟨v9, vs, rfl, hl10⟩ := len_succ hl9
    obtain ⟨v10, vs, rfl, hl11⟩ := len_succ hl10
    obtain ⟨v11, vs, rfl, hl12⟩ := len_succ hl11
    obtain ⟨v12, vs, rfl, hl13⟩ := len_succ hl12
    obtain ⟨v13, vs, rfl, hl14⟩ := len_succ hl13
    obtain ⟨v14, vs, rfl, hl15⟩ := len_succ hl14
    obtain ⟨v15, vs, rfl, hl16⟩ := len_succ hl15
    obtain rfl := len_zero hl16
    have dd := hd 14 (by simp) _ rfl; simp only [List.getD_cons_zero, List.getD_cons_succ] at dd; refine Exists.elim dd ?_; clear dd; intro p14 dd; refine Exists.elim dd ?_; clear dd; intro x dd; refine Exists.elim dd ?_; clear dd; intro y dd; have e := dd.1; have h14 := dd.2; clear dd; subst e
    clear hd hl hl1 hl2 hl3 hl4 hl5 hl6 hl7 hl8 hl9 hl10 hl11 hl12 hl13 hl14 hl15 hl16
    replace hK := hK.out
    simp only [puts, List.set_cons_zero, List.set_cons_succ, Act.put, List.setIfInBounds_toArray] at hK ⊢
    have hK' : Shut _ := hK
    clear hK
    go_simp
    (try go_wp2_with fail)
    exact hK'.out _ _ (Tad.of (Below.refl _ _) hR.size) (hR) (fun D hD => by cases hD; exact ⟨p14, x, y, rfl, h14⟩)
  · intro vs w9 hl hR hd
    obtain ⟨v0, vs, rfl, hl1⟩ := len_succ hl
    obtain ⟨v1, vs, rfl, hl2⟩ := len_succ hl1
    obtain ⟨v2, vs, rfl, hl3⟩ := len_succ hl2
    obtain ⟨v3, vs, rfl, hl4⟩ := len_succ hl3
    obtain ⟨v4, vs, rfl, hl5⟩ := len_succ hl4
    obtain ⟨v5, vs, rfl, hl6⟩ := len_succ hl5
    obtain ⟨v6, vs, rfl, hl7⟩ := len_succ hl6
    obtain ⟨v7, vs, rfl, hl8⟩ := len_succ hl7
    obtain ⟨v8, vs, rfl, hl9⟩ := len_succ hl8
    obtain ⟨v9, vs, rfl, hl10⟩ := len_succ hl9
    obtain ⟨v10, vs, rfl, hl11⟩ := len_succ hl10
    obtain ⟨v11, vs, rfl, hl12⟩ := len_succ hl11
    obtain ⟨v12, vs, rfl, hl13⟩ := len_succ hl12
    obtain ⟨v13, vs, rfl, hl14⟩ := len_succ hl13
    obtain ⟨v14, vs, rfl, hl15⟩ := len_succ hl14
    obtain ⟨v15, vs, rfl, hl16⟩ := len_succ hl15
    obtain rfl := len_zero hl16
    have dd := hd 15 _ rfl; simp only [List.getD_cons_zero, List.getD_cons_succ] at dd; obtain ⟨p, x, y, rfl, hbp, hp9, ⟨g9, c9, rfl, hr9⟩, rfl⟩ := dd
    clear hd hl hl1 hl2 hl3 hl4 hl5 hl6 hl7 hl8 hl9 hl10 hl11 hl12 hl13 hl14 hl15 hl16
    simp only [puts, List.set_cons_zero, List.set_cons_succ, Act.put, List.setIfInBounds_toArray]
    have hp0 := (cell2 hp9).1
    have hp1 := (cell2 hp9).2.1
    have hf1 := (cell2 hp9).2.2 1
    have HP9 := Lib.hid hp9
    have HR9 := Lib.hid hr9
    clear hp9 hr9
    have hval : plainElem (H := Unit) Tryz.prog 3 (.int .i64 1) = some (.lit (.int .i64 1), []) := plainElem_int Tryz.underlying3 (by decide)
    have hpl : p < w9.heap.size := (Array.getElem?_eq_some_iff.1 HP9.out).1
    have hpn : w9.heap.size ≠ p := by omega
    have hpn2 : p ≠ w9.heap.size := by omega
    obtain ⟨w10, hw10⟩ : ∃ w10, (w9.alloc (.map #[] 0)).setCell ⟨p, 1, none⟩ (.map (some w9.heap.size)) = w10 := ⟨_, rfl⟩
    have hp9' : (w9.alloc (.map #[] 0)).heap[p]? = some (.cells #[.slice (some ⟨g9, 0, none⟩) 1 c9, .map none] 264 (0, 0)) := (Below.heap_alloc _ _ p hpl).trans HP9.out
    have hm10 : w10.ownsMap Tryz.prog 9 (plainElem Tryz.prog 3) w9.heap.size 0 (.map [] : DataW Unit) := by rw [← hw10]; exact (World.ownsMap_made _ _ _ _).setCell hpn _
    have hp10 : w10.heap[p]? = some (.cells #[.slice (some ⟨g9, 0, none⟩) 1 c9, .map (some w9.heap.size)] 264 (0, 0)) := by rw [← hw10, heap_setCell_same _ _ _ _ _ _ hp9']; rfl
    have hb10 : Below W.heap.size W w10 := by rw [← hw10]; exact (hR.alloc hR.size _).setCell hbp _
    have hr10 : w10.ownsRow W.heap.size 9 1 (.slice (some ⟨g9, 0, none⟩) 1 c9) 1 ys := by
      rw [← hw10]
      refine owns_set (HR9.out.alloc _) (fun b e => ?_) _
      have hgr := HR9.out.lt b e
      injection e with e
      subst e
      intro e2
      have e3 := HP9.out
      rcases HR9.out.2 with ⟨x, _⟩ | ⟨g1, cap, cur, e4, _, hg1, _⟩
      · cases x
      · injection e4 with e4; injection e4 with e4; injection e4 with e4
        dsimp only at e2
        rw [← e2, e4, hg1] at e3
        cases e3
    obtain ⟨w11, hrun, hown11, hgrow11⟩ := (World.ownsMap.drew hm10).update keyLaw Tryz.underlying262 (by unfold maxLen; omega) (key_of s hs) hval
    have hs10 : w9.heap.size < w10.heap.size := hm10.lt
    have hq0 := (cell2 hp10).1
    have hq1 := (cell2 hp10).2.1
    have hp2 : w11.cell? ⟨p, 0, none⟩ = some (.slice (some ⟨g9, 0, none⟩) 1 c9) := hgrow11.cell hq0 (fun e => hpn2 (Option.some.inj e))
    have hp3 : w11.cell? ⟨p, 1, none⟩ = some (.map (some w9.heap.size)) := hgrow11.cell hq1 (fun e => hpn2 (Option.some.inj e))
    have hfin : Tb w11 p ([] ++ [s]) ∧ Below W.heap.size W w11 := by
      refine ⟨tb_done (base := W.heap.size) (w := w10) (b := w9.heap.size) (a := some ⟨g9, 0, none⟩) (c := c9) (D := .map []) hp10 (by obtain ⟨es, k, h, _⟩ := hm10; exact ⟨es, k, h⟩) (by rw [List.map_append, List.map_singleton, List.map_nil, HYS.out]; exact hr10) ⟨hgrow11.os, hgrow11.tape, hgrow11.output, hgrow11.size, hgrow11.block⟩ hown11 tabD_nil (by simp), (hb10.drew).grown hgrow11 hb10.size (fun k e => by injection e with e; subst e; exact hR.size)⟩
    have HFIN := Lib.hid hfin
    have HM10 := Lib.hid hm10
    clear hfin hown11 hgrow11 hr10 hp10 hp9' hm10
    go_upto_region 12 with fail
    try rw [hw10]
    clear hw10 hp0 hp1
    go_region_held3 (fun w' => w'.cell? ⟨p, 0, none⟩ = some (.slice (some ⟨g9, 0, none⟩) 1 c9) ∧ w'.cell? ⟨p, 1, none⟩ = some (.map (some w9.heap.size))) (first | exact ⟨hq0, hq1⟩ | exact ⟨hp2, hp3⟩) (fail)
    all_goals (go_upto_region 13 with fail)
    all_goals (go_region_held3 (fun w' => w'.cell? ⟨p, 0, none⟩ = some (.slice (some ⟨g9, 0, none⟩) 1 c9)) (exact hp2) (fail))
    all_goals go_wp2_with fail
    all_goals go_ret3
    all_goals exact ⟨p, rfl, HFIN.out.1.below ((Below.refl _ _).drew), HFIN.out.2.drew⟩
end Go.Proofs.YtfjpbkmnlmecgaaGreatDoor.Ru
end

section
/- Package names: Of; the two tables of the laws. -/
namespace Go.Proofs.YtfjpbkmnlmecgaaGreatDoor.Ru
open Go.RowKit Go.PlainAid Go.Maps Go.Proofs.YtfjpbkmnlmecgaaGreatDoor
set_option linter.unusedVariables false
set_option linter.unusedSimpArgs false
set_option maxHeartbeats 4000000
set_option maxRecDepth 20000

def OfTP (w : World) (l : List ByteArray) (e : Ending) (w' : World) : Prop := ∃ p, e = .returned (.tuple #[.pointer (some ⟨p, 0, none⟩), .int .i64 0]) ∧ Tb w' p l ∧ Below w.heap.size w w'
theorem take_snoc {l : List ByteArray} {j : Nat} (h : j < l.length) : l.take j ++ [l.getD j ByteArray.empty] = l.take (j + 1) := by
  rw [List.take_add_one, List.getD_eq_getElem?_getD, List.getElem?_eq_getElem h]; rfl
theorem not_before {l : List ByteArray} (hnd : l.Nodup) {j : Nat} (h : j < l.length) : l.getD j ByteArray.empty ∉ l.take j := by
  intro hm
  obtain ⟨i, hi, e⟩ := List.mem_iff_getElem.1 hm
  rw [List.length_take] at hi
  rw [List.getElem_take, List.getD_eq_getElem?_getD, List.getElem?_eq_getElem h] at e
  exact List.pairwise_iff_getElem.1 hnd i j (by omega) h (by omega) e
theorem nof_any (a : Option Addr) (n c : Nat) (l : List ByteArray) (most : Int) (w : World) (h : Sn w a n c l) (hn : n < 60) (hmost : 60 ≤ most) (hv : ∀ s ∈ l, validB s = true ∧ s.size ≤ 1000000) (hnd : l.Nodup) :
    Calls Tryz.prog 52 #[.slice a n c, .int .i64 most] w (OfTP w l) := by
  obtain ⟨hl, hc, hm, h4⟩ := h
  have HV := Lib.hid hv
  have HN := Lib.hid hnd
  have HL := Lib.hid hl
  have H4 := Lib.hid h4
  clear hv hnd hl h4
  have ht0 : Hid (Tb (w.alloc (.cells #[.slice none 0 0, .map none] 264)) w.heap.size (l.take 0)) :=
    ⟨none, 0, none, heap_alloc_new _ _, ⟨rfl, Nat.le_refl _, by decide, .inl ⟨rfl, rfl, rfl⟩⟩, .inl ⟨rfl, rfl⟩⟩
  go_enter Tryz.func52, Tryz.ntmps52
  go_wp2_with (go_at_call 127; refine (nnew_any _).mono ?_; rintro e w1 ⟨rfl, rfl⟩)
  go_loopw [6, 15] (fun v v2 wr => ∃ j p : Nat, j ≤ n ∧ v2 = .int .i64 j ∧ v = .pointer (some ⟨p, 0, none⟩) ∧ Hid (Tb wr p (l.take j)) ∧ Below w.heap.size w wr) (fun _ v _ => n - (intOf v).toNat)
  case atStart => exact ⟨0, _, by omega, rfl, rfl, ht0, (Below.refl _ _).alloc (Nat.le_refl _) _⟩
  case round =>
    obtain ⟨j, p, hj, rfl, rfl, htb, hbel⟩ := hrel
    clear ht0
    by_cases hjn : j < n
    · rcases H4.out with ⟨-, h0, -⟩ | ⟨-, b, o, rfl, hb, hcell⟩
      · omega
      have k0 := (hbel.cell (p := ⟨b, o + j, none⟩) hb).trans (hcell j hjn)
      have hj0 : (0 : Int) ≤ (j : Int) := Int.natCast_nonneg _
      have hj1 : (j : Int) < (n : Int) := by omega
      have hjl : j < l.length := by rw [HL.out]; exact hjn
      have hmem : l.getD j ByteArray.empty ∈ l := by rw [List.getD_eq_getElem?_getD, List.getElem?_eq_getElem hjl]; exact List.getElem_mem hjl
      have hADD : Hid (Calls Tryz.prog 128 #[.pointer (some ⟨p, 0, none⟩), .string (l.getD j ByteArray.empty), .int .i64 most] wr fun e w' => ∃ p x, e = .returned (.tuple #[.pointer (some ⟨p, 0, none⟩), .int .i64 x, .int .i64 0]) ∧ Tb w' p (l.take (j + 1)) ∧ Below wr.heap.size wr w') := by
        show Calls _ _ _ _ _
        by_cases hj0 : j = 0
        · subst hj0
          refine (add_first p _ most wr htb.out (HV.out _ hmem).1 (by omega) (HV.out _ hmem).2).mono ?_
          rintro e w2 ⟨q, rfl, ht, hb⟩
          rw [show [l.getD 0 ByteArray.empty] = l.take (0 + 1) from take_snoc hjl] at ht
          exact ⟨q, _, rfl, ht, hb⟩
        · refine (add_more p (l.take j) _ most j wr htb.out (by rw [List.length_take]; omega) (by omega) (HV.out _ hmem).1 (not_before HN.out hjl) (by omega) (by omega) (HV.out _ hmem).2).mono ?_
          rintro e w2 ⟨q, rfl, ht, hb⟩
          rw [take_snoc hjl] at ht
          exact ⟨q, _, rfl, ht, hb⟩
      generalize l.getD j ByteArray.empty = s at k0 hADD
      clear hcell htb hmem
      go_wp2_with (go_at_call 128; refine hADD.out.mono ?_; rintro e w2 ⟨q, x, rfl, ht2, hb2⟩; have HT2 := Lib.hid ht2; clear ht2)
      refine ⟨⟨j + 1, q, hjn, by rw [Int.natCast_succ], rfl, HT2, hbel.trans (hb2.mono hbel.size)⟩, ?_⟩
      simp only [intOf]
      omega
    · obtain rfl : j = n := by omega
      have ht : l.take j = l := List.take_of_length_le (by rw [HL.out]; exact Nat.le_refl _)
      rw [ht] at htb
      clear ht
      go_wp2_with fail
      go_ret2
      exact ⟨p, rfl, htb.out, hbel⟩
/-- A slice of strings that a call has just built. -/
theorem sn_built (w : World) (l : List ByteArray) (n : Nat) (hn : l.length = n) (h0 : 0 < n) (h1 : n ≤ 1000) (cs : Array Value) (hcs : ∀ j, j < n → cs[j]? = some (.string (l.getD j ByteArray.empty))) : Sn (w.alloc (.cells cs 9)) (some ⟨w.heap.size, 0, none⟩) n n l := by
  refine ⟨hn, Nat.le_refl _, by omega, .inr ⟨h0, w.heap.size, 0, rfl, by simp, fun j hj => ?_⟩⟩
  rw [cell_of_row _ _ _ _ _ _ (heap_alloc_new _ _), Nat.zero_add]
  exact hcs j hj
def sixN : List ByteArray := [⟨#[114, 49]⟩, ⟨#[114, 50]⟩, ⟨#[114, 51]⟩, ⟨#[114, 52]⟩, ⟨#[97, 49]⟩, ⟨#[97, 50]⟩]
def threeN : List ByteArray := [⟨#[99, 108, 101, 114, 107]⟩, ⟨#[97, 117, 100, 105, 116, 111, 114]⟩, ⟨#[104, 114]⟩]
theorem six_ok : (∀ s ∈ sixN, validB s = true ∧ s.size ≤ 1000000) ∧ sixN.Nodup := by
  refine ⟨?_, by decide +kernel⟩
  have h : sixN.all (fun s => validB s && decide (s.size ≤ 1000000)) = true := by decide +kernel
  intro s hs
  have := List.all_eq_true.1 h s hs
  simpa using this
theorem three_ok : (∀ s ∈ threeN, validB s = true ∧ s.size ≤ 1000000) ∧ threeN.Nodup := by
  refine ⟨?_, by decide +kernel⟩
  have h : threeN.all (fun s => validB s && decide (s.size ≤ 1000000)) = true := by decide +kernel
  intro s hs
  have := List.all_eq_true.1 h s hs
  simpa using this
theorem names_any (w : World) : Calls Tryz.prog 19 #[] w fun e w' => e = .returned (.slice (some ⟨w.heap.size, 0, none⟩) 6 6) ∧ Sn w' (some ⟨w.heap.size, 0, none⟩) 6 6 sixN ∧ Below w.heap.size w w' := by
  go_enter Tryz.func19, Tryz.ntmps19
  go_wp2_with fail
  go_ret
  refine ⟨rfl, sn_built _ _ 6 rfl (by decide) (by decide) _ (fun j hj => ?_), (Below.refl _ _).alloc (Nat.le_refl _) _⟩
  match j, hj with
  | 0, _ => rfl
  | 1, _ => rfl
  | 2, _ => rfl
  | 3, _ => rfl
  | 4, _ => rfl
  | 5, _ => rfl
  | j + 6, h => omega
theorem table_any (w : World) : Calls Tryz.prog 16 #[] w fun e w' => ∃ p, e = .returned (.pointer (some ⟨p, 0, none⟩)) ∧ Tb w' p sixN ∧ Below w.heap.size w w' := by
  go_enter Tryz.func16, Tryz.ntmps16
  go_wp2_with (first | (go_at_call 19; refine (names_any _).mono ?_; rintro e w1 ⟨rfl, hsn, hb1⟩; have HSN := Lib.hid hsn; clear hsn) | (go_at_call 52; refine (nof_any _ 6 6 sixN 63 _ HSN.out (by omega) (by omega) six_ok.1 six_ok.2).mono ?_; rintro e w2 ⟨p, rfl, htb, hb2⟩; have HTB := Lib.hid htb; clear htb))
  go_ret
  exact ⟨p, rfl, HTB.out, hb1.trans (hb2.mono hb1.size)⟩
end Go.Proofs.YtfjpbkmnlmecgaaGreatDoor.Ru
end
