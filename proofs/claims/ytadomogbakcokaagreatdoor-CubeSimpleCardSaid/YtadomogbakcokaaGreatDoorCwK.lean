/- Contracts: the reference's Simple. -/
import Derived.Test.YtadomogbakcokaaGreatDoorCvW
import Derived.Test.YtadomogbakcokaaGreatDoorCvT
import Derived.Test.YtadomogbakcokaaGreatDoorReh
namespace Go.Proofs.YtadomogbakcokaaGreatDoor
open Go.RowKit Go.PlainAid
set_option linter.unusedVariables false
set_option linter.unusedSimpArgs false
set_option maxHeartbeats 4000000
set_option maxRecDepth 20000

theorem wp_append_mo {w : World} {o : Oper} {a : Act} {K : Act → World → Prop} {Q : Exit → Act → World → Prop} (s x : Operand)
    (ho : o.op = .call { callee := .builtin .append, args := #[s, x], argTypes := #[25, 25] }) (base : Nat)
    (v : Value) (l : List Mc) (hs : a.eval s = v) (hown : Mo w base v l) (ad : Option Addr) (m c : Nat) (r : List Mc) (hx : a.eval x = .slice ad m c) (h : Ms w ad m c r) (hb : l.length + m ≤ 1000000000) (hbase : base ≤ w.heap.size)
    (hK : ∀ v' w', Mo w' base v' (l ++ r) → w.grownBy w' v.ownBlock → K (a.put o.dst v') w') : Oper.wp Tryz.prog o a w K Q := by
  obtain ⟨i0, hi, hz0, hz1, hz2⟩ := info_parts infoMc
  obtain ⟨v', w', hr, h3, h4⟩ := run_append_dk w base 25 28 o.type Tryz.underlying25 i0 _ 16 hi hz0 hz1 hz2 rfl (by decide) (by decide) v l hown.1 ad m c r h.1 hb hbase
  unfold Oper.wp
  simp [execOp, ho, resolve, invoke, builtin, hs, hx, hr, Result.andThen]
  exact hK _ _ ⟨h3, fun c hc => by
    rcases List.mem_append.1 hc with hc | hc
    · exact hown.2 c hc
    · exact h.2 c hc⟩ h4
theorem simpN_len (l : List Mc) : ∀ n, (simpN l n).length ≤ n
  | 0 => by simp [simpN]
  | n + 1 => by
    have ih := simpN_len l n
    rw [simpN]
    split
    · omega
    · split
      · rename_i c _ _
        have : (insM (simpN l n) c).length = (simpN l n).length + 1 := by
          unfold insM
          have := congrArg List.length (List.takeWhile_append_dropWhile (p := lessM c) (l := simpN l n))
          rw [List.length_append] at this
          rw [List.length_append, List.length_cons]; omega
        omega
      · omega
theorem at_split {c : Mc} : ∀ (out : List Mc) (j : Nat), j ≤ out.length → (∀ y ∈ out.take j, lessM c y = true) → (∀ y, out[j]? = some y → lessM c y = false) → insM out c = out.take j ++ c :: out.drop j
  | out, 0, _, _, h => by
    cases out with
    | nil => rfl
    | cons y out =>
      have h := h y rfl
      unfold insM
      rw [List.takeWhile_cons_of_neg (by simp [h]), List.dropWhile_cons_of_neg (by simp [h])]; rfl
  | [], j + 1, hj, _, _ => by simp at hj
  | y :: out, j + 1, hj, h1, h2 => by
    have ih := at_split (c := c) out j (by simpa using hj) (fun z hz => h1 z (by simp [hz])) (fun z hz => h2 z (by simpa using hz))
    have hy := h1 y (by simp)
    unfold insM at ih ⊢
    rw [List.takeWhile_cons_of_pos hy, List.dropWhile_cons_of_pos hy, List.cons_append, ih]; rfl
theorem Ms.pre {w : World} {a : Option Addr} {n cap m : Nat} {l : List Mc} (h : Ms w a n cap l) (hm : m ≤ n) : Ms w a m cap (l.take m) := ⟨h.1.take hm, fun c hc => h.2 c (List.mem_of_mem_take hc)⟩
theorem Ms.suf {w : World} {b o n cap m : Nat} {l : List Mc} (h : Ms w (some ⟨b, o, none⟩) n cap l) (hm : m ≤ n) : Ms w (some ⟨b, o + m * 2, none⟩) (n - m) (cap - m) (l.drop m) := ⟨h.1.drop hm, fun c hc => h.2 c (List.mem_of_mem_drop hc)⟩
theorem ms_empty {w : World} {a : Option Addr} {n cap : Nat} {l : List Mc} (h : Ms w a n cap l) (a' : Option Addr) (h0 : n = 0) : Ms w a' 0 0 l := ⟨h.1.empty a' 0 h0 (by omega), h.2⟩
theorem mo_one (w : World) (B : Nat) (x : Mc) (hB : B ≤ w.heap.size) (h : McOk x) : Mo (w.alloc (.cells #[.int .u64 (x.1 : Nat), .int .u64 (x.2 : Nat)] 28)) B (.slice (some ⟨w.heap.size, 0, none⟩) 1 1) [x] :=
  ⟨World.ownsRow_lit w #[.int .u64 (x.1 : Nat), .int .u64 (x.2 : Nat)] 1 hB (by unfold maxLen; omega) rfl, fun c hc => by rw [List.mem_singleton] at hc; rw [hc]; exact h⟩
theorem mo_empty (w : World) : Mo (w.alloc (.cells #[] 28)) w.heap.size (.slice (some ⟨w.heap.size, 0, none⟩) 0 0) [] :=
  ⟨World.ownsRow_lit w #[] 0 (Nat.le_refl _) (by unfold maxLen; omega) rfl, fun c hc => by cases hc⟩
theorem Mo.sl {w : World} {B : Nat} {v : Value} {l : List Mc} (h : Mo w B v l) : v = .slice none 0 0 ∧ l = [] ∨ ∃ g cap, v = .slice (some ⟨g, 0, none⟩) l.length cap := by
  rcases h.1.2 with ⟨e, h0⟩ | ⟨g, cap, cur, e, _⟩
  · exact .inl ⟨e, List.eq_nil_of_length_eq_zero h0⟩
  · exact .inr ⟨g, cap, e⟩
theorem rsimple_any (a : Option Addr) (n cap : Nat) (l : List Mc) (w : World) (h : Ms w a n cap l) (hn : n ≤ 8) :
    Calls Tryz.prog 44 #[.slice a n cap] w fun e w' => ∃ v, e = .returned v ∧ Mo w' w.heap.size v (simpN l l.length) ∧ Below w.heap.size w w' := by
  have HL := Lib.hid h.len
  have HM := Lib.hid h
  obtain ⟨hnc, hcm⟩ := h.caps
  clear h
  go_enter Tryz.func44, Tryz.ntmps44
  go_upto_region 3 with fail
  go_loopw [3, 13] (fun v3 v13 wr => ∃ i : Nat, i ≤ n ∧ v13 = .int .i64 i ∧ Mo wr w.heap.size v3 (simpN l i) ∧ Below w.heap.size w wr) (fun _ v _ => n - (intOf v).toNat)
  case atStart => exact ⟨0, Nat.zero_le _, rfl, Mo.nil _ _, Below.refl _ _⟩
  case round =>
    obtain ⟨i, hi, rfl, hmo, hB⟩ := hrel
    have hzr := hB.size
    by_cases hin : i < n
    · obtain ⟨⟨m1, m2⟩, hx⟩ : ∃ x, l[i]? = some x := ⟨_, List.getElem?_eq_getElem (by rw [HL.out]; exact hin)⟩
      obtain ⟨bb, oo, rfl, hbl, x0, x1, hxo⟩ := (HM.out.below hB).at hx
      have hj0 : (0 : Int) ≤ (i : Int) := Int.natCast_nonneg _
      have hj1 : (i : Int) < (n : Int) := by omega
      have HX := Lib.hid (simpN_at hx)
      have HC := Lib.hid hxo
      have hol := simpN_len l i
      obtain ⟨tc, etc⟩ : ∃ tc, emptyM (m1, m2) = tc := ⟨_, rfl⟩
      have HTC := Lib.hid etc
      have HK0 : Hid (keepN l i (m1, m2) 0 = !tc) := by show _ = _; rw [keepN, etc]
      dsimp only at x0 x1
      have HMO := Lib.hid hmo
      have HB := Lib.hid hB
      obtain ⟨wx, hwx⟩ : ∃ wx, wr.alloc (.cells #[.int .u64 (m1 : Nat), .int .u64 (m2 : Nat)] 28) = wx := ⟨_, rfl⟩
      have hAc : At2T wx wr.heap.size (.int .u64 (m1 : Nat)) (.int .u64 (m2 : Nat)) 28 := by rw [← hwx]; exact At2T.new _ _ _ _
      have hbx : Below wr.heap.size wr wx := by rw [← hwx]; exact (Below.refl _ _).alloc (Nat.le_refl _) _
      have HAX := Lib.hid hAc
      have HBX := Lib.hid hbx
      have HWX := Lib.hid hwx
      clear hx etc hmo hB hxo hAc hbx hwx
      go_upto_region 7 with (go_at_call 22; rw [HWX.out]; refine (rempty_t m1 m2 _ _ HC.out HTC).mono ?_; rintro e w4 ⟨rfl, hb⟩; have HA4 := Lib.hid (HAX.out.below hb); have HB4 := Lib.hid (HBX.out.trans (hb.mono HBX.out.size)); clear hb)
      clear x0 x1
      generalize wr.heap.size = gc at HA4 HAX ⊢
      go_loopw [6, 23] (fun v6 v23 wq => ∃ k : Nat, k ≤ n ∧ v23 = .int .i64 k ∧ v6 = .bool (keepN l i (m1, m2) k) ∧ Below w4.heap.size w4 wq) (fun _ v _ => n - (intOf v).toNat)
      case atStart => exact ⟨0, Nat.zero_le _, rfl, by rw [HK0.out], Below.refl _ _⟩
      case round =>
        obtain ⟨k, hk, rfl, rfl, hcur⟩ := hrel
        have hzq := hcur.size
        by_cases hkn : k < n
        · obtain ⟨⟨d1, d2⟩, hy⟩ : ∃ y, l[k]? = some y := ⟨_, List.getElem?_eq_getElem (by rw [HL.out]; exact hkn)⟩
          obtain ⟨b2, o2, eb, hbl2, y0, y1, hyo⟩ := (((HM.out.below HB.out).below HB4.out).below hcur).at hy
          cases eb
          have hk0 : (0 : Int) ≤ (k : Int) := Int.natCast_nonneg _
          have hk1 : (k : Int) < (n : Int) := by omega
          have HD := Lib.hid hyo
          have HK := Lib.hid (keepN_at (i := i) (c := (m1, m2)) hy)
          dsimp only at y0 y1
          have hAc := HA4.out.below hcur
          obtain ⟨te, ete⟩ : ∃ te, emptyM (d1, d2) = te := ⟨_, rfl⟩
          obtain ⟨tw, etw⟩ : ∃ tw, withinM (m1, m2) (d1, d2) = tw := ⟨_, rfl⟩
          obtain ⟨tv, etv⟩ : ∃ tv, withinM (d1, d2) (m1, m2) = tv := ⟨_, rfl⟩
          rw [ete, etw, etv] at HK
          have HTE := Lib.hid ete
          have HTW := Lib.hid etw
          have HTV := Lib.hid etv
          generalize keepN l i (m1, m2) k = kk at HK ⊢
          clear hy hyo ete etw etv
          go_upto_region 9 with fail
          obtain ⟨wy, hwy⟩ : ∃ wy, wr.alloc (.cells #[.int .u64 (d1 : Nat), .int .u64 (d2 : Nat)] 28) = wy := ⟨_, rfl⟩
          have hAd : At2T wy wr.heap.size (.int .u64 (d1 : Nat)) (.int .u64 (d2 : Nat)) 28 := by rw [← hwy]; exact At2T.new _ _ _ _
          have hbx : Below wr.heap.size wr wy := by rw [← hwy]; exact (Below.refl _ _).alloc (Nat.le_refl _) _
          rw [hwy]
          replace hAc := hAc.below hbx
          replace hcur := hcur.trans (hbx.mono hcur.size)
          clear hwy hbx y0 y1
          generalize wr.heap.size = gd at hAd ⊢
          have q0 := hAc.at.1
          have q1 := hAc.at.2.1
          have q2 := hAd.at.1
          have q3 := hAd.at.2.1
          cases te
          · cases tw
            · have HN : Hid (keepN l i (m1, m2) (k + 1) = kk) := by rw [HK.out]; rfl
              go_wp2_with (first
                | (go_at_call 22; (with_reducible refine (rempty_t d1 d2 _ _ HD.out HTE).mono ?_); rintro e w5 ⟨rfl, hb⟩; have hcur := hcur.trans (hb.mono hcur.size); have hAc := hAc.below hb; have hAd := hAd.below hb; clear q0 q1 q2 q3 hb; have q0 := hAc.at.1; have q1 := hAc.at.2.1; have q2 := hAd.at.1; have q3 := hAd.at.2.1)
                | (go_at_call 38; (with_reducible refine (rwithin_t m1 m2 d1 d2 _ _ HC.out HD.out HTW).mono ?_); rintro e w6 ⟨rfl, hb⟩; have hcur := hcur.trans (hb.mono hcur.size); have hAc := hAc.below hb; have hAd := hAd.below hb; clear q0 q1 q2 q3 hb; have q0 := hAc.at.1; have q1 := hAc.at.2.1; have q2 := hAd.at.1; have q3 := hAd.at.2.1)
                | (go_at_call 38; (with_reducible refine (rwithin_t d1 d2 m1 m2 _ _ HD.out HC.out HTV).mono ?_); rintro e w7 ⟨rfl, hb⟩; have hcur := hcur.trans (hb.mono hcur.size); have hAc := hAc.below hb; have hAd := hAd.below hb; clear q0 q1 q2 q3 hb; have q0 := hAc.at.1; have q1 := hAc.at.2.1; have q2 := hAd.at.1; have q3 := hAd.at.2.1))
              go_roundw
              case rel => exact ⟨k + 1, by omega, by go_num, by rw [HN.out], hcur⟩
              case measure => simp [intOf]; omega
            · cases tv
              · have HN : Hid (keepN l i (m1, m2) (k + 1) = false) := by rw [HK.out]; rfl
                go_wp2_with (first
                  | (go_at_call 22; (with_reducible refine (rempty_t d1 d2 _ _ HD.out HTE).mono ?_); rintro e w5 ⟨rfl, hb⟩; have hcur := hcur.trans (hb.mono hcur.size); have hAc := hAc.below hb; have hAd := hAd.below hb; clear q0 q1 q2 q3 hb; have q0 := hAc.at.1; have q1 := hAc.at.2.1; have q2 := hAd.at.1; have q3 := hAd.at.2.1)
                  | (go_at_call 38; (with_reducible refine (rwithin_t m1 m2 d1 d2 _ _ HC.out HD.out HTW).mono ?_); rintro e w6 ⟨rfl, hb⟩; have hcur := hcur.trans (hb.mono hcur.size); have hAc := hAc.below hb; have hAd := hAd.below hb; clear q0 q1 q2 q3 hb; have q0 := hAc.at.1; have q1 := hAc.at.2.1; have q2 := hAd.at.1; have q3 := hAd.at.2.1)
                  | (go_at_call 38; (with_reducible refine (rwithin_t d1 d2 m1 m2 _ _ HD.out HC.out HTV).mono ?_); rintro e w7 ⟨rfl, hb⟩; have hcur := hcur.trans (hb.mono hcur.size); have hAc := hAc.below hb; have hAd := hAd.below hb; clear q0 q1 q2 q3 hb; have q0 := hAc.at.1; have q1 := hAc.at.2.1; have q2 := hAd.at.1; have q3 := hAd.at.2.1))
                go_roundw
                case rel => exact ⟨k + 1, by omega, by go_num, by rw [HN.out], hcur⟩
                case measure => simp [intOf]; omega
              · by_cases hki : k < i
                · have hki2 : (k : Int) < (i : Int) := by omega
                  have HN : Hid (keepN l i (m1, m2) (k + 1) = false) := by show _ = _; rw [HK.out]; simp [hki]
                  go_wp2_with (first
                    | (go_at_call 22; (with_reducible refine (rempty_t d1 d2 _ _ HD.out HTE).mono ?_); rintro e w5 ⟨rfl, hb⟩; have hcur := hcur.trans (hb.mono hcur.size); have hAc := hAc.below hb; have hAd := hAd.below hb; clear q0 q1 q2 q3 hb; have q0 := hAc.at.1; have q1 := hAc.at.2.1; have q2 := hAd.at.1; have q3 := hAd.at.2.1)
                    | (go_at_call 38; (with_reducible refine (rwithin_t m1 m2 d1 d2 _ _ HC.out HD.out HTW).mono ?_); rintro e w6 ⟨rfl, hb⟩; have hcur := hcur.trans (hb.mono hcur.size); have hAc := hAc.below hb; have hAd := hAd.below hb; clear q0 q1 q2 q3 hb; have q0 := hAc.at.1; have q1 := hAc.at.2.1; have q2 := hAd.at.1; have q3 := hAd.at.2.1)
                    | (go_at_call 38; (with_reducible refine (rwithin_t d1 d2 m1 m2 _ _ HD.out HC.out HTV).mono ?_); rintro e w7 ⟨rfl, hb⟩; have hcur := hcur.trans (hb.mono hcur.size); have hAc := hAc.below hb; have hAd := hAd.below hb; clear q0 q1 q2 q3 hb; have q0 := hAc.at.1; have q1 := hAc.at.2.1; have q2 := hAd.at.1; have q3 := hAd.at.2.1))
                  go_roundw
                  case rel => exact ⟨k + 1, by omega, by go_num, by rw [HN.out], hcur⟩
                  case measure => simp [intOf]; omega
                · have hki2 : ¬ (k : Int) < (i : Int) := by omega
                  have HN : Hid (keepN l i (m1, m2) (k + 1) = kk) := by show _ = _; rw [HK.out]; simp [hki]
                  go_wp2_with (first
                    | (go_at_call 22; (with_reducible refine (rempty_t d1 d2 _ _ HD.out HTE).mono ?_); rintro e w5 ⟨rfl, hb⟩; have hcur := hcur.trans (hb.mono hcur.size); have hAc := hAc.below hb; have hAd := hAd.below hb; clear q0 q1 q2 q3 hb; have q0 := hAc.at.1; have q1 := hAc.at.2.1; have q2 := hAd.at.1; have q3 := hAd.at.2.1)
                    | (go_at_call 38; (with_reducible refine (rwithin_t m1 m2 d1 d2 _ _ HC.out HD.out HTW).mono ?_); rintro e w6 ⟨rfl, hb⟩; have hcur := hcur.trans (hb.mono hcur.size); have hAc := hAc.below hb; have hAd := hAd.below hb; clear q0 q1 q2 q3 hb; have q0 := hAc.at.1; have q1 := hAc.at.2.1; have q2 := hAd.at.1; have q3 := hAd.at.2.1)
                    | (go_at_call 38; (with_reducible refine (rwithin_t d1 d2 m1 m2 _ _ HD.out HC.out HTV).mono ?_); rintro e w7 ⟨rfl, hb⟩; have hcur := hcur.trans (hb.mono hcur.size); have hAc := hAc.below hb; have hAd := hAd.below hb; clear q0 q1 q2 q3 hb; have q0 := hAc.at.1; have q1 := hAc.at.2.1; have q2 := hAd.at.1; have q3 := hAd.at.2.1))
                  go_roundw
                  case rel => exact ⟨k + 1, by omega, by go_num, by rw [HN.out], hcur⟩
                  case measure => simp [intOf]; omega
          · have HN : Hid (keepN l i (m1, m2) (k + 1) = kk) := by rw [HK.out]; rfl
            go_wp2_with (first
              | (go_at_call 22; (with_reducible refine (rempty_t d1 d2 _ _ HD.out HTE).mono ?_); rintro e w5 ⟨rfl, hb⟩; have hcur := hcur.trans (hb.mono hcur.size); have hAc := hAc.below hb; have hAd := hAd.below hb; clear q0 q1 q2 q3 hb; have q0 := hAc.at.1; have q1 := hAc.at.2.1; have q2 := hAd.at.1; have q3 := hAd.at.2.1)
              | (go_at_call 38; (with_reducible refine (rwithin_t m1 m2 d1 d2 _ _ HC.out HD.out HTW).mono ?_); rintro e w6 ⟨rfl, hb⟩; have hcur := hcur.trans (hb.mono hcur.size); have hAc := hAc.below hb; have hAd := hAd.below hb; clear q0 q1 q2 q3 hb; have q0 := hAc.at.1; have q1 := hAc.at.2.1; have q2 := hAd.at.1; have q3 := hAd.at.2.1)
              | (go_at_call 38; (with_reducible refine (rwithin_t d1 d2 m1 m2 _ _ HD.out HC.out HTV).mono ?_); rintro e w7 ⟨rfl, hb⟩; have hcur := hcur.trans (hb.mono hcur.size); have hAc := hAc.below hb; have hAd := hAd.below hb; clear q0 q1 q2 q3 hb; have q0 := hAc.at.1; have q1 := hAc.at.2.1; have q2 := hAd.at.1; have q3 := hAd.at.2.1))
            go_roundw
            case rel => exact ⟨k + 1, by omega, by go_num, by rw [HN.out], hcur⟩
            case measure => simp [intOf]; omega
        · have hkn2 : k = n := by omega
          subst hkn2
          have hXX := HX.out
          rw [HL.out] at hXX
          obtain ⟨out, eo⟩ : ∃ out, simpN l i = out := ⟨_, rfl⟩
          rw [eo] at hXX hol
          have HMO2 := HMO.out
          rw [eo] at HMO2
          cases hkeep : keepN l i (m1, m2) k
          · rw [hkeep, if_neg (by decide)] at hXX
            have HE : Hid (simpN l (i + 1) = out) := hXX
            have HMO3 := Lib.hid ((HMO2.below HB4.out).below hcur)
            have HBF := Lib.hid ((HB.out.trans (HB4.out.mono HB.out.size)).trans (hcur.mono (Nat.le_trans HB.out.size HB4.out.size)))
            clear hXX eo hkeep hcur HMO2
            go_wp2_with fail
            go_roundw
            case rel => exact ⟨i + 1, by omega, by go_num, by rw [HE.out]; exact HMO3.out, HBF.out⟩
            case measure => simp [intOf]; omega
          · rw [hkeep, if_pos rfl] at hXX
            have HE : Hid (simpN l (i + 1) = insM out (m1, m2)) := hXX
            have hsl := HMO2.sl
            obtain ⟨a3, n3, c3, rfl, hn3, hms3⟩ := HMO2.dn
            have hsl2 : a3 = none ∧ n3 = 0 ∧ c3 = 0 ∨ ∃ b7 o7, a3 = some ⟨b7, o7, none⟩ := by
              rcases hsl with ⟨e, _⟩ | ⟨g, cap', e⟩
              · cases e; exact .inl ⟨rfl, rfl, rfl⟩
              · cases e; exact .inr ⟨g, 0, rfl⟩
            clear hsl
            have HMS := Lib.hid ((hms3.below HB4.out).below hcur)
            have HBF := Lib.hid ((HB.out.trans (HB4.out.mono HB.out.size)).trans (hcur.mono (Nat.le_trans HB.out.size HB4.out.size)))
            have HA5 := Lib.hid (HA4.out.below hcur)
            have HN3 := Lib.hid hn3
            have hn38 : n3 ≤ 8 := by omega
            obtain ⟨hc3, hc3m⟩ := hms3.caps
            clear hXX eo hkeep hcur HMO2 hn3 hms3
            go_upto_region 15 with fail
            go_loopw [9] (fun v9 wq => ∃ j : Nat, j ≤ n3 ∧ v9 = .int .i64 j ∧ (∀ y ∈ out.take j, lessM (m1, m2) y = true) ∧ Below wr.heap.size wr wq) (fun v _ => n3 - (intOf v).toNat)
            case atStart => exact ⟨0, Nat.zero_le _, rfl, fun y hy => by simp at hy, Below.refl _ _⟩
            case round =>
              obtain ⟨j, hj, rfl, hpre, hcur⟩ := hrel
              have hzq := hcur.size
              have hA7 := HA5.out.below hcur
              have q0 := hA7.at.1
              have q1 := hA7.at.2.1
              have hm7 := HMS.out.below hcur
              have hi0 : (0 : Int) ≤ (j : Int) := Int.natCast_nonneg _
              by_cases hjn : j < n3
              · obtain ⟨⟨x1, x2⟩, hx⟩ : ∃ x, out[j]? = some x := ⟨_, List.getElem?_eq_getElem (by rw [← HN3.out]; exact hjn)⟩
                obtain ⟨b7, o7, ea7, hbl7, y0, y1, hxo⟩ := hm7.at hx
                subst ea7
                have hi1 : (j : Int) < (n3 : Int) := by omega
                dsimp only at y0 y1
                have HXO := Lib.hid hxo
                obtain ⟨z, ez⟩ : ∃ z, cmpC (cuM (x1, x2)) (cuM (m1, m2)) = z := ⟨_, rfl⟩
                have HZ := Lib.hid ez
                by_cases hz : z < 0
                · have hpre2 : ∀ y ∈ out.take (j + 1), lessM (m1, m2) y = true := by
                    intro y hy
                    rw [take_snocV hx, List.mem_append, List.mem_singleton] at hy
                    rcases hy with hy | rfl
                    · exact hpre y hy
                    · unfold lessM; rw [ez]; exact decide_eq_true hz
                  have HPRE := Lib.hid hpre2
                  clear hx hxo ez hpre hpre2 hm7
                  have hdr := (Below.refl wr.heap.size wr).drew
                  have hA8 := hA7.below hdr
                  replace y0 := (hdr.cell (p := ⟨b7, o7 + j * 2, none⟩) hbl7).trans y0
                  replace y1 := (hdr.cell (p := ⟨b7, o7 + j * 2 + 1, none⟩) hbl7).trans y1
                  clear q0 q1 hA7
                  have q0 := hA8.at.1
                  have q1 := hA8.at.2.1
                  have hbl8 : b7 < wr.drew.heap.size := hbl7
                  go_wp2_with fail
                  refine wp_region_noPanic ?_
                  refine region_ord (S := fun w' => w'.cell? ⟨gc, 0, none⟩ = some (.int .u64 (m1 : Nat)) ∧ w'.cell? ⟨gc, 1, none⟩ = some (.int .u64 (m2 : Nat)) ∧ w'.cell? ⟨b7, o7 + j * 2, none⟩ = some (.int .u64 (x1 : Nat)) ∧ w'.cell? ⟨b7, o7 + j * 2 + 1, none⟩ = some (.int .u64 (x2 : Nat))) [0, 1, 2, 3, 4, 5, 6, 7, 8, 9, 10, 11, 12] (by kernel_rfl) (by decide +kernel) (fun _ _ _ _ _ h => h) (⟨q0, q1, y0, y1⟩) (fun _ => ?_)
                  repeat (first
                    | (refine ord_skip rfl rfl rfl ?_; (try simp only [Act.put, List.setIfInBounds_toArray, List.set_cons_zero, List.set_cons_succ]))
                    | (refine' ord_light (v := _) rfl rfl rfl (fun w' hSw => ?_) ?_; rotate_left; (focus ((try dsimp only at hSw); go_simp <;> (with_reducible rfl))); (try simp only [Act.put, List.setIfInBounds_toArray, List.set_cons_zero, List.set_cons_succ]))
                    | (refine ord_heavy rfl rfl (fun K hK => ?_); go_simp; (go_at_call 28; (with_reducible refine (rcompareM_any x1 x2 m1 m2 z _ HXO.out HC.out HZ).mono ?_); rintro e w9 ⟨rfl, hb⟩; have hR := hdr.trans hb; have hA9 := hA8.below hb; replace y0 := (hb.cell (p := ⟨b7, o7 + j * 2, none⟩) hbl8).trans y0; replace y1 := (hb.cell (p := ⟨b7, o7 + j * 2 + 1, none⟩) hbl8).trans y1; clear q0 q1; have q0 := hA9.at.1; have q1 := hA9.at.2.1); (try go_wp2_with fail); refine hK.out _ _ (⟨q0, q1, y0, y1⟩) ?_; clear hK K; (try simp only [Act.put, List.setIfInBounds_toArray, List.set_cons_zero, List.set_cons_succ]))
                    | (refine ord_heavy rfl rfl (fun K hK => ?_); go_simp; (try go_wp2_with fail); refine hK.out _ _ (⟨q0, q1, y0, y1⟩) ?_; clear hK K; (try simp only [Act.put, List.setIfInBounds_toArray, List.set_cons_zero, List.set_cons_succ])))
                  refine ord_nil (NoPanic.normal ?_)
                  go_wp2_with fail
                  go_roundw
                  case rel => exact ⟨j + 1, by omega, by go_num, HPRE.out, hcur.trans (hR.mono hcur.size)⟩
                  case measure => simp [intOf]; omega
                · have hins := at_split (c := (m1, m2)) out j (by rw [← HN3.out]; exact hj) hpre (fun y hy => by rw [hx] at hy; cases hy; unfold lessM; rw [ez]; exact decide_eq_false hz)
                  have HINS := Lib.hid hins
                  clear hx ez hpre hins hm7
                  have hdr := (Below.refl wr.heap.size wr).drew
                  have hA8 := hA7.below hdr
                  replace y0 := (hdr.cell (p := ⟨b7, o7 + j * 2, none⟩) hbl7).trans y0
                  replace y1 := (hdr.cell (p := ⟨b7, o7 + j * 2 + 1, none⟩) hbl7).trans y1
                  clear q0 q1 hA7
                  have q0 := hA8.at.1
                  have q1 := hA8.at.2.1
                  have hbl8 : b7 < wr.drew.heap.size := hbl7
                  go_wp2_with fail
                  refine wp_region_noPanic ?_
                  refine region_ord (S := fun w' => w'.cell? ⟨gc, 0, none⟩ = some (.int .u64 (m1 : Nat)) ∧ w'.cell? ⟨gc, 1, none⟩ = some (.int .u64 (m2 : Nat)) ∧ w'.cell? ⟨b7, o7 + j * 2, none⟩ = some (.int .u64 (x1 : Nat)) ∧ w'.cell? ⟨b7, o7 + j * 2 + 1, none⟩ = some (.int .u64 (x2 : Nat))) [0, 1, 2, 3, 4, 5, 6, 7, 8, 9, 10, 11, 12] (by kernel_rfl) (by decide +kernel) (fun _ _ _ _ _ h => h) (⟨q0, q1, y0, y1⟩) (fun _ => ?_)
                  repeat (first
                    | (refine ord_skip rfl rfl rfl ?_; (try simp only [Act.put, List.setIfInBounds_toArray, List.set_cons_zero, List.set_cons_succ]))
                    | (refine' ord_light (v := _) rfl rfl rfl (fun w' hSw => ?_) ?_; rotate_left; (focus ((try dsimp only at hSw); go_simp <;> (with_reducible rfl))); (try simp only [Act.put, List.setIfInBounds_toArray, List.set_cons_zero, List.set_cons_succ]))
                    | (refine ord_heavy rfl rfl (fun K hK => ?_); go_simp; (go_at_call 28; (with_reducible refine (rcompareM_any x1 x2 m1 m2 z _ HXO.out HC.out HZ).mono ?_); rintro e w9 ⟨rfl, hb⟩; have hR := hdr.trans hb; have hA9 := hA8.below hb; replace y0 := (hb.cell (p := ⟨b7, o7 + j * 2, none⟩) hbl8).trans y0; replace y1 := (hb.cell (p := ⟨b7, o7 + j * 2 + 1, none⟩) hbl8).trans y1; clear q0 q1; have q0 := hA9.at.1; have q1 := hA9.at.2.1); (try go_wp2_with fail); refine hK.out _ _ (⟨q0, q1, y0, y1⟩) ?_; clear hK K; (try simp only [Act.put, List.setIfInBounds_toArray, List.set_cons_zero, List.set_cons_succ]))
                    | (refine ord_heavy rfl rfl (fun K hK => ?_); go_simp; (try go_wp2_with fail); refine hK.out _ _ (⟨q0, q1, y0, y1⟩) ?_; clear hK K; (try simp only [Act.put, List.setIfInBounds_toArray, List.set_cons_zero, List.set_cons_succ])))
                  refine ord_nil (NoPanic.normal ?_)
                  have hT := hcur.trans (hR.mono hcur.size)
                  have hms9 := HMS.out.below hT
                  clear hcur hR hdr hA8 hbl8 q0 q1 y0 y1
                  go_upto_region 17 with fail
                  obtain ⟨W9, hW9⟩ : ∃ W9, w9 = W9 := ⟨_, rfl⟩
                  rw [hW9] at hms9 hT hA9 ⊢
                  clear hb hW9
                  by_cases hcj : c3 = j
                  · have hcj2 := hcj.symm
                    clear hcj
                    subst hcj2
                    have hnj : j = n3 := by omega
                    subst hnj
                    have hs0 : j - j = 0 := Nat.sub_self _
                    have hdrop : Ms W9 (some ⟨b7, o7, none⟩) 0 0 (out.drop j) := ms_empty (Ms.suf hms9 hj) _ (by omega)
                    have htake := Ms.pre hms9 hj
                    have hd2 := (Below.refl W9.heap.size W9).drew
                    have hone := mo_one W9.drew W9.heap.size (m1, m2) (Nat.le_refl _) HC.out
                    have hal := hd2.alloc (Nat.le_refl _) (.cells #[.int .u64 (m1 : Nat), .int .u64 (m2 : Nat)] 28)
                    replace hdrop := hdrop.below hal
                    have hA10 := hA9.below hal
                    have z0 := (hA9.below hd2).at.1
                    have z1 := (hA9.below hd2).at.2.1
                    have hln : ([(m1, m2)] : List Mc).length + 0 ≤ 1000000000 := by simp only [List.length_cons, List.length_nil]; omega
                    refine wp_region_noPanic ?_
                    refine R2.region_ord (S := fun w' => w'.cell? ⟨gc, 0, none⟩ = some (.int .u64 (m1 : Nat)) ∧ w'.cell? ⟨gc, 1, none⟩ = some (.int .u64 (m2 : Nat))) [0, 2, 3, 4, 1, 5, 6] (by kernel_rfl) (by decide +kernel) (fun _ _ _ _ _ h => h) (⟨z0, z1⟩) (fun _ => ?_)
                    refine' R2.ord_light (v := _) rfl rfl rfl (fun w' hSw => ?_) ?_; rotate_left; (focus ((try dsimp only at hSw); go_simp <;> (with_reducible rfl))); (try simp only [Act.put, List.setIfInBounds_toArray, List.set_cons_zero, List.set_cons_succ])
                    refine' R2.ord_light (v := _) rfl rfl rfl (fun w' hSw => ?_) ?_; rotate_left; (focus ((try dsimp only at hSw); go_simp <;> (with_reducible rfl))); (try simp only [Act.put, List.setIfInBounds_toArray, List.set_cons_zero, List.set_cons_succ])
                    refine' R2.ord_light (v := _) rfl rfl rfl (fun w' hSw => ?_) ?_; rotate_left; (focus ((try dsimp only at hSw); go_simp <;> (with_reducible rfl))); (try simp only [Act.put, List.setIfInBounds_toArray, List.set_cons_zero, List.set_cons_succ])
                    refine' R2.ord_light (v := _) rfl rfl rfl (fun w' hSw => ?_) ?_; rotate_left; (focus ((try dsimp only at hSw); go_simp <;> (with_reducible rfl))); (try simp only [Act.put, List.setIfInBounds_toArray, List.set_cons_zero, List.set_cons_succ])
                    refine R2.ord_heavy rfl rfl (fun K hK => ?_); go_simp; (try go_wp2_with fail); refine hK.out _ _ (⟨hA10.at.1, hA10.at.2.1⟩) ?_; clear hK K; (try simp only [Act.put, List.setIfInBounds_toArray, List.set_cons_zero, List.set_cons_succ])
                    refine R2.ord_heavy rfl rfl (fun K hK => ?_); rw [if_pos (by rfl)]; refine wp_append_mo (.tmp 64) (.tmp 67) rfl W9.heap.size _ [(m1, m2)] rfl hone (some ⟨b7, o7, none⟩) 0 0 (out.drop j) rfl hdrop hln (by simp) ?_
                    rintro v8 w8 hr8 hg8
                    have hB8 : Below W9.heap.size W9 w8 := hal.grown hg8 (by simp) (fun b hb => by cases hb; exact Nat.le_refl _)
                    obtain ⟨a8, n8, c8, rfl, hn8, hms8⟩ := hr8.dn
                    have HM8 := Lib.hid hms8
                    have hn8b : n8 ≤ 9 := by rw [hn8, List.length_append, List.length_drop]; simp only [List.length_cons, List.length_nil]; omega
                    clear hn8 hms8
                    have hA11 := hA9.below hB8
                    refine hK.out _ _ (⟨hA11.at.1, hA11.at.2.1⟩) ?_; clear hK K; (try simp only [Act.put, List.setIfInBounds_toArray, List.set_cons_zero, List.set_cons_succ])
                    refine' R2.ord_light (v := _) rfl rfl rfl (fun w' hSw => ?_) ?_; rotate_left; (focus ((try dsimp only at hSw); go_simp <;> (with_reducible rfl))); (try simp only [Act.put, List.setIfInBounds_toArray, List.set_cons_zero, List.set_cons_succ])
                    refine R2.ord_nil (NoPanic.normal ?_)
                    have hemp := mo_empty w8
                    have hal8 := (Below.refl w8.heap.size w8).alloc (Nat.le_refl _) (.cells #[] 28)
                    have htk8 := (htake.below hB8).below hal8
                    have HEMP := Lib.hid hemp
                    have HTK8 := Lib.hid htk8
                    have HAL8 := Lib.hid hal8
                    have HB9 := Lib.hid (hT.trans (hB8.mono hT.size))
                    have htl : (out.take j).length ≤ 8 := by rw [List.length_take]; omega
                    clear z0 z1 hA9 hA10 hA11 hal hone hdrop htake hd2 hms9 hr8 hg8 hemp hal8 htk8 hT hB8
                    go_wp2_with (first
                      | (at_builtin; refine wpList_append_mo rfl (.tmp 69) (.tmp 72) rfl w8.heap.size _ [] rfl HEMP.out _ _ _ (out.take j) rfl HTK8.out (by simp only [List.length_nil]; omega) (by simp) ?_; intro v10 w10 hr10 hg10; have HB10 := Lib.hid (HAL8.out.grown hg10 (by simp) (fun b hb => by cases hb; exact Nat.le_refl _)); have HR10 := Lib.hid hr10; have HM10 := Lib.hid (HM8.out.below HB10.out); clear hr10 hg10)
                      | (at_builtin; refine wpList_append_mo rfl (.tmp 73) (.tmp 74) rfl w8.heap.size _ ([] ++ out.take j) rfl HR10.out a8 n8 c8 ([(m1, m2)] ++ out.drop j) rfl HM10.out (by simp only [List.nil_append]; omega) HB10.out.size ?_; intro v11 w11 hr11 hg11; have HB11 := Lib.hid (HB10.out.grown hg11 HB10.out.size (fun b hb => (HR10.out.lt b hb).1)); have HR11 := Lib.hid hr11; clear hr11 hg11))
                    go_roundw
                    case rel => exact ⟨i + 1, by omega, by go_num, by rw [HE.out, HINS.out]; exact (HR11.out.lower (by have := HB9.out.size; have := HBF.out.size; omega)), HBF.out.trans ((HB9.out.trans (HB11.out.mono HB9.out.size)).mono HBF.out.size)⟩
                    case measure => simp [intOf]; omega
                  · have hdrop : Ms W9 (some ⟨b7, o7 + j * 2, none⟩) (n3 - j) (c3 - j) (out.drop j) := Ms.suf hms9 hj
                    have htake := Ms.pre hms9 hj
                    have hd2 := (Below.refl W9.heap.size W9).drew
                    have hone := mo_one W9.drew W9.heap.size (m1, m2) (Nat.le_refl _) HC.out
                    have hal := hd2.alloc (Nat.le_refl _) (.cells #[.int .u64 (m1 : Nat), .int .u64 (m2 : Nat)] 28)
                    replace hdrop := hdrop.below hal
                    have hA10 := hA9.below hal
                    have z0 := (hA9.below hd2).at.1
                    have z1 := (hA9.below hd2).at.2.1
                    have hln : ([(m1, m2)] : List Mc).length + (n3 - j) ≤ 1000000000 := by simp only [List.length_cons, List.length_nil]; omega
                    refine wp_region_noPanic ?_
                    refine R2.region_ord (S := fun w' => w'.cell? ⟨gc, 0, none⟩ = some (.int .u64 (m1 : Nat)) ∧ w'.cell? ⟨gc, 1, none⟩ = some (.int .u64 (m2 : Nat))) [0, 2, 3, 4, 1, 5, 6] (by kernel_rfl) (by decide +kernel) (fun _ _ _ _ _ h => h) (⟨z0, z1⟩) (fun _ => ?_)
                    refine' R2.ord_light (v := _) rfl rfl rfl (fun w' hSw => ?_) ?_; rotate_left; (focus ((try dsimp only at hSw); go_simp <;> (with_reducible rfl))); (try simp only [Act.put, List.setIfInBounds_toArray, List.set_cons_zero, List.set_cons_succ])
                    refine' R2.ord_light (v := _) rfl rfl rfl (fun w' hSw => ?_) ?_; rotate_left; (focus ((try dsimp only at hSw); go_simp <;> (with_reducible rfl))); (try simp only [Act.put, List.setIfInBounds_toArray, List.set_cons_zero, List.set_cons_succ])
                    refine' R2.ord_light (v := _) rfl rfl rfl (fun w' hSw => ?_) ?_; rotate_left; (focus ((try dsimp only at hSw); go_simp <;> (with_reducible rfl))); (try simp only [Act.put, List.setIfInBounds_toArray, List.set_cons_zero, List.set_cons_succ])
                    refine' R2.ord_light (v := _) rfl rfl rfl (fun w' hSw => ?_) ?_; rotate_left; (focus ((try dsimp only at hSw); go_simp <;> (with_reducible rfl))); (try simp only [Act.put, List.setIfInBounds_toArray, List.set_cons_zero, List.set_cons_succ])
                    refine R2.ord_heavy rfl rfl (fun K hK => ?_); go_simp; (try go_wp2_with fail); refine hK.out _ _ (⟨hA10.at.1, hA10.at.2.1⟩) ?_; clear hK K; (try simp only [Act.put, List.setIfInBounds_toArray, List.set_cons_zero, List.set_cons_succ])
                    refine R2.ord_heavy rfl rfl (fun K hK => ?_); rw [if_pos (by rfl)]; refine wp_append_mo (.tmp 64) (.tmp 67) rfl W9.heap.size _ [(m1, m2)] rfl hone (some ⟨b7, o7 + j * 2, none⟩) (n3 - j) (c3 - j) (out.drop j) rfl hdrop hln (by simp) ?_
                    rintro v8 w8 hr8 hg8
                    have hB8 : Below W9.heap.size W9 w8 := hal.grown hg8 (by simp) (fun b hb => by cases hb; exact Nat.le_refl _)
                    obtain ⟨a8, n8, c8, rfl, hn8, hms8⟩ := hr8.dn
                    have HM8 := Lib.hid hms8
                    have hn8b : n8 ≤ 9 := by rw [hn8, List.length_append, List.length_drop]; simp only [List.length_cons, List.length_nil]; omega
                    clear hn8 hms8
                    have hA11 := hA9.below hB8
                    refine hK.out _ _ (⟨hA11.at.1, hA11.at.2.1⟩) ?_; clear hK K; (try simp only [Act.put, List.setIfInBounds_toArray, List.set_cons_zero, List.set_cons_succ])
                    refine' R2.ord_light (v := _) rfl rfl rfl (fun w' hSw => ?_) ?_; rotate_left; (focus ((try dsimp only at hSw); go_simp <;> (with_reducible rfl))); (try simp only [Act.put, List.setIfInBounds_toArray, List.set_cons_zero, List.set_cons_succ])
                    refine R2.ord_nil (NoPanic.normal ?_)
                    have hemp := mo_empty w8
                    have hal8 := (Below.refl w8.heap.size w8).alloc (Nat.le_refl _) (.cells #[] 28)
                    have htk8 := (htake.below hB8).below hal8
                    have HEMP := Lib.hid hemp
                    have HTK8 := Lib.hid htk8
                    have HAL8 := Lib.hid hal8
                    have HB9 := Lib.hid (hT.trans (hB8.mono hT.size))
                    have htl : (out.take j).length ≤ 8 := by rw [List.length_take]; omega
                    clear z0 z1 hA9 hA10 hA11 hal hone hdrop htake hd2 hms9 hr8 hg8 hemp hal8 htk8 hT hB8
                    go_wp2_with (first
                      | (at_builtin; refine wpList_append_mo rfl (.tmp 69) (.tmp 72) rfl w8.heap.size _ [] rfl HEMP.out _ _ _ (out.take j) rfl HTK8.out (by simp only [List.length_nil]; omega) (by simp) ?_; intro v10 w10 hr10 hg10; have HB10 := Lib.hid (HAL8.out.grown hg10 (by simp) (fun b hb => by cases hb; exact Nat.le_refl _)); have HR10 := Lib.hid hr10; have HM10 := Lib.hid (HM8.out.below HB10.out); clear hr10 hg10)
                      | (at_builtin; refine wpList_append_mo rfl (.tmp 73) (.tmp 74) rfl w8.heap.size _ ([] ++ out.take j) rfl HR10.out a8 n8 c8 ([(m1, m2)] ++ out.drop j) rfl HM10.out (by simp only [List.nil_append]; omega) HB10.out.size ?_; intro v11 w11 hr11 hg11; have HB11 := Lib.hid (HB10.out.grown hg11 HB10.out.size (fun b hb => (HR10.out.lt b hb).1)); have HR11 := Lib.hid hr11; clear hr11 hg11))
                    go_roundw
                    case rel => exact ⟨i + 1, by omega, by go_num, by rw [HE.out, HINS.out]; exact (HR11.out.lower (by have := HB9.out.size; have := HBF.out.size; omega)), HBF.out.trans ((HB9.out.trans (HB11.out.mono HB9.out.size)).mono HBF.out.size)⟩
                    case measure => simp [intOf]; omega
              · have hj2 : j = n3 := by omega
                subst hj2
                have hins := at_split (c := (m1, m2)) out j (by rw [← HN3.out]; exact hj) hpre (fun y hy => by rw [List.getElem?_eq_none (by rw [← HN3.out]; omega)] at hy; cases hy)
                have HINS := Lib.hid hins
                have hjn2 : ¬ (j : Int) < (j : Int) := by omega
                clear hpre hins hm7 hjn
                have hdr := (Below.refl wr.heap.size wr).drew
                go_wp2_with fail
                refine wp_region_noPanic ?_
                refine region_ord (S := fun w' => w'.cell? ⟨gc, 0, none⟩ = some (.int .u64 (m1 : Nat)) ∧ w'.cell? ⟨gc, 1, none⟩ = some (.int .u64 (m2 : Nat))) [0, 1, 2, 3, 4, 5, 6, 7, 8, 9, 10, 11, 12] (by kernel_rfl) (by decide +kernel) (fun _ _ _ _ _ h => h) (⟨q0, q1⟩) (fun _ => ?_)
                repeat (first
                  | (refine ord_skip rfl rfl rfl ?_; (try simp only [Act.put, List.setIfInBounds_toArray, List.set_cons_zero, List.set_cons_succ]))
                  | (refine' ord_light (v := _) rfl rfl rfl (fun w' hSw => ?_) ?_; rotate_left; (focus ((try dsimp only at hSw); go_simp <;> (with_reducible rfl))); (try simp only [Act.put, List.setIfInBounds_toArray, List.set_cons_zero, List.set_cons_succ]))
                  | (refine ord_heavy rfl rfl (fun K hK => ?_); go_simp; (try go_wp2_with fail); refine hK.out _ _ (⟨q0, q1⟩) ?_; clear hK K; (try simp only [Act.put, List.setIfInBounds_toArray, List.set_cons_zero, List.set_cons_succ])))
                refine ord_nil (NoPanic.normal ?_)
                have hT := hcur.trans (hdr.mono hcur.size)
                have hms9 := HMS.out.below hT
                have hA9 := HA5.out.below hT
                clear hcur hdr q0 q1 hA7
                go_upto_region 17 with fail
                obtain ⟨W9, hW9⟩ : ∃ W9, wr.drew = W9 := ⟨_, rfl⟩
                rw [hW9] at hms9 hT hA9 ⊢
                clear hW9
                rcases hsl2 with ⟨rfl, rfl, rfl⟩ | ⟨b7, o7, rfl⟩
                · have hdrop : Ms W9 none 0 0 (out.drop 0) := ms_empty (show Ms W9 none 0 0 (out.drop 0) from hms9) _ rfl
                  have htake := Ms.pre hms9 hj
                  have hd2 := (Below.refl W9.heap.size W9).drew
                  have hone := mo_one W9.drew W9.heap.size (m1, m2) (Nat.le_refl _) HC.out
                  have hal := hd2.alloc (Nat.le_refl _) (.cells #[.int .u64 (m1 : Nat), .int .u64 (m2 : Nat)] 28)
                  replace hdrop := hdrop.below hal
                  have hA10 := hA9.below hal
                  have z0 := (hA9.below hd2).at.1
                  have z1 := (hA9.below hd2).at.2.1
                  have hln : ([(m1, m2)] : List Mc).length + 0 ≤ 1000000000 := by simp only [List.length_cons, List.length_nil]; omega
                  refine wp_region_noPanic ?_
                  refine R2.region_ord (S := fun w' => w'.cell? ⟨gc, 0, none⟩ = some (.int .u64 (m1 : Nat)) ∧ w'.cell? ⟨gc, 1, none⟩ = some (.int .u64 (m2 : Nat))) [0, 2, 3, 4, 1, 5, 6] (by kernel_rfl) (by decide +kernel) (fun _ _ _ _ _ h => h) (⟨z0, z1⟩) (fun _ => ?_)
                  refine' R2.ord_light (v := _) rfl rfl rfl (fun w' hSw => ?_) ?_; rotate_left; (focus ((try dsimp only at hSw); go_simp <;> (with_reducible rfl))); (try simp only [Act.put, List.setIfInBounds_toArray, List.set_cons_zero, List.set_cons_succ])
                  refine' R2.ord_light (v := _) rfl rfl rfl (fun w' hSw => ?_) ?_; rotate_left; (focus ((try dsimp only at hSw); go_simp <;> (with_reducible rfl))); (try simp only [Act.put, List.setIfInBounds_toArray, List.set_cons_zero, List.set_cons_succ])
                  refine' R2.ord_light (v := _) rfl rfl rfl (fun w' hSw => ?_) ?_; rotate_left; (focus ((try dsimp only at hSw); go_simp <;> (with_reducible rfl))); (try simp only [Act.put, List.setIfInBounds_toArray, List.set_cons_zero, List.set_cons_succ])
                  refine' R2.ord_light (v := _) rfl rfl rfl (fun w' hSw => ?_) ?_; rotate_left; (focus ((try dsimp only at hSw); go_simp <;> (with_reducible rfl))); (try simp only [Act.put, List.setIfInBounds_toArray, List.set_cons_zero, List.set_cons_succ])
                  refine R2.ord_heavy rfl rfl (fun K hK => ?_); go_simp; (try go_wp2_with fail); refine hK.out _ _ (⟨hA10.at.1, hA10.at.2.1⟩) ?_; clear hK K; (try simp only [Act.put, List.setIfInBounds_toArray, List.set_cons_zero, List.set_cons_succ])
                  refine R2.ord_heavy rfl rfl (fun K hK => ?_); rw [if_pos (by rfl)]; refine wp_append_mo (.tmp 64) (.tmp 67) rfl W9.heap.size _ [(m1, m2)] rfl hone none 0 0 (out.drop 0) rfl hdrop hln (by simp) ?_
                  rintro v8 w8 hr8 hg8
                  have hB8 : Below W9.heap.size W9 w8 := hal.grown hg8 (by simp) (fun b hb => by cases hb; exact Nat.le_refl _)
                  obtain ⟨a8, n8, c8, rfl, hn8, hms8⟩ := hr8.dn
                  have HM8 := Lib.hid hms8
                  have hn8b : n8 ≤ 9 := by rw [hn8, List.length_append, List.length_drop]; simp only [List.length_cons, List.length_nil]; omega
                  clear hn8 hms8
                  have hA11 := hA9.below hB8
                  refine hK.out _ _ (⟨hA11.at.1, hA11.at.2.1⟩) ?_; clear hK K; (try simp only [Act.put, List.setIfInBounds_toArray, List.set_cons_zero, List.set_cons_succ])
                  refine' R2.ord_light (v := _) rfl rfl rfl (fun w' hSw => ?_) ?_; rotate_left; (focus ((try dsimp only at hSw); go_simp <;> (with_reducible rfl))); (try simp only [Act.put, List.setIfInBounds_toArray, List.set_cons_zero, List.set_cons_succ])
                  refine R2.ord_nil (NoPanic.normal ?_)
                  have hemp := mo_empty w8
                  have hal8 := (Below.refl w8.heap.size w8).alloc (Nat.le_refl _) (.cells #[] 28)
                  have htk8 := (htake.below hB8).below hal8
                  have HEMP := Lib.hid hemp
                  have HTK8 := Lib.hid htk8
                  have HAL8 := Lib.hid hal8
                  have HB9 := Lib.hid (hT.trans (hB8.mono hT.size))
                  have htl : (out.take 0).length ≤ 8 := by rw [List.length_take]; omega
                  clear z0 z1 hA9 hA10 hA11 hal hone hdrop htake hd2 hms9 hr8 hg8 hemp hal8 htk8 hT hB8
                  go_wp2_with (first
                    | (at_builtin; refine wpList_append_mo rfl (.tmp 69) (.tmp 72) rfl w8.heap.size _ [] rfl HEMP.out _ _ _ (out.take 0) rfl HTK8.out (by simp only [List.length_nil]; omega) (by simp) ?_; intro v10 w10 hr10 hg10; have HB10 := Lib.hid (HAL8.out.grown hg10 (by simp) (fun b hb => by cases hb; exact Nat.le_refl _)); have HR10 := Lib.hid hr10; have HM10 := Lib.hid (HM8.out.below HB10.out); clear hr10 hg10)
                    | (at_builtin; refine wpList_append_mo rfl (.tmp 73) (.tmp 74) rfl w8.heap.size _ ([] ++ out.take 0) rfl HR10.out a8 n8 c8 ([(m1, m2)] ++ out.drop 0) rfl HM10.out (by simp only [List.nil_append]; omega) HB10.out.size ?_; intro v11 w11 hr11 hg11; have HB11 := Lib.hid (HB10.out.grown hg11 HB10.out.size (fun b hb => (HR10.out.lt b hb).1)); have HR11 := Lib.hid hr11; clear hr11 hg11))
                  go_roundw
                  case rel => exact ⟨i + 1, by omega, by go_num, by rw [HE.out, HINS.out]; exact (HR11.out.lower (by have := HB9.out.size; have := HBF.out.size; omega)), HBF.out.trans ((HB9.out.trans (HB11.out.mono HB9.out.size)).mono HBF.out.size)⟩
                  case measure => simp [intOf]; omega
                · by_cases hcj : c3 = j
                  · have hcj2 := hcj.symm
                    clear hcj
                    subst hcj2
                    have hdrop : Ms W9 (some ⟨b7, o7, none⟩) 0 0 (out.drop j) := ms_empty (Ms.suf hms9 hj) _ (by omega)
                    have htake := Ms.pre hms9 hj
                    have hd2 := (Below.refl W9.heap.size W9).drew
                    have hone := mo_one W9.drew W9.heap.size (m1, m2) (Nat.le_refl _) HC.out
                    have hal := hd2.alloc (Nat.le_refl _) (.cells #[.int .u64 (m1 : Nat), .int .u64 (m2 : Nat)] 28)
                    replace hdrop := hdrop.below hal
                    have hA10 := hA9.below hal
                    have z0 := (hA9.below hd2).at.1
                    have z1 := (hA9.below hd2).at.2.1
                    have hln : ([(m1, m2)] : List Mc).length + 0 ≤ 1000000000 := by simp only [List.length_cons, List.length_nil]; omega
                    refine wp_region_noPanic ?_
                    refine R2.region_ord (S := fun w' => w'.cell? ⟨gc, 0, none⟩ = some (.int .u64 (m1 : Nat)) ∧ w'.cell? ⟨gc, 1, none⟩ = some (.int .u64 (m2 : Nat))) [0, 2, 3, 4, 1, 5, 6] (by kernel_rfl) (by decide +kernel) (fun _ _ _ _ _ h => h) (⟨z0, z1⟩) (fun _ => ?_)
                    refine' R2.ord_light (v := _) rfl rfl rfl (fun w' hSw => ?_) ?_; rotate_left; (focus ((try dsimp only at hSw); go_simp <;> (with_reducible rfl))); (try simp only [Act.put, List.setIfInBounds_toArray, List.set_cons_zero, List.set_cons_succ])
                    refine' R2.ord_light (v := _) rfl rfl rfl (fun w' hSw => ?_) ?_; rotate_left; (focus ((try dsimp only at hSw); go_simp <;> (with_reducible rfl))); (try simp only [Act.put, List.setIfInBounds_toArray, List.set_cons_zero, List.set_cons_succ])
                    refine' R2.ord_light (v := _) rfl rfl rfl (fun w' hSw => ?_) ?_; rotate_left; (focus ((try dsimp only at hSw); go_simp <;> (with_reducible rfl))); (try simp only [Act.put, List.setIfInBounds_toArray, List.set_cons_zero, List.set_cons_succ])
                    refine' R2.ord_light (v := _) rfl rfl rfl (fun w' hSw => ?_) ?_; rotate_left; (focus ((try dsimp only at hSw); go_simp <;> (with_reducible rfl))); (try simp only [Act.put, List.setIfInBounds_toArray, List.set_cons_zero, List.set_cons_succ])
                    refine R2.ord_heavy rfl rfl (fun K hK => ?_); go_simp; (try go_wp2_with fail); refine hK.out _ _ (⟨hA10.at.1, hA10.at.2.1⟩) ?_; clear hK K; (try simp only [Act.put, List.setIfInBounds_toArray, List.set_cons_zero, List.set_cons_succ])
                    refine R2.ord_heavy rfl rfl (fun K hK => ?_); rw [if_pos (by rfl)]; refine wp_append_mo (.tmp 64) (.tmp 67) rfl W9.heap.size _ [(m1, m2)] rfl hone (some ⟨b7, o7, none⟩) 0 0 (out.drop j) rfl hdrop hln (by simp) ?_
                    rintro v8 w8 hr8 hg8
                    have hB8 : Below W9.heap.size W9 w8 := hal.grown hg8 (by simp) (fun b hb => by cases hb; exact Nat.le_refl _)
                    obtain ⟨a8, n8, c8, rfl, hn8, hms8⟩ := hr8.dn
                    have HM8 := Lib.hid hms8
                    have hn8b : n8 ≤ 9 := by rw [hn8, List.length_append, List.length_drop]; simp only [List.length_cons, List.length_nil]; omega
                    clear hn8 hms8
                    have hA11 := hA9.below hB8
                    refine hK.out _ _ (⟨hA11.at.1, hA11.at.2.1⟩) ?_; clear hK K; (try simp only [Act.put, List.setIfInBounds_toArray, List.set_cons_zero, List.set_cons_succ])
                    refine' R2.ord_light (v := _) rfl rfl rfl (fun w' hSw => ?_) ?_; rotate_left; (focus ((try dsimp only at hSw); go_simp <;> (with_reducible rfl))); (try simp only [Act.put, List.setIfInBounds_toArray, List.set_cons_zero, List.set_cons_succ])
                    refine R2.ord_nil (NoPanic.normal ?_)
                    have hemp := mo_empty w8
                    have hal8 := (Below.refl w8.heap.size w8).alloc (Nat.le_refl _) (.cells #[] 28)
                    have htk8 := (htake.below hB8).below hal8
                    have HEMP := Lib.hid hemp
                    have HTK8 := Lib.hid htk8
                    have HAL8 := Lib.hid hal8
                    have HB9 := Lib.hid (hT.trans (hB8.mono hT.size))
                    have htl : (out.take j).length ≤ 8 := by rw [List.length_take]; omega
                    clear z0 z1 hA9 hA10 hA11 hal hone hdrop htake hd2 hms9 hr8 hg8 hemp hal8 htk8 hT hB8
                    go_wp2_with (first
                      | (at_builtin; refine wpList_append_mo rfl (.tmp 69) (.tmp 72) rfl w8.heap.size _ [] rfl HEMP.out _ _ _ (out.take j) rfl HTK8.out (by simp only [List.length_nil]; omega) (by simp) ?_; intro v10 w10 hr10 hg10; have HB10 := Lib.hid (HAL8.out.grown hg10 (by simp) (fun b hb => by cases hb; exact Nat.le_refl _)); have HR10 := Lib.hid hr10; have HM10 := Lib.hid (HM8.out.below HB10.out); clear hr10 hg10)
                      | (at_builtin; refine wpList_append_mo rfl (.tmp 73) (.tmp 74) rfl w8.heap.size _ ([] ++ out.take j) rfl HR10.out a8 n8 c8 ([(m1, m2)] ++ out.drop j) rfl HM10.out (by simp only [List.nil_append]; omega) HB10.out.size ?_; intro v11 w11 hr11 hg11; have HB11 := Lib.hid (HB10.out.grown hg11 HB10.out.size (fun b hb => (HR10.out.lt b hb).1)); have HR11 := Lib.hid hr11; clear hr11 hg11))
                    go_roundw
                    case rel => exact ⟨i + 1, by omega, by go_num, by rw [HE.out, HINS.out]; exact (HR11.out.lower (by have := HB9.out.size; have := HBF.out.size; omega)), HBF.out.trans ((HB9.out.trans (HB11.out.mono HB9.out.size)).mono HBF.out.size)⟩
                    case measure => simp [intOf]; omega
                  · have hdrop : Ms W9 (some ⟨b7, o7 + j * 2, none⟩) 0 (c3 - j) (out.drop j) := by have := Ms.suf hms9 hj; rwa [Nat.sub_self] at this
                    have htake := Ms.pre hms9 hj
                    have hd2 := (Below.refl W9.heap.size W9).drew
                    have hone := mo_one W9.drew W9.heap.size (m1, m2) (Nat.le_refl _) HC.out
                    have hal := hd2.alloc (Nat.le_refl _) (.cells #[.int .u64 (m1 : Nat), .int .u64 (m2 : Nat)] 28)
                    replace hdrop := hdrop.below hal
                    have hA10 := hA9.below hal
                    have z0 := (hA9.below hd2).at.1
                    have z1 := (hA9.below hd2).at.2.1
                    have hln : ([(m1, m2)] : List Mc).length + 0 ≤ 1000000000 := by simp only [List.length_cons, List.length_nil]; omega
                    refine wp_region_noPanic ?_
                    refine R2.region_ord (S := fun w' => w'.cell? ⟨gc, 0, none⟩ = some (.int .u64 (m1 : Nat)) ∧ w'.cell? ⟨gc, 1, none⟩ = some (.int .u64 (m2 : Nat))) [0, 2, 3, 4, 1, 5, 6] (by kernel_rfl) (by decide +kernel) (fun _ _ _ _ _ h => h) (⟨z0, z1⟩) (fun _ => ?_)
                    refine' R2.ord_light (v := _) rfl rfl rfl (fun w' hSw => ?_) ?_; rotate_left; (focus ((try dsimp only at hSw); go_simp <;> (with_reducible rfl))); (try simp only [Act.put, List.setIfInBounds_toArray, List.set_cons_zero, List.set_cons_succ])
                    refine' R2.ord_light (v := _) rfl rfl rfl (fun w' hSw => ?_) ?_; rotate_left; (focus ((try dsimp only at hSw); go_simp <;> (with_reducible rfl))); (try simp only [Act.put, List.setIfInBounds_toArray, List.set_cons_zero, List.set_cons_succ])
                    refine' R2.ord_light (v := _) rfl rfl rfl (fun w' hSw => ?_) ?_; rotate_left; (focus ((try dsimp only at hSw); go_simp <;> (with_reducible rfl))); (try simp only [Act.put, List.setIfInBounds_toArray, List.set_cons_zero, List.set_cons_succ])
                    refine' R2.ord_light (v := _) rfl rfl rfl (fun w' hSw => ?_) ?_; rotate_left; (focus ((try dsimp only at hSw); go_simp <;> (with_reducible rfl))); (try simp only [Act.put, List.setIfInBounds_toArray, List.set_cons_zero, List.set_cons_succ])
                    refine R2.ord_heavy rfl rfl (fun K hK => ?_); go_simp; (try go_wp2_with fail); refine hK.out _ _ (⟨hA10.at.1, hA10.at.2.1⟩) ?_; clear hK K; (try simp only [Act.put, List.setIfInBounds_toArray, List.set_cons_zero, List.set_cons_succ])
                    refine R2.ord_heavy rfl rfl (fun K hK => ?_); rw [if_pos (by rfl)]; refine wp_append_mo (.tmp 64) (.tmp 67) rfl W9.heap.size _ [(m1, m2)] rfl hone (some ⟨b7, o7 + j * 2, none⟩) 0 (c3 - j) (out.drop j) rfl hdrop hln (by simp) ?_
                    rintro v8 w8 hr8 hg8
                    have hB8 : Below W9.heap.size W9 w8 := hal.grown hg8 (by simp) (fun b hb => by cases hb; exact Nat.le_refl _)
                    obtain ⟨a8, n8, c8, rfl, hn8, hms8⟩ := hr8.dn
                    have HM8 := Lib.hid hms8
                    have hn8b : n8 ≤ 9 := by rw [hn8, List.length_append, List.length_drop]; simp only [List.length_cons, List.length_nil]; omega
                    clear hn8 hms8
                    have hA11 := hA9.below hB8
                    refine hK.out _ _ (⟨hA11.at.1, hA11.at.2.1⟩) ?_; clear hK K; (try simp only [Act.put, List.setIfInBounds_toArray, List.set_cons_zero, List.set_cons_succ])
                    refine' R2.ord_light (v := _) rfl rfl rfl (fun w' hSw => ?_) ?_; rotate_left; (focus ((try dsimp only at hSw); go_simp <;> (with_reducible rfl))); (try simp only [Act.put, List.setIfInBounds_toArray, List.set_cons_zero, List.set_cons_succ])
                    refine R2.ord_nil (NoPanic.normal ?_)
                    have hemp := mo_empty w8
                    have hal8 := (Below.refl w8.heap.size w8).alloc (Nat.le_refl _) (.cells #[] 28)
                    have htk8 := (htake.below hB8).below hal8
                    have HEMP := Lib.hid hemp
                    have HTK8 := Lib.hid htk8
                    have HAL8 := Lib.hid hal8
                    have HB9 := Lib.hid (hT.trans (hB8.mono hT.size))
                    have htl : (out.take j).length ≤ 8 := by rw [List.length_take]; omega
                    clear z0 z1 hA9 hA10 hA11 hal hone hdrop htake hd2 hms9 hr8 hg8 hemp hal8 htk8 hT hB8
                    go_wp2_with (first
                      | (at_builtin; refine wpList_append_mo rfl (.tmp 69) (.tmp 72) rfl w8.heap.size _ [] rfl HEMP.out _ _ _ (out.take j) rfl HTK8.out (by simp only [List.length_nil]; omega) (by simp) ?_; intro v10 w10 hr10 hg10; have HB10 := Lib.hid (HAL8.out.grown hg10 (by simp) (fun b hb => by cases hb; exact Nat.le_refl _)); have HR10 := Lib.hid hr10; have HM10 := Lib.hid (HM8.out.below HB10.out); clear hr10 hg10)
                      | (at_builtin; refine wpList_append_mo rfl (.tmp 73) (.tmp 74) rfl w8.heap.size _ ([] ++ out.take j) rfl HR10.out a8 n8 c8 ([(m1, m2)] ++ out.drop j) rfl HM10.out (by simp only [List.nil_append]; omega) HB10.out.size ?_; intro v11 w11 hr11 hg11; have HB11 := Lib.hid (HB10.out.grown hg11 HB10.out.size (fun b hb => (HR10.out.lt b hb).1)); have HR11 := Lib.hid hr11; clear hr11 hg11))
                    go_roundw
                    case rel => exact ⟨i + 1, by omega, by go_num, by rw [HE.out, HINS.out]; exact (HR11.out.lower (by have := HB9.out.size; have := HBF.out.size; omega)), HBF.out.trans ((HB9.out.trans (HB11.out.mono HB9.out.size)).mono HBF.out.size)⟩
                    case measure => simp [intOf]; omega
    · have hin2 : i = n := by omega
      subst hin2
      have HF : Hid (Mo wr w.heap.size u3 (simpN l l.length)) := by rw [HL.out]; exact hmo
      have HBF := Lib.hid hB
      clear hmo hB
      go_wp2_with fail
      go_ret
      exact ⟨_, rfl, HF.out, HBF.out⟩
end Go.Proofs.YtadomogbakcokaaGreatDoor
