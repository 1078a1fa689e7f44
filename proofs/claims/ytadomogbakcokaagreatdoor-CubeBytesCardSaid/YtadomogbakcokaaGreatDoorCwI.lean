/- Contracts: the reference's text of a cube. -/
import Derived.Test.YtadomogbakcokaaGreatDoorCwH
namespace Go.Proofs.YtadomogbakcokaaGreatDoor
open Go.RowKit Go.PlainAid
set_option linter.unusedVariables false
set_option linter.unusedSimpArgs false
set_option maxHeartbeats 4000000
set_option maxRecDepth 20000

def litA (m r : Nat) : List (List UInt8) := if m.testBit r then [Lib.decDigits r] else []
def litN1 (m r : Nat) : List (List UInt8) := if m.testBit r then [33 :: Lib.decDigits r] else []
/-- The first k kinds of literals of the role r. -/
def litK (m1 m2 r : Nat) : Nat → List (List UInt8)
  | 0 => []
  | 1 => litA m1 r
  | _ => litA m1 r ++ litN1 m2 r
def litsR (m1 m2 n : Nat) : List (List UInt8) := (List.range n).flatMap fun r => litA m1 r ++ litN1 m2 r
/-- The text so far. -/
def TX (m1 m2 r k : Nat) : List UInt8 := Lib.join (litsR m1 m2 r ++ litK m1 m2 r k) [32]
theorem litsR_succ (m1 m2 r : Nat) : litsR m1 m2 (r + 1) = litsR m1 m2 r ++ litK m1 m2 r 2 := by
  unfold litsR
  rw [List.range_succ, List.flatMap_append]; simp [litK]
theorem TX_next (m1 m2 r : Nat) : TX m1 m2 r 2 = TX m1 m2 (r + 1) 0 := by
  unfold TX
  rw [litsR_succ]; simp [litK]
theorem litA_small {m r : Nat} (hr : r < 64) : ∀ s ∈ litA m r, s ≠ [] ∧ s.length ≤ 5 := by
  intro s hs
  have h4 := (dec_small r (by omega)).2
  unfold litA at hs
  split at hs
  · cases List.mem_singleton.1 hs; exact ⟨dec_ne r, by omega⟩
  · cases hs
theorem litN1_small {m r : Nat} (hr : r < 64) : ∀ s ∈ litN1 m r, s ≠ [] ∧ s.length ≤ 5 := by
  intro s hs
  have h4 := (dec_small r (by omega)).2
  unfold litN1 at hs
  split at hs
  · cases List.mem_singleton.1 hs; exact ⟨by simp, by rw [List.length_cons]; omega⟩
  · cases hs
theorem litK_small {m1 m2 r : Nat} (hr : r < 64) : ∀ k, ∀ s ∈ litK m1 m2 r k, s ≠ [] ∧ s.length ≤ 5
  | 0, s, hs => by simp [litK] at hs
  | 1, s, hs => litA_small hr s hs
  | k + 2, s, hs => by
    rcases List.mem_append.1 (show s ∈ litA m1 r ++ litN1 m2 r from hs) with h | h
    · exact litA_small hr s h
    · exact litN1_small hr s h
theorem litsR_small {m1 m2 n : Nat} (hn : n ≤ 64) : ∀ s ∈ litsR m1 m2 n, s ≠ [] ∧ s.length ≤ 5 := by
  intro s hs
  obtain ⟨r, hr, hs⟩ := List.mem_flatMap.1 hs
  have hr := List.mem_range.1 hr
  exact litK_small (m1 := m1) (m2 := m2) (r := r) (by omega) 2 s hs
theorem litK_len (m1 m2 r k : Nat) : (litK m1 m2 r k).length ≤ 2 := by
  have hA : (litA m1 r).length ≤ 1 := by unfold litA; split <;> simp
  have hB : (litN1 m2 r).length ≤ 1 := by unfold litN1; split <;> simp
  match k with
  | 0 => exact Nat.zero_le _
  | 1 => exact Nat.le_trans hA (by omega)
  | k + 2 =>
    show (litA m1 r ++ litN1 m2 r).length ≤ 2
    rw [List.length_append]; omega
theorem litsR_len (m1 m2 : Nat) : ∀ n, (litsR m1 m2 n).length ≤ 2 * n
  | 0 => by simp [litsR]
  | n + 1 => by
    rw [litsR_succ, List.length_append]
    have := litsR_len m1 m2 n
    have := litK_len m1 m2 n 2
    omega
theorem TX_small {m1 m2 r k : Nat} (hr : r ≤ 64) (hk : k = 0 ∨ r < 64) : (TX m1 m2 r k).length ≤ 1000 := by
  have h1 := inter_len (litsR m1 m2 r ++ litK m1 m2 r k) (fun s hs => by
    rcases List.mem_append.1 hs with h | h
    · exact (litsR_small hr s h).2
    · rcases hk with rfl | hk
      · simp [litK] at h
      · exact (litK_small hk k s h).2)
  have h2 := litsR_len m1 m2 r
  have h3 := litK_len m1 m2 r k
  rw [List.length_append] at h1
  show (((litsR m1 m2 r ++ litK m1 m2 r k).intersperse [32]).flatten).length ≤ _
  omega
theorem join_snoc (L : List (List UInt8)) (x : List UInt8) (hx : ∀ v ∈ L, v ≠ []) : Lib.join (L ++ [x]) [32] = if Lib.join L [32] = [] then x else Lib.join L [32] ++ [32] ++ x := by
  cases L with
  | nil => simp [Lib.join]
  | cons w ws =>
    have e1 : Lib.join (w :: ws) [32] = w ++ ws.flatMap (32 :: ·) := inter_words w ws
    have e2 : Lib.join (w :: (ws ++ [x])) [32] = w ++ (ws ++ [x]).flatMap (32 :: ·) := inter_words w _
    rw [List.cons_append, e1, e2, if_neg (by
      intro e
      exact hx w (by simp) (List.append_eq_nil_iff.1 e).1)]
    simp
def mK (m1 m2 k : Nat) : Nat := if k = 0 then m1 else m2
def bangK (k : Nat) : List UInt8 := if k = 1 then [33] else []
theorem TX_skip {m1 m2 r k : Nat} (hk : k < 2) (h : (mK m1 m2 k).testBit r = false) : TX m1 m2 r (k + 1) = TX m1 m2 r k := by
  match k, hk with
  | 0, _ => simp [mK] at h; simp [TX, litK, litA, h]
  | 1, _ => simp [mK] at h; simp [TX, litK, litN1, h]
theorem TX_put {m1 m2 r k : Nat} (hr : r < 64) (hk : k < 2) (h : (mK m1 m2 k).testBit r = true) : TX m1 m2 r (k + 1) = if TX m1 m2 r k = [] then bangK k ++ Lib.decDigits r else TX m1 m2 r k ++ [32] ++ (bangK k ++ Lib.decDigits r) := by
  have key : litsR m1 m2 r ++ litK m1 m2 r (k + 1) = (litsR m1 m2 r ++ litK m1 m2 r k) ++ [bangK k ++ Lib.decDigits r] := by
    match k, hk with
    | 0, _ => simp [mK] at h; simp [litK, litA, h, bangK]
    | 1, _ => simp [mK] at h; simp [litK, litN1, h, bangK]
  unfold TX
  rw [key]
  exact join_snoc _ _ (fun v hv => by
    rcases List.mem_append.1 hv with h | h
    · exact (litsR_small (by omega) v h).1
    · exact (litK_small hr k v h).1)
theorem flat_filter {f g : Nat → List (List UInt8)} {p : Nat → Bool} : ∀ l : List Nat, (∀ r ∈ l, p r = true → f r = g r) → (∀ r ∈ l, p r = false → g r = []) → (l.filter p).flatMap f = l.flatMap g
  | [], _, _ => rfl
  | r :: l, h1, h2 => by
    have ih := flat_filter l (fun x hx => h1 x (by simp [hx])) (fun x hx => h2 x (by simp [hx]))
    cases hp : p r with
    | true => rw [List.filter_cons_of_pos hp, List.flatMap_cons, List.flatMap_cons, ih, h1 r (by simp) hp]
    | false => rw [List.filter_cons_of_neg (by simp [hp]), List.flatMap_cons, ih, h2 r (by simp) hp]; rfl
theorem litsR_all (m1 m2 : Nat) : litsR m1 m2 64 = litsC (cuM (m1, m2)) := by
  unfold litsC litsR
  show _ = (orL (bitsL m1) (bitsL m2)).flatMap (litB (bitsL m1, bitsL m2))
  rw [or_bits]
  unfold bitsL
  refine (flat_filter _ (fun r hr hp => ?_) (fun r hr hp => ?_)).symm
  · have hr := List.mem_range.1 hr
    have e1 : decide (r ∈ (List.range 64).filter m1.testBit) = m1.testBit r := dec_bits hr
    have e2 : decide (r ∈ (List.range 64).filter m2.testBit) = m2.testBit r := dec_bits hr
    unfold litB litA litN1 inB
    dsimp only
    rw [e1, e2]
  · rw [Nat.testBit_or, Bool.or_eq_false_iff] at hp
    unfold litA litN1
    rw [hp.1, hp.2]; rfl
theorem TX_all (m1 m2 : Nat) : textC (cuM (m1, m2)) = if TX m1 m2 64 0 = [] then [102, 117, 108, 108] else TX m1 m2 64 0 := by
  have e : TX m1 m2 64 0 = Lib.join (litsC (cuM (m1, m2))) [32] := by
    unfold TX
    rw [litsR_all]; simp [litK]
  rw [e]
  unfold textC
  by_cases h : litsC (cuM (m1, m2)) = []
  · rw [if_pos h, h, if_pos (by rfl)]
  · rw [if_neg h, if_neg]
    obtain ⟨w, ws, ew⟩ := List.exists_cons_of_ne_nil h
    have hw := (lits_word (x := cuM (m1, m2)) w (by rw [ew]; simp)).1
    rw [ew, show Lib.join (w :: ws) [32] = w ++ ws.flatMap (32 :: ·) from inter_words w ws]
    intro e2
    exact hw (List.append_eq_nil_iff.1 e2).1
theorem mK_cell {W : World} {g m1 m2 k : Nat} {T : TypeId} (h : At2T W g (.int .u64 (m1 : Nat)) (.int .u64 (m2 : Nat)) T) (hk : k < 2) : W.cell? ⟨g, k, none⟩ = some (.int .u64 (mK m1 m2 k : Nat)) := by
  match k, hk with
  | 0, _ => exact h.at.1
  | 1, _ => exact h.at.2.1
theorem reftext_any (m1 m2 : Nat) (hm : McOk (m1, m2)) (w : World) :
    Calls Tryz.prog 57 #[.agg #[.int .u64 (m1 : Nat), .int .u64 (m2 : Nat)]] w fun e w' => e = .returned (.string ⟨(textC (cuM (m1, m2))).toArray⟩) ∧ Below w.heap.size w w' := by
  have HM := Lib.hid hm
  clear hm
  go_enter Tryz.func57, Tryz.ntmps57
  go_upto_region 3 with fail
  obtain ⟨W1, hW1⟩ : ∃ W1, w.alloc (.cells #[.int .u64 (m1 : Nat), .int .u64 (m2 : Nat)] 28) = W1 := ⟨_, rfl⟩
  have hA : At2T W1 w.heap.size (.int .u64 (m1 : Nat)) (.int .u64 (m2 : Nat)) 28 := by rw [← hW1]; exact At2T.new _ _ _ _
  have hBW : Below w.heap.size w W1 := by rw [← hW1]; exact (Below.refl _ _).alloc (Nat.le_refl _) _
  rw [hW1]
  have HA := Lib.hid hA
  have HBW := Lib.hid hBW
  clear hW1 hA hBW
  obtain ⟨g, eg⟩ : ∃ g, w.heap.size = g := ⟨_, rfl⟩
  rw [eg] at HA ⊢
  have HG : Hid (g < W1.heap.size) := HA.out.lt
  have HEG := Lib.hid eg
  clear eg
  go_loopw [3, 4] (fun v3 v4 wr => ∃ (r : Nat) (s : ByteArray), r ≤ 64 ∧ v4 = .int .i64 r ∧ v3 = .string s ∧ Hid (s = ⟨(TX m1 m2 r 0).toArray⟩) ∧ Below W1.heap.size W1 wr) (fun _ v _ => 64 - (intOf v).toNat)
  case atStart => exact ⟨0, _, by omega, rfl, rfl, rfl, Below.refl _ _⟩
  case round =>
    obtain ⟨r, s, hr, rfl, rfl, HS, hbel⟩ := hrel
    have hzr := hbel.size
    by_cases hlt : r < 64
    · have hA := HA.out.below hbel
      have q0 := hA.at.1
      have q1 := hA.at.2.1
      have HBEL := Lib.hid hbel
      have hj0 : (0 : Int) ≤ (r : Int) := Int.natCast_nonneg _
      have hj1 : (r : Int) < 64 := by omega
      clear hA hbel
      go_upto_region 6 with fail
      obtain ⟨W2, hW2⟩ : ∃ W2, wr.alloc (.cells #[.int .u64 (m1 : Nat), .int .u64 (m2 : Nat)] 23) = W2 := ⟨_, rfl⟩
      have hA2 : At2T W2 wr.heap.size (.int .u64 (m1 : Nat)) (.int .u64 (m2 : Nat)) 23 := by rw [← hW2]; exact At2T.new _ _ _ _
      have hb2 : Below W1.heap.size W1 W2 := by rw [← hW2]; exact HBEL.out.alloc hzr _
      rw [hW2]
      have HA2 := Lib.hid hA2
      have HB2 := Lib.hid hb2
      clear hW2 hA2 hb2 q0 q1
      generalize wr.heap.size = g2 at HA2 ⊢
      have HG2 : Hid (g2 < W2.heap.size) := HA2.out.lt
      go_loopw [3, 17] (fun v3 v17 wq => ∃ (k : Nat) (s : ByteArray), k ≤ 2 ∧ v17 = .int .i64 k ∧ v3 = .string s ∧ Hid (s = ⟨(TX m1 m2 r k).toArray⟩) ∧ Below W2.heap.size W2 wq) (fun _ v _ => 2 - (intOf v).toNat)
      case atStart => exact ⟨0, _, by omega, rfl, rfl, HS, Below.refl _ _⟩
      case round =>
        obtain ⟨k, s, hk, rfl, rfl, HS, hbel⟩ := hrel
        have hzq := hbel.size
        by_cases hk2 : k < 2
        · have hA3 := HA2.out.below hbel
          have hbl := hA3.lt
          have hc := mK_cell hA3 hk2
          have HB3 := Lib.hid hbel
          have hi0 : (0 : Int) ≤ (k : Int) := Int.natCast_nonneg _
          have hi1 : (k : Int) < 2 := by omega
          have hbit := shr_bit (mK m1 m2 k) r
          have hsz : s.size ≤ 1000 := by rw [HS.out, size_mk]; exact TX_small (by omega) (.inr hlt)
          have HSK := Lib.hid (TX_skip (m1 := m1) (m2 := m2) (r := r) hk2)
          have HPT := Lib.hid (TX_put (m1 := m1) (m2 := m2) hlt hk2)
          generalize mK m1 m2 k = m at hc hbit HSK HPT
          clear hA3 hbel
          cases hb : m.testBit r
          · have HT := HSK.out hb
            rw [hb, if_neg (by decide)] at hbit
            rw [← HT] at HS
            clear HT hb
            go_wp2_with fail
            go_roundw
            case rel => exact ⟨k + 1, _, by omega, by go_num, rfl, HS, HB3.out⟩
            case measure => simp [intOf]; omega
          · have HT := Lib.hid (HPT.out hb)
            rw [hb, if_pos rfl] at hbit
            clear hb
            have hds : (⟨(Lib.decDigits r).toArray⟩ : ByteArray).size ≤ 4 := by rw [size_mk]; exact (dec_small r (by omega)).2
            obtain ⟨d, hd⟩ : ∃ d, d = (⟨(Lib.decDigits r).toArray⟩ : ByteArray) := ⟨_, rfl⟩
            rw [← hd] at hds
            have HDD := Lib.hid hd
            have HD : Hid (∀ w', Calls Tryz.prog 90 #[.int .i64 (r : Int)] w' fun e w'_1 => e = .returned (.string d) ∧ w'_1 = w') := by rw [hd]; exact fun w' => digits_any r (r : Int) w' rfl (by omega)
            have hemp : s.toList.isEmpty = decide (TX m1 m2 r k = []) := by
              rw [ByteArray.toList_eq, HS.out]
              cases TX m1 m2 r k <;> rfl
            clear hd HSK HPT
            by_cases hte : TX m1 m2 r k = []
            · rw [decide_eq_true hte] at hemp
              by_cases hk0 : k = 0
              · subst hk0
                have HR : Hid (s ++ d = ⟨(TX m1 m2 r 1).toArray⟩) := by
                  show _ = _
                  rw [HT.out, if_pos hte, HS.out, HDD.out]
                  rw [hte]
                  apply ByteArray.ext; apply Array.ext'; simp [bangK, ByteArray.data_append]
                have hsum : s.size + 1 + 1 + d.size ≤ 140737488355328 := by omega
                clear hte HT
                go_wp2_with (go_at_call 90; refine (HD.out _).mono ?_; rintro e w2 ⟨rfl, hw⟩; rw [hw]; clear hw)
                go_roundw
                case rel => exact ⟨1, _, by omega, by go_num, rfl, HR.out, HB3.out⟩
                case measure => simp [intOf]
              · obtain rfl : k = 1 := by omega
                have HR : Hid (s ++ ⟨#[33]⟩ ++ d = ⟨(TX m1 m2 r 2).toArray⟩) := by
                  show _ = _
                  rw [HT.out, if_pos hte, HS.out, HDD.out]
                  rw [hte]
                  apply ByteArray.ext; apply Array.ext'; simp [bangK, ByteArray.data_append]
                have hsum : s.size + 1 + 1 + d.size ≤ 140737488355328 := by omega
                clear hte HT
                go_wp2_with (go_at_call 90; refine (HD.out _).mono ?_; rintro e w2 ⟨rfl, hw⟩; rw [hw]; clear hw)
                go_roundw
                case rel => exact ⟨2, _, by omega, by go_num, rfl, HR.out, HB3.out⟩
                case measure => simp [intOf]
            · rw [decide_eq_false hte] at hemp
              by_cases hk0 : k = 0
              · subst hk0
                have HR : Hid (s ++ ⟨#[32]⟩ ++ d = ⟨(TX m1 m2 r 1).toArray⟩) := by
                  show _ = _
                  rw [HT.out, if_neg hte, HS.out, HDD.out]
                  apply ByteArray.ext; apply Array.ext'; simp [bangK, ByteArray.data_append]
                have hsum : s.size + 1 + 1 + d.size ≤ 140737488355328 := by omega
                clear hte HT
                go_wp2_with (go_at_call 90; refine (HD.out _).mono ?_; rintro e w2 ⟨rfl, hw⟩; rw [hw]; clear hw)
                go_roundw
                case rel => exact ⟨1, _, by omega, by go_num, rfl, HR.out, HB3.out⟩
                case measure => simp [intOf]
              · obtain rfl : k = 1 := by omega
                have HR : Hid (s ++ ⟨#[32]⟩ ++ ⟨#[33]⟩ ++ d = ⟨(TX m1 m2 r 2).toArray⟩) := by
                  show _ = _
                  rw [HT.out, if_neg hte, HS.out, HDD.out]
                  apply ByteArray.ext; apply Array.ext'; simp [bangK, ByteArray.data_append]
                have hsum : s.size + 1 + 1 + d.size ≤ 140737488355328 := by omega
                clear hte HT
                go_wp2_with (go_at_call 90; refine (HD.out _).mono ?_; rintro e w2 ⟨rfl, hw⟩; rw [hw]; clear hw)
                go_roundw
                case rel => exact ⟨2, _, by omega, by go_num, rfl, HR.out, HB3.out⟩
                case measure => simp [intOf]
        · have hkk : k = 2 := by omega
          subst hkk
          go_wp2_with fail
          go_roundw
          case rel => exact ⟨r + 1, s, by omega, by go_num, rfl, by rw [← TX_next]; exact HS, HB2.out.trans (hbel.mono HB2.out.size)⟩
          case measure => simp [intOf]; omega
    · have hr64 : r = 64 := by omega
      subst hr64
      have hemp : s.toList.isEmpty = decide (TX m1 m2 64 0 = []) := by
        rw [ByteArray.toList_eq, HS.out]
        cases TX m1 m2 64 0 <;> rfl
      have HT := Lib.hid (TX_all m1 m2)
      have HF := Lib.hid (HBW.out.trans (hbel.mono HBW.out.size))
      clear hbel
      by_cases hte : TX m1 m2 64 0 = []
      · rw [decide_eq_true hte] at hemp
        have HR : Hid (textC (cuM (m1, m2)) = [102, 117, 108, 108]) := by show _ = _; rw [HT.out, if_pos hte]
        clear hte HT
        go_wp2_with fail
        go_ret
        exact ⟨ret_string (by rw [HR.out]), HF.out⟩
      · rw [decide_eq_false hte] at hemp
        have HR : Hid (s = ⟨(textC (cuM (m1, m2))).toArray⟩) := by show _ = _; rw [HT.out, if_neg hte, HS.out]
        clear hte HT
        go_wp2_with fail
        go_ret
        exact ⟨ret_string HR.out, HF.out⟩
end Go.Proofs.YtadomogbakcokaaGreatDoor
