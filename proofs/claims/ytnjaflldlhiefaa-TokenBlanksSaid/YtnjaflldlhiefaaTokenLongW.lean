/- The walk of TokenLong: it returns true. -/
import Derived.Test.YtnjaflldlhiefaaTokenJoinsW
namespace Go.Proofs.Ytnjaflldlhiefaa
open Go.RowKit Go.PlainAid
set_option linter.unusedVariables false
set_option maxHeartbeats 2000000

theorem scan_moved : ∀ (f f' a b : Nat) (l : List UInt8), l.length < f → l.length < f' → (scanA f a l).1.map plainT = (scanA f' b l).1.map plainT ∧ (scanA f a l).2.2 = (scanA f' b l).2.2
  | 0, _, _, _, l, h, _ => by omega
  | _, 0, _, _, l, _, h => by omega
  | f + 1, f' + 1, a, b, [], _, _ => ⟨rfl, rfl⟩
  | f + 1, f' + 1, a, b, c :: r, h, h' => by
    simp only [scanA]
    cases ht : tokL (c :: r) with
    | none => exact ⟨rfl, rfl⟩
    | some x =>
      obtain ⟨kd, t, n⟩ := x
      obtain ⟨h1, h2, h3⟩ := tokL_len ht
      have hl : ((c :: r).drop (t.length + skipL false ((c :: r).drop t.length))).length = (c :: r).length - (t.length + skipL false ((c :: r).drop t.length)) := List.length_drop
      have ih := scan_moved f f' (a + (t.length + skipL false ((c :: r).drop t.length))) (b + (t.length + skipL false ((c :: r).drop t.length))) ((c :: r).drop (t.length + skipL false ((c :: r).drop t.length))) (by omega) (by omega)
      refine ⟨?_, ih.2⟩
      simp only [List.map_cons]
      rw [ih.1]
      rfl
theorem skip_rep (k : Nat) (l : List UInt8) : skipL false (List.replicate k 32 ++ l) = k + skipL false l := by
  induction k with
  | zero => simp
  | succ k ih =>
    rw [List.replicate_succ, List.cons_append]
    have : skipL false (32 :: (List.replicate k 32 ++ l)) = skipL false (List.replicate k 32 ++ l) + 1 := rfl
    rw [this, ih]; omega
theorem scanP_eq {l : List UInt8} (h : ¬ 8000 < l.length) : scanP l = if (scanR l).2.2 = 0 then scanR l else ([], (scanR l).2) := by unfold scanP; rw [if_neg h]
theorem long_law (l : List UInt8) (k : Nat) (hk : k + l.length ≤ 8000) :
    (scanP (List.replicate k 32 ++ l)).2.2 = (scanP l).2.2 ∧ (scanP (List.replicate k 32 ++ l)).1.map zt = (scanP l).1.map zt := by
  have hlen : (List.replicate k (32 : UInt8) ++ l).length = k + l.length := by simp
  have hR : scanR (List.replicate k 32 ++ l) = scanA (k + l.length + 1) (k + skipL false l) (l.drop (skipL false l)) := by
    unfold scanR
    rw [skip_rep, hlen, ← List.drop_drop, List.drop_left' (by simp)]
  have hl : (l.drop (skipL false l)).length = l.length - skipL false l := List.length_drop
  have hm := scan_moved (k + l.length + 1) (l.length + 1) (k + skipL false l) (skipL false l) (l.drop (skipL false l)) (by omega) (by omega)
  have hR2 : scanR l = scanA (l.length + 1) (skipL false l) (l.drop (skipL false l)) := rfl
  rw [scanP_eq (by omega), scanP_eq (l := l) (by omega), hR, hR2]
  by_cases h0 : (scanA (l.length + 1) (skipL false l) (l.drop (skipL false l))).2.2 = 0
  · rw [if_pos (by rw [hm.2]; exact h0), if_pos h0]
    exact ⟨hm.2, zt_of_plain hm.1⟩
  · rw [if_neg (by rw [hm.2]; exact h0), if_neg h0]
    exact ⟨hm.2, rfl⟩

theorem repeat_at (b : UInt8) (x : Int) (c : Nat) (w : World) (hx : x = c) (hc : c ≤ 100000) :
    Calls Try.prog 38 #[.string ⟨#[b]⟩, .int .i64 x] w fun e w' => e = .returned (.string ⟨(List.replicate c b).toArray⟩) ∧ Below w.heap.size w w' := by
  subst hx
  have h := Try.strings_Repeat ⟨#[b]⟩ c w (by omega) (by show 1 * c ≤ _; omega)
  have e : ∀ c, Lib.repeatL (⟨#[b]⟩ : ByteArray).data.toList c = List.replicate c b := by
    intro c
    induction c with
    | zero => rfl
    | succ c ih => rw [Lib.repeatL, ih, List.replicate_succ]; rfl
  rw [e] at h
  exact h
theorem repeat_op (b : UInt8) (x : Int) (c : Nat) (w : World) (hx : x = c) (hc : c ≤ 100000) :
    Calls Try.prog 38 #[.string ⟨#[b]⟩, .int .i64 x] w fun e w' => ∃ f : ByteArray, e = .returned (.string f) ∧ Hid (f.data.toList = List.replicate c b) ∧ f.size ≤ c ∧ Below w.heap.size w w' :=
  (repeat_at b x c w hx hc).mono fun e w' ⟨he, hb⟩ => ⟨_, he, rfl, by rw [size_mk, List.length_replicate]; exact Nat.le_refl _, hb⟩
theorem ba_add (a b : ByteArray) : (a ++ b).data.toList = a.data.toList ++ b.data.toList := by simp [ByteArray.data_append]
theorem ba_list (s : ByteArray) : s = ⟨s.data.toList.toArray⟩ := rfl

set_option maxRecDepth 100000 in
theorem tokenLong_walk (s : ByteArray) (n : Int) (w : World) (hs : s.size ≤ 9223372036854775807) (h0 : 0 ≤ n) (h1 : n ≤ 255) :
    Calls Try.prog 9 #[.string s, .int .u8 n] w fun e w' => e = .returned (.bool true) ∧ Below w.heap.size w w' := by
  obtain ⟨s', hs'⟩ : ∃ s', s' = s.extract 0 400 := ⟨_, rfl⟩
  have hsz' : s'.size ≤ 400 := by rw [hs']; simp; omega
  have HS := Lib.hid hs'
  clear hs'
  obtain ⟨k, hk⟩ : ∃ k : Nat, k = 8000 - s'.size - n.toNat := ⟨_, rfl⟩
  have hk2 : (k : Int) = 8000 - s'.size - n := by omega
  have HK := Lib.hid hk2
  have hkb : k ≤ 8000 := by omega
  have hkl : k + s'.data.toList.length ≤ 8000 := by show k + s'.size ≤ 8000; omega
  clear hk hk2
  have HL := Lib.hid (long_law s'.data.toList k hkl)
  have hlen : (scanP s'.data.toList).1.length ≤ 1000000 := by
    by_cases he : (scanP s'.data.toList).2.2 = 0
    · obtain ⟨ts, p, e1, e2, e3, e4, e5⟩ := scanP_shape he
      rw [e1]; simp only [List.length_append, List.length_cons, List.length_nil]
      have : s'.data.toList.length ≤ 400 := hsz'
      omega
    · rw [scanP_err he]; simp
  have hlen2 : (scanP (List.replicate k 32 ++ s'.data.toList)).1.length = (scanP s'.data.toList).1.length := by
    have := congrArg List.length HL.out.2; simpa using this
  go_enter Try.func9, Try.ntmps9
  go_wp2_with fail
  refine (awake_any _).mono ?_
  rintro e w1 ⟨rfl, hb1⟩
  go_wp2_with fail
  refine (cut_any s _ hs).mono ?_
  rintro e w2 ⟨rfl, rfl⟩
  rw [← HS.out]
  go_wp2_with fail
  refine (scan_any s' _ (by omega)).mono ?_
  rintro e w2 ⟨v, rfl, hb2, ho2⟩
  have hb12 := hb1.trans (hb2.mono hb1.size)
  go_wp2_with fail
  refine (repeat_op 32 _ k _ (by have := HK.out; omega) (by omega)).mono ?_
  rintro e w3 ⟨f, rfl, hf, hfs, hb3⟩
  have hb13 := hb12.trans (hb3.mono hb12.size)
  have hsz1 : f.size + s'.size ≤ 8000 := by have : s'.data.toList.length = s'.size := rfl; omega
  go_wp2_with fail
  refine (scan_any (f ++ s') _ (by rw [ByteArray.size_append]; omega)).mono ?_
  rintro e w4 ⟨u, rfl, hb4, ho4⟩
  rw [ba_add, hf.out] at ho4 ⊢
  rw [HL.out.1]
  have hb14 := hb13.trans (hb4.mono hb13.size)
  have h2 := ((Sl.owned ho2).below hb3).below hb4
  go_wp2_with fail
  refine (plain_any v _ _ _ h2 rfl hlen).mono ?_
  rintro e w5 ⟨v', rfl, hb5, ho5⟩
  have hb15 := hb14.trans (hb5.mono hb14.size)
  go_wp2_with fail
  refine (plain_any u _ _ _ ((Sl.owned ho4).below hb5) rfl (by rw [hlen2]; exact hlen)).mono ?_
  rintro e w6 ⟨u', rfl, hb6, ho6⟩
  have hb16 := hb15.trans (hb6.mono hb15.size)
  go_wp2_with fail
  refine (equal_any v' u' _ _ _ _ _ ((Sl.owned ho5).below hb6) (Sl.owned ho6) (by simp) (by simp)).mono ?_
  rintro e w7 ⟨rfl, hb7⟩
  have hb17 := hb16.trans (hb7.mono hb16.size)
  rw [decide_eq_true HL.out.2.symm]
  clear h2 ho2 ho4 ho5 ho6
  go_wp2_with fail
  refine (repeat_op 10 _ (n.toNat + 1) _ (by omega) (by omega)).mono ?_
  rintro e w8 ⟨g, rfl, hg, hgs, hb8⟩
  have hb18 := hb17.trans (hb8.mono hb17.size)
  have hsz2 : f.size + s'.size + g.size ≤ 9000 := by omega
  have hlim : Hid (scanP ((f ++ s') ++ g).data.toList = ([], 0, 3)) := by
    show _ = _
    unfold scanP
    rw [if_pos (by
      rw [ba_add, ba_add, hf.out, hg.out]
      simp only [List.length_append, List.length_replicate]
      have : s'.data.toList.length = s'.size := rfl
      have := HK.out
      omega)]
  go_wp2_with fail
  refine (scan_any ((f ++ s') ++ g) _ (by rw [ByteArray.size_append, ByteArray.size_append]; omega)).mono ?_
  rintro e w9 ⟨z, rfl, hb9, ho9⟩
  rw [hlim.out]
  have hb19 := hb18.trans (hb9.mono hb18.size)
  go_wp2_with fail
  go_ret
  exact ⟨rfl, hb19⟩

end Go.Proofs.Ytnjaflldlhiefaa
