/- The walk of TokenReads: it returns true. -/
import Derived.Test.YtnjaflldlhiefaaTkCa
import Derived.Test.YtnjaflldlhiefaaTkNr
import Derived.Test.YtnjaflldlhiefaaTkL
import Derived.Test.YtnjaflldlhiefaaTkI
import Derived.Test.YtnjaflldlhiefaaTokenScansW
import Derived.Test.YtnjaflldlhiefaaTokenJoinsW
import Derived.Outline
namespace Go.Proofs.Ytnjaflldlhiefaa
open Go.RowKit Go.PlainAid
set_option linter.unusedVariables false
set_option linter.unusedSimpArgs false
set_option maxHeartbeats 4000000

abbrev OT := Int × Int × Int × Int
def ov (x : OT) : List Value := [.int .u8 x.1, .int .u8 x.2.1, .int .i64 x.2.2.1, .int .i64 x.2.2.2]
theorem ops_get : ∀ (l : List OT) (j c : Nat) (t : OT), l[j]? = some t → c < 4 → (l.flatMap ov)[j * 4 + c]? = (ov t)[c]?
  | [], j, c, t, h, _ => by simp at h
  | x :: l, 0, c, t, h, hc => by
    simp at h
    subst h
    rw [List.flatMap_cons, List.getElem?_append_left (by simp [ov]; omega)]
    simp
  | x :: l, j + 1, c, t, h, hc => by
    rw [List.flatMap_cons, List.getElem?_append_right (by simp [ov]; omega)]
    rw [show (j + 1) * 4 + c - (ov x).length = j * 4 + c from by simp [ov]; omega]
    exact ops_get l j c t (by simpa using h) hc
theorem Sl.pre {f : Tok → List Value} (hf : ∀ t, (f t).length = 4) {w : World} {a : Option Addr} {cap N : Nat} {ts : List Tok} (h : Sl w (.slice a N cap) N 4 (ts.flatMap f)) (hN : ts.length = N) {m : Nat} (hm : m ≤ N) : Sl w (.slice a m cap) m 4 ((ts.take m).flatMap f) := by
  obtain ⟨hl, a', cap', hv, hc, hx, h2⟩ := h
  cases hv
  have hlen : ∀ l : List Tok, (l.flatMap f).length = l.length * 4 := fun l => by
    induction l with
    | nil => rfl
    | cons t l ih => rw [List.flatMap_cons, List.length_append, ih, hf, List.length_cons]; omega
  refine ⟨by rw [hlen, List.length_take, hN]; congr 1; omega, a, cap, rfl, by omega, hx, ?_⟩
  rcases h2 with h2 | ⟨b, o, rfl, hb, hcell⟩
  · exact .inl (by omega)
  · refine .inr ⟨b, o, rfl, hb, fun j hj => ?_⟩
    rw [hcell j (by omega)]
    have hpre : ts.flatMap f = (ts.take m).flatMap f ++ (ts.drop m).flatMap f := by rw [← List.flatMap_append, List.take_append_drop]
    rw [hpre, List.getD_eq_getElem?_getD, List.getElem?_append_left (by rw [hlen, List.length_take, hN]; omega), ← List.getD_eq_getElem?_getD]
theorem rd_made2 {f : Tok → List Value} {w w' : World} {v : Value} {n g z : Nat} {ts : List Tok} (hs : Sl w v n 4 (ts.flatMap f)) (hn : ts.length = n) (hb : Below w.heap.size w w') (hblk : Blk4 w' g v (.int .i64 0) (.int .i64 0) (.int .i64 0))
    (hg : w.heap.size ≤ g) (hz : w.heap.size ≤ z) : Rd f w' g z ts 0 0 0 := by
  obtain ⟨hl, a, cap, rfl, hc, hm, hx⟩ := hs
  subst hn
  refine ⟨a, cap, hblk, hc, by unfold maxLen at hm; omega, ?_⟩
  rcases hx with hx | ⟨b, o, rfl, hbl, hcell⟩
  · exact .inl (List.eq_nil_of_length_eq_zero hx)
  · refine .inr ⟨b, o, rfl, by omega, by omega, Nat.lt_of_lt_of_le hbl hb.size, fun j hj => ?_⟩
    rw [hb.cell (p := ⟨b, o + j, none⟩) hbl]; exact hcell j hj
theorem scan_sl (x : ByteArray) (w : World) (hs : x.size ≤ 400) (ts : List Tok) (N o c : Nat) (h : scanP x.data.toList = (ts, o, c)) (hN : ts.length = N) :
    Calls Try.prog 12 #[.string x] w fun e w' => ∃ a cap, e = .returned (.tuple #[.slice a N cap, .int .i64 o, .int .i64 c]) ∧ Below w.heap.size w w' ∧ Hid (Sl w' (.slice a N cap) N 4 (flatP ts)) ∧ N ≤ cap ∧ cap ≤ 9223372036854775807 := by
  refine (scan_any x w (by omega)).mono ?_
  rintro e w' ⟨v, rfl, hb, ho⟩
  rw [h] at ho ⊢
  dsimp only at ho ⊢
  rw [hN] at ho
  obtain ⟨h0, a, cap, rfl, h1⟩ := Sl.owned ho
  exact ⟨a, cap, rfl, hb, ⟨h0, a, cap, rfl, h1⟩, h1.1, h1.2.1⟩
theorem rscan_sl (x : ByteArray) (w : World) (hs : x.size ≤ 400) (ts : List Tok) (N o c : Nat) (h : scanP x.data.toList = (ts, o, c)) (hN : ts.length = N) :
    Calls Try.prog 13 #[.string x] w fun e w' => ∃ a cap, e = .returned (.tuple #[.slice a N cap, .int .i64 o, .int .i64 c]) ∧ Below w.heap.size w w' ∧ Hid (Sl w' (.slice a N cap) N 4 (flatR ts)) ∧ N ≤ cap ∧ cap ≤ 9223372036854775807 := by
  refine (rscan_any x w (by omega)).mono ?_
  rintro e w' ⟨v, rfl, hb, ho⟩
  rw [h] at ho ⊢
  dsimp only at ho ⊢
  rw [hN] at ho
  obtain ⟨h0, a, cap, rfl, h1⟩ := Sl.owned ho
  exact ⟨a, cap, rfl, hb, ⟨h0, a, cap, rfl, h1⟩, h1.1, h1.2.1⟩
theorem same_yes (va vb : Value) (n : Nat) (ts : List Tok) (w : World) (ha : Sl w va n 4 (flatP ts)) (hb : Sl w vb n 4 (flatR ts)) (hn : ts.length = n) (hkd : ∀ t ∈ ts, t.kind ≤ 255) :
    Calls Try.prog 14 #[va, vb] w fun e w' => e = .returned (.bool true) ∧ Below w.heap.size w w' :=
  (same_any va vb n n ts ts w ha hb hn hn hkd).mono fun e w' ⟨h1, h2⟩ => ⟨by rw [h1, decide_eq_true rfl], h2⟩

theorem RR.below {w w' : World} {g g' : Nat} {ts : List Tok} {p o e : Nat} (h : RR w g g' ts p o e) (hb : Below w.heap.size w w') : RR w' g g' ts p o e := ⟨h.1.below hb, h.2.below hb⟩
theorem G2.toBelow {w w' : World} {g g' B : Nat} (h : G2 w w' g g') (hB : B ≤ w.heap.size) (h1 : B ≤ g) (h2 : B ≤ g') : Below B w w' :=
  ⟨h.os, h.tape, h.output, h.size, fun k hk => h.block k (by omega) (by omega) (by omega)⟩
theorem peek_both {w : World} {g g' : Nat} {ts : List Tok} {p o e : Nat} (h : RR w g g' ts p o e) (hp : p ≤ ts.length) (hk : ∀ t ∈ ts, t.kind ≤ 255) :
    ∃ T : Tok, Hid (T.kind ≤ 255) ∧ Hid (Calls Try.prog 29 #[.pointer (some ⟨g, 0, none⟩)] w fun en w' => en = .returned (.agg #[.int .u8 T.kind, .string ⟨T.text.toArray⟩, .int .i64 T.n, .int .i64 T.pos]) ∧ Below w.heap.size w w') ∧
      Hid (∀ w', Below w.heap.size w w' → Calls Try.prog 30 #[.pointer (some ⟨g', 0, none⟩)] w' fun en w2 => en = .returned (.agg #[.int .i64 T.kind, .string ⟨T.text.toArray⟩, .int .i64 T.n, .int .i64 T.pos]) ∧ Below w'.heap.size w' w2) :=
  ⟨pkF ts p e, pk_255 hk p e, peek_any w g g' ts p o e h.1 hp, fun w' hb => rpeek_any w' g' g ts p o e (h.2.below hb) hp⟩
def RdsRel (w : World) (g g' : Nat) (ts : List Tok) (K : Nat) (v : Value) (wr : World) : Prop :=
  ∃ j p o e, j ≤ K ∧ v = .int .i64 (j : Nat) ∧ RR wr g g' ts p o e ∧ g ≠ g' ∧ p ≤ ts.length ∧ w.heap.size ≤ g ∧ w.heap.size ≤ g' ∧ Below w.heap.size w wr

set_option maxRecDepth 100000 in
theorem tokenReads_walk (s : ByteArray) (d : Int) (a : Option Addr) (n cap : Nat) (L : List OT) (w : World) (hs : s.size ≤ 9223372036854775807) (d0 : 0 ≤ d) (d1 : d ≤ 255) (hl : Sl w (.slice a n cap) n 4 (L.flatMap ov)) (hL : L.length = n)
    (hk : ∀ x ∈ L, 0 ≤ x.1 ∧ x.1 ≤ 255 ∧ 0 ≤ x.2.1 ∧ x.2.1 ≤ 255) :
    Calls Try.prog 7 #[.string s, .int .u8 d, .slice a n cap] w fun e w' => e = .returned (.bool true) ∧ Below w.heap.size w w' := by
  obtain ⟨hx1, a', cap', hv, hnc, hcm, hx2⟩ := id hl
  cases hv
  unfold maxLen at hcm
  have HX2 := Lib.hid hx2
  have HK := Lib.hid hk
  clear hl hx1 hx2 hk
  obtain ⟨s', hs'⟩ : ∃ s', s' = s.extract 0 400 := ⟨_, rfl⟩
  have hsz' : s'.size ≤ 400 := by rw [hs']; simp; omega
  have HS := Lib.hid hs'
  clear hs'
  obtain ⟨ts, hts⟩ : ∃ ts, (scanP s'.data.toList).1 = ts := ⟨_, rfl⟩
  obtain ⟨oo, hoo⟩ : ∃ oo, (scanP s'.data.toList).2.1 = oo := ⟨_, rfl⟩
  obtain ⟨ee, hee⟩ : ∃ ee, (scanP s'.data.toList).2.2 = ee := ⟨_, rfl⟩
  have hP := Lib.hid (show scanP s'.data.toList = (ts, oo, ee) by rw [← hts, ← hoo, ← hee])
  obtain ⟨N, hN⟩ : ∃ N, ts.length = N := ⟨_, rfl⟩
  have hkd : ∀ t ∈ ts, t.kind ≤ 255 := by rw [← hts]; exact scanP_kinds _
  have hkm := Lib.hid (fun m (t : Tok) (ht : t ∈ ts.take m) => hkd t (List.mem_of_mem_take ht))
  have HKD := Lib.hid hkd
  have hNl : N ≤ 401 := by
    by_cases he : (scanP s'.data.toList).2.2 = 0
    · have := (joins_law (l := s'.data.toList) hsz' he).2.2.1; rw [hts, hN] at this; exact this
    · have := scanP_err he; rw [hts] at this; rw [← hN, this]; exact Nat.zero_le _
  clear hts hoo hee hkd
  have HN := Lib.hid hN
  clear hN
  obtain ⟨K, hK⟩ : ∃ K : Nat, min (n : Int) 40 = K := ⟨(min (n : Int) 40).toNat, by omega⟩
  have hKn : K ≤ n := by omega
  obtain ⟨m, hm⟩ : ∃ m : Nat, max ((N : Int) - d % 4) 0 = m := ⟨(max ((N : Int) - d % 4) 0).toNat, by omega⟩
  have hmN : m ≤ N := by omega
  have hd4 : 0 ≤ d % 4 ∧ d % 4 < 4 := by omega
  have hSc := Lib.hid (fun w => scan_sl s' w hsz' ts N oo ee hP.out HN.out)
  have hSr := Lib.hid (fun w => rscan_sl s' w hsz' ts N oo ee hP.out HN.out)
  have HK0 := HX2.out
  clear HX2
  rcases HK0 with HN0 | ⟨b, o, rfl, hbl, hop⟩
  all_goals
   try (have hop := Lib.hid hop)
   try (have HN0 := Lib.hid HN0)
   go_enter Try.func7, Try.ntmps7
   go_wp2_with fail
   refine (awake_any _).mono ?_
   rintro e w1 ⟨rfl, hb1⟩
   go_wp2_with fail
   refine (cut_any s _ hs).mono ?_
   rintro e w2 ⟨rfl, rfl⟩
   rw [← HS.out]
   go_wp2_with fail
   refine (hSc.out _).mono ?_
   rintro e w2 ⟨xa, xc, rfl, hb2, hx, hxc, hxc2⟩
   replace hb2 := hb1.trans (hb2.mono hb1.size)
   go_wp2_with fail
   refine (cut_any s _ hs).mono ?_
   rintro e w3 ⟨rfl, rfl⟩
   rw [← HS.out]
   go_wp2_with fail
   refine (hSr.out _).mono ?_
   rintro e w3 ⟨ya, yc, rfl, hb3, hy, hyc, hyc2⟩
   have hx3 := Lib.hid (hx.out.below hb3)
   replace hb3 := hb2.trans (hb3.mono hb2.size)
   clear hx
   go_wp2_with (go_at_call 14; refine (same_yes _ _ N ts _ hx3.out hy.out HN.out HKD.out).mono ?_; rintro e w4 ⟨rfl, hb4⟩)
   have hz3 := hb3.size
   have hb34 := Lib.hid (hb3.trans (hb4.mono hz3))
   have hxm := Lib.hid (fun w' (hb : Below w4.heap.size w4 w') => ((hx3.out.below hb4).pre (fun _ => rfl) HN.out hmN).below hb)
   have hym := Lib.hid (((hy.out.below hb4).pre (fun _ => rfl) HN.out hmN))
   have htm : (ts.take m).length = m := by rw [List.length_take, HN.out]; omega
   have HTM := Lib.hid htm
   have hm2 : m ≤ 1000000 := by omega
   have hi0 : (0 : Int) ≤ (m : Int) := by omega
   have hi1 : (m : Int) ≤ (N : Int) := by omega
   have hi2 : (m : Int) ≤ (xc : Int) := by omega
   have hi3 : (m : Int) ≤ (yc : Int) := by omega
   clear htm hm hd4
   go_region_held3 (fun w' => True) (trivial) (first | (go_at_call 25; refine (newreader_any _ m _ _ (hxm.out _ (by go_grown)) HTM.out hm2).mono ?_; rintro e w5 ⟨g, rfl, hb5, hg5, hl5, hr5⟩))
   all_goals
    have hb45 := Lib.hid ((by go_grown : Below w4.heap.size w4 _).trans (hb5.mono (by simp)))
    have HR5 := Lib.hid hr5
    have HB5 := Lib.hid hb5
    have hz45 := hb45.out.size
    have hz4 := hb34.out.size
    have hg4 : w4.heap.size ≤ g := by simp at hg5; omega
    clear hr5 hb5
    go_wp2_with fail
    first
      | (have hst := Lib.hid (show RR w5 g w4.heap.size (ts.take m) 0 0 0 ∧ g ≠ w4.heap.size ∧ Below w.heap.size w w5 from
          ⟨⟨HR5.out w4.heap.size (.inl (by simp)), rd_made2 hym.out HTM.out hb45.out ((Blk4.new _ _ _ _ _ _).below (N := w4.heap.size + 1) ((below_drewN (Below.refl _ _) 1).trans (HB5.out.mono (by simp))) (by omega)) (Nat.le_refl _) hg4⟩, by simp at hg5; omega, hb34.out.trans (hb45.out.mono hz4)⟩)
         have hg9 : w.heap.size ≤ w4.heap.size := by omega
         have hg8 : w.heap.size ≤ g := by omega
         clear HB5
         generalize w4.heap.size = g' at *)
      | (have hst := Lib.hid (show RR (w5.alloc (.cells #[.slice ya m yc, .int .i64 0, .int .i64 0, .int .i64 0] 59)) g w5.heap.size (ts.take m) 0 0 0 ∧ g ≠ w5.heap.size ∧ Below w.heap.size w (w5.alloc (.cells #[.slice ya m yc, .int .i64 0, .int .i64 0, .int .i64 0] 59)) from
          ⟨⟨(HR5.out w5.heap.size (.inr (Nat.le_refl _))).below ((Below.refl _ _).alloc (Nat.le_refl _) _), rd_made2 hym.out HTM.out (hb45.out.alloc hz45 _) (Blk4.new _ _ _ _ _ _) hz45 hg4⟩, by omega, hb34.out.trans ((hb45.out.alloc hz45 _).mono hz4)⟩)
         have hg9 : w.heap.size ≤ w5.heap.size := by omega
         have hg8 : w.heap.size ≤ g := by omega
         clear HB5
         generalize w5.heap.size = g' at *)
    go_loopw [67] (fun v wr => RdsRel w g g' (ts.take m) K v wr) (fun v _ => K - (intOf v).toNat)
    case atStart => exact ⟨0, 0, 0, 0, Nat.zero_le _, rfl, hst.out.1, hst.out.2.1, Nat.zero_le _, hg8, hg9, hst.out.2.2⟩
    case round =>
      obtain ⟨j, p, o', e', hj, rfl, hrr, hgg, hpl, hgB, hgB', hbr⟩ := hrel
      have hRR := Lib.hid hrr
      have hGG := Lib.hid hgg
      clear hrr hgg HR5 hb45 hst
      by_cases hlt : j < K
      · first
          | (exfalso; have := HN0.out; omega)
          | (have hzr := hbr.size
             obtain ⟨⟨k, tt, lo, hi⟩, hget⟩ : ∃ x, L[j]? = some x := ⟨_, List.getElem?_eq_getElem (by omega)⟩
             have hkk := HK.out _ (List.mem_of_getElem? hget)
             dsimp only at hkk
             have hc := fun c (hc : c < 4) => (hbr.cell (p := ⟨b, o + (j * 4 + c), none⟩) hbl).trans ((hop.out (j * 4 + c) (by omega)).trans (by rw [List.getD_eq_getElem?_getD, ops_get L j c _ hget hc]))
             have c0 : wr.cell? ⟨b, o + j * 4, none⟩ = some (.int .u8 k) := hc 0 (by omega)
             have c1 : wr.cell? ⟨b, o + j * 4 + 1, none⟩ = some (.int .u8 tt) := hc 1 (by omega)
             have c2 : wr.cell? ⟨b, o + j * 4 + 2, none⟩ = some (.int .i64 lo) := hc 2 (by omega)
             have c3 : wr.cell? ⟨b, o + j * 4 + 3, none⟩ = some (.int .i64 hi) := hc 3 (by omega)
             clear hc hget
             go_wp2_with fail
             refine (call_any _ g g' _ p o' e' k tt lo hi (hRR.out.below ((Below.refl _ _).alloc (Nat.le_refl _) _)) hGG.out hpl (hkm.out _) hkk.1 hkk.2.1 hkk.2.2.1 hkk.2.2.2).mono ?_
             rintro en w6 ⟨p6, o6, e6, rfl, hp6, hR6, hG6⟩
             have hb6 := (hbr.alloc hzr _).trans (hG6.toBelow (by simp; omega) hgB hgB')
             have HR6 := Lib.hid hR6
             clear hR6 hG6 c0 c1 c2 c3
             go_wp2_with fail
             refine (err_any tokV _ g _ _ _ _ _ HR6.out.1).mono ?_
             rintro en w7 ⟨rfl, hb7⟩
             have HR7 := Lib.hid (HR6.out.below hb7)
             have hb67 := hb6.trans (hb7.mono hb6.size)
             clear hb7
             obtain ⟨-, -, -, ⟨-, -, d2, d3, -, -, -, -, -⟩, -⟩ := HR7.out
             go_wp2_with fail
             go_roundw
             case rel => exact ⟨j + 1, p6, o6, e6, by omega, by go_num, HR7.out, hGG.out, hp6, hgB, hgB', hb67⟩
             case measure => simp [intOf]; omega)
      · have hzr := hbr.size
        obtain ⟨T, HPK, h1, h2⟩ := peek_both hRR.out hpl (hkm.out m)
        go_wp2_with (first | (go_at_call 29; refine h1.out.mono ?_; rintro en w6 ⟨rfl, hb6⟩) | (go_at_call 16; refine (told_at _ _ HPK.out).mono ?_; rintro en w7 ⟨rfl, hb7⟩; have hb8 := hb6.trans (hb7.mono hb6.size)) | (go_at_call 30; refine (h2.out _ hb8).mono ?_; rintro en w9 ⟨rfl, hb9⟩; have hb10 := hb8.trans (hb9.mono hb8.size)))
        go_returns
        exact ⟨rfl, hbr.trans (hb10.mono hzr)⟩
end Go.Proofs.Ytnjaflldlhiefaa
