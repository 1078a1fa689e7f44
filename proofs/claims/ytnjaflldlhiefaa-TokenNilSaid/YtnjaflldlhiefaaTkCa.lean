/- Contract: the law's call of both readers. -/
import Derived.Test.YtnjaflldlhiefaaTkZ3
namespace Go.Proofs.Ytnjaflldlhiefaa
open Go.RowKit Go.PlainAid
set_option linter.unusedVariables false
set_option linter.unusedSimpArgs false
set_option maxHeartbeats 2000000

/-- Both readers stand at the same place with the same error. -/
def RR (w : World) (g g' : Nat) (ts : List Tok) (pos off e : Nat) : Prop := Rd tokV w g g' ts pos off e ∧ Rd tokW w g' g ts pos off e
/-- Nothing that was there has changed but blocks g and g'. -/
structure G2 (w w' : World) (g g' : Nat) : Prop where
  os : w'.os = w.os
  tape : w'.tape = w.tape
  output : w'.output = w.output
  size : w.heap.size ≤ w'.heap.size
  block : ∀ k, k < w.heap.size → k ≠ g → k ≠ g' → w'.heap[k]? = w.heap[k]?
theorem G2.ofBelow {w w' : World} {g g' : Nat} (h : Below w.heap.size w w') : G2 w w' g g' := ⟨h.os, h.tape, h.output, h.size, fun k hk _ _ => h.block k hk⟩
theorem G2.of1 {w w' : World} {g g' : Nat} (h : w.grownBy w' (some g)) : G2 w w' g g' := ⟨h.os, h.tape, h.output, h.size, fun k hk h1 _ => h.block k hk (fun e => h1 (Option.some.inj e))⟩
theorem G2.of2 {w w' : World} {g g' : Nat} (h : w.grownBy w' (some g')) : G2 w w' g g' := ⟨h.os, h.tape, h.output, h.size, fun k hk _ h1 => h.block k hk (fun e => h1 (Option.some.inj e))⟩
theorem G2.trans {w w1 w2 : World} {g g' : Nat} (h : G2 w w1 g g') (k : G2 w1 w2 g g') : G2 w w2 g g' :=
  ⟨k.os.trans h.os, k.tape.trans h.tape, k.output.trans h.output, Nat.le_trans h.size k.size, fun i hi h1 h2 => (k.block i (Nat.lt_of_lt_of_le hi h.size) h1 h2).trans (h.block i hi h1 h2)⟩
def CallPost (w : World) (g g' : Nat) (ts : List Tok) (en : Ending) (w' : World) : Prop :=
  ∃ p o e, en = .returned (.bool true) ∧ p ≤ ts.length ∧ RR w' g g' ts p o e ∧ G2 w w' g g'
section
variable {w w2 w3 w4 w5 : World} {g g' : Nat} {ts : List Tok} {pos off e p o e' : Nat}
theorem RR.done (hne : g ≠ g') (hb2 : Below w.heap.size w w2) (hg3 : w2.grownBy w3 (some g)) (hr3 : Rd tokV w3 g g' ts p o e) (hb4 : Below w3.heap.size w3 w4) (hg5 : w4.grownBy w5 (some g')) (hr5 : Rd tokW w5 g' g ts p o e) (hple : p ≤ ts.length) : CallPost w g g' ts (.returned (.bool true)) w5 :=
  ⟨p, o, e, rfl, hple, ⟨(hr3.below hb4).moved hg5 (fun h => hne (Option.some.inj h).symm) (.inr rfl), hr5⟩, (((G2.ofBelow hb2).trans (G2.of1 hg3)).trans (G2.ofBelow hb4)).trans (G2.of2 hg5)⟩
theorem RR.done0 (h : RR w g g' ts p o e) (hb2 : Below w.heap.size w w2) (hple : p ≤ ts.length) : CallPost w g g' ts (.returned (.bool true)) w2 :=
  ⟨p, o, e, rfl, hple, ⟨h.1.below hb2, h.2.below hb2⟩, G2.ofBelow hb2⟩
/-- The reference's reader behind a call of the program's. -/
theorem RR.other (h : RR w g g' ts pos off e) (hne : g ≠ g') (hb2 : Below w.heap.size w w2) (hg3 : w2.grownBy w3 (some g)) (hb4 : Below w3.heap.size w3 w4) : Rd tokW w4 g' g ts pos off e :=
  ((h.2.below hb2).moved hg3 (fun h => hne (Option.some.inj h)) (.inr rfl)).below hb4
end
theorem nxF_le {ts : List Tok} {pos e : Nat} (hp : pos ≤ ts.length) : nxF ts pos e ≤ ts.length := by
  unfold nxF
  split
  · exact hp
  · rename_i h; have := (pk_lt h).1; omega
theorem acF_le {ts : List Tok} {pos e : Nat} {x : ByteArray} (hp : pos ≤ ts.length) : acF ts pos e x ≤ ts.length := by
  unfold acF
  split
  · rename_i h; have := (isB_lt h).1; omega
  · exact hp
theorem naP_le {ts : List Tok} {pos e : Nat} (hp : pos ≤ ts.length) : naP ts pos e ≤ ts.length := by
  unfold naP
  split
  · rename_i h
    have : (pkF ts pos e).kind ≠ 0 := by
      intro hk
      rw [naC_8 (by rw [hk]; decide)] at h; cases h
    have := (pk_lt this).1; omega
  · exact hp
theorem nuP_le {ts : List Tok} {pos e : Nat} {lo hi : Int} (hp : pos ≤ ts.length) : nuP ts pos e lo hi ≤ ts.length := by
  unfold nuP
  split
  · rename_i h
    have : (pkF ts pos e).kind ≠ 0 := by
      intro hk
      unfold nuB at h; simp [hk] at h
    have := (pk_lt this).1; omega
  · exact hp
theorem pk_255 {ts : List Tok} (h : ∀ t ∈ ts, t.kind ≤ 255) (pos e : Nat) : (pkF ts pos e).kind ≤ 255 := by
  unfold pkF
  split
  · rw [List.getD_eq_getElem?_getD]
    cases ht : ts[pos]? with
    | none => exact Nat.zero_le _
    | some t => exact h t (List.mem_of_getElem? ht)
  · exact Nat.zero_le _
theorem CallPost.of {w w' : World} {g g' : Nat} {ts : List Tok} {b : Bool} (h : b = true) (hc : CallPost w g g' ts (.returned (.bool true)) w') : CallPost w g g' ts (.returned (.bool b)) w' := by rw [h]; exact hc
theorem told_at (t : Tok) (w : World) (h : t.kind ≤ 255) :
    Calls Try.prog 16 #[.agg #[.int .u8 t.kind, .string ⟨t.text.toArray⟩, .int .i64 t.n, .int .i64 t.pos]] w fun e w' => e = .returned (.agg #[.int .i64 t.kind, .string ⟨t.text.toArray⟩, .int .i64 t.n, .int .i64 t.pos]) ∧ Below w.heap.size w w' :=
  (told_any _ _ _ _ w (by omega) (by omega)).mono fun _ _ ⟨he, hw⟩ => ⟨he, by rw [← hw]; exact ((Below.refl _ _).alloc (Nat.le_refl _) _).alloc (by simp) _⟩

theorem call_0 (w : World) (g g' : Nat) (ts : List Tok) (pos off e : Nat) (k t lo hi : Int) (hR : RR w g g' ts pos off e) (hne : g ≠ g') (hp : pos ≤ ts.length) (hkd : ∀ t ∈ ts, t.kind ≤ 255) (hk0 : 0 ≤ k) (hk1 : k ≤ 255) (ht0 : 0 ≤ t) (ht1 : t ≤ 255) (hk : k % 8 = 0) :
    Calls Try.prog 28 #[.pointer (some ⟨g, 0, none⟩), .pointer (some ⟨g', 0, none⟩), .agg #[.int .u8 k, .int .u8 t, .int .i64 lo, .int .i64 hi]] w (CallPost w g g' ts) := by
  have hRR := Lib.hid hR
  have hP := Lib.hid hp
  have hNE := Lib.hid hne
  have hpk := pk_255 hkd pos e
  have h1 := Lib.hid (fun  w' (hb : Below w.heap.size w w') => peek_any w' g g' ts pos off e (hR.1.below hb) hp)
  have h2 := Lib.hid (fun  w' (hr : Rd tokW w' g' g ts pos off e) => rpeek_any w' g' g ts pos off e hr hp)
  generalize hT : pkF ts pos e = T at *
  replace hT := Lib.hid hT
  unfold aggP aggR at *
  clear hR hp hkd hne
  go_enter Try.func28, Try.ntmps28
  go_wp2_with (first | (go_at_call 31; refine (texts_any _ _ ht0 ht1).mono ?_; rintro en w2 ⟨⟨x, rfl⟩, hb2⟩; have hb3 := ((Below.refl w.heap.size w).alloc (Nat.le_refl _) (.cells #[.int .u8 k, .int .u8 t, .int .i64 lo, .int .i64 hi] 61)).trans (hb2.mono (by simp)); obtain ⟨c0, c1, c2, c3, -, -, -, -, hsz2⟩ := blk4 rfl hb2) | (go_at_call 29; refine (h1.out _ hb3).mono ?_; rintro en w4 ⟨rfl, hb4⟩; replace hb4 := hb3.trans (hb4.mono hb3.size)) | (go_at_call 16; refine (told_at _ _ hpk).mono ?_; rintro en w5 ⟨rfl, hb5⟩; have hb6 := hb4.trans (hb5.mono hb4.size)) | (go_at_call 30; refine (h2.out _ (hRR.out.2.below hb6)).mono ?_; rintro en w7 ⟨rfl, hb7⟩; replace hb7 := hb6.trans (hb7.mono hb6.size)))
  go_returns
  exact hRR.out.done0 hb7 hP.out

theorem call_1 (w : World) (g g' : Nat) (ts : List Tok) (pos off e : Nat) (k t lo hi : Int) (hR : RR w g g' ts pos off e) (hne : g ≠ g') (hp : pos ≤ ts.length) (hkd : ∀ t ∈ ts, t.kind ≤ 255) (hk0 : 0 ≤ k) (hk1 : k ≤ 255) (ht0 : 0 ≤ t) (ht1 : t ≤ 255) (hk : k % 8 = 1) :
    Calls Try.prog 28 #[.pointer (some ⟨g, 0, none⟩), .pointer (some ⟨g', 0, none⟩), .agg #[.int .u8 k, .int .u8 t, .int .i64 lo, .int .i64 hi]] w (CallPost w g g' ts) := by
  have hRR := Lib.hid hR
  have hP := Lib.hid hp
  have hNE := Lib.hid hne
  have hpk := pk_255 hkd pos e
  have h1 := Lib.hid (fun  w' (hb : Below w.heap.size w w') => next_any w' g g' ts pos off e (hR.1.below hb) hp)
  have h2 := Lib.hid (fun  w' (hr : Rd tokW w' g' g ts pos off e) => rnext_any w' g' g ts pos off e hr hp)
  generalize hN : nxF ts pos e = N at *
  replace hN := Lib.hid hN
  generalize hT : pkF ts pos e = T at *
  replace hT := Lib.hid hT
  unfold aggP aggR at *
  clear hR hp hkd hne
  go_enter Try.func28, Try.ntmps28
  go_wp2_with (first | (go_at_call 31; refine (texts_any _ _ ht0 ht1).mono ?_; rintro en w2 ⟨⟨x, rfl⟩, hb2⟩; have hb3 := ((Below.refl w.heap.size w).alloc (Nat.le_refl _) (.cells #[.int .u8 k, .int .u8 t, .int .i64 lo, .int .i64 hi] 61)).trans (hb2.mono (by simp)); obtain ⟨c0, c1, c2, c3, -, -, -, -, hsz2⟩ := blk4 rfl hb2) | (go_at_call 34; refine (h1.out _ hb3).mono ?_; rintro en w4 ⟨rfl, hg4, hr4⟩; replace hg4 := Lib.hid hg4; replace hr4 := Lib.hid hr4; have hz4 := hg4.out.size) | (go_at_call 16; refine (told_at _ _ hpk).mono ?_; rintro en w5 ⟨rfl, hb5⟩; have hz5 := hb5.size) | (go_at_call 55; refine (h2.out _ (hRR.out.other hNE.out hb3 hg4.out hb5)).mono ?_; rintro en w6 ⟨rfl, hg6, hr6⟩; replace hg6 := Lib.hid hg6; replace hr6 := Lib.hid hr6))
  go_returns
  exact RR.done hNE.out hb3 hg4.out hr4.out hb5 hg6.out hr6.out (hN.out ▸ nxF_le hP.out)

theorem call_2 (w : World) (g g' : Nat) (ts : List Tok) (pos off e : Nat) (k t lo hi : Int) (hR : RR w g g' ts pos off e) (hne : g ≠ g') (hp : pos ≤ ts.length) (hkd : ∀ t ∈ ts, t.kind ≤ 255) (hk0 : 0 ≤ k) (hk1 : k ≤ 255) (ht0 : 0 ≤ t) (ht1 : t ≤ 255) (hk : k % 8 = 2) :
    Calls Try.prog 28 #[.pointer (some ⟨g, 0, none⟩), .pointer (some ⟨g', 0, none⟩), .agg #[.int .u8 k, .int .u8 t, .int .i64 lo, .int .i64 hi]] w (CallPost w g g' ts) := by
  have hRR := Lib.hid hR
  have hP := Lib.hid hp
  have hNE := Lib.hid hne
  have h1 := Lib.hid (fun x w' (hb : Below w.heap.size w w') => is_any w' g g' ts pos off e x (hR.1.below hb) hp)
  have h2 := Lib.hid (fun x w' (hr : Rd tokW w' g' g ts pos off e) => ris_any w' g' g ts pos off e x hr hp)
  clear hR hp hkd hne
  go_enter Try.func28, Try.ntmps28
  go_wp2_with (first | (go_at_call 31; refine (texts_any _ _ ht0 ht1).mono ?_; rintro en w2 ⟨⟨x, rfl⟩, hb2⟩; have hb3 := ((Below.refl w.heap.size w).alloc (Nat.le_refl _) (.cells #[.int .u8 k, .int .u8 t, .int .i64 lo, .int .i64 hi] 61)).trans (hb2.mono (by simp)); obtain ⟨c0, c1, c2, c3, -, -, -, -, hsz2⟩ := blk4 rfl hb2) | (go_at_call 35; refine (h1.out _ _ hb3).mono ?_; rintro en w4 ⟨rfl, hb4⟩; replace hb4 := hb3.trans (hb4.mono hb3.size)) | (go_at_call 56; refine (h2.out _ _ (hRR.out.2.below hb4)).mono ?_; rintro en w7 ⟨rfl, hb7⟩; replace hb7 := hb4.trans (hb7.mono hb4.size)))
  go_returns
  exact CallPost.of (by simp) (hRR.out.done0 hb7 hP.out)

theorem call_3 (w : World) (g g' : Nat) (ts : List Tok) (pos off e : Nat) (k t lo hi : Int) (hR : RR w g g' ts pos off e) (hne : g ≠ g') (hp : pos ≤ ts.length) (hkd : ∀ t ∈ ts, t.kind ≤ 255) (hk0 : 0 ≤ k) (hk1 : k ≤ 255) (ht0 : 0 ≤ t) (ht1 : t ≤ 255) (hk : k % 8 = 3) :
    Calls Try.prog 28 #[.pointer (some ⟨g, 0, none⟩), .pointer (some ⟨g', 0, none⟩), .agg #[.int .u8 k, .int .u8 t, .int .i64 lo, .int .i64 hi]] w (CallPost w g g' ts) := by
  have hRR := Lib.hid hR
  have hP := Lib.hid hp
  have hNE := Lib.hid hne
  have h1 := Lib.hid (fun x w' (hb : Below w.heap.size w w') => accept_any w' g g' ts pos off e x (hR.1.below hb) hp)
  have h2 := Lib.hid (fun x w' (hr : Rd tokW w' g' g ts pos off e) => raccept_any w' g' g ts pos off e x hr hp)
  clear hR hp hkd hne
  go_enter Try.func28, Try.ntmps28
  go_wp2_with (first | (go_at_call 31; refine (texts_any _ _ ht0 ht1).mono ?_; rintro en w2 ⟨⟨x, rfl⟩, hb2⟩; have hb3 := ((Below.refl w.heap.size w).alloc (Nat.le_refl _) (.cells #[.int .u8 k, .int .u8 t, .int .i64 lo, .int .i64 hi] 61)).trans (hb2.mono (by simp)); obtain ⟨c0, c1, c2, c3, -, -, -, -, hsz2⟩ := blk4 rfl hb2) | (go_at_call 36; refine (h1.out _ _ hb3).mono ?_; rintro en w4 ⟨rfl, hg4, hr4⟩; replace hg4 := Lib.hid hg4; replace hr4 := Lib.hid hr4; have hz4 := hg4.out.size; have hb5 := Below.refl w4.heap.size w4) | (go_at_call 57; refine (h2.out _ _ (hRR.out.other hNE.out hb3 hg4.out hb5)).mono ?_; rintro en w6 ⟨rfl, hg6, hr6⟩; replace hg6 := Lib.hid hg6; replace hr6 := Lib.hid hr6))
  go_returns
  exact CallPost.of (by simp) (RR.done hNE.out hb3 hg4.out hr4.out hb5 hg6.out hr6.out (acF_le hP.out))

theorem call_4 (w : World) (g g' : Nat) (ts : List Tok) (pos off e : Nat) (k t lo hi : Int) (hR : RR w g g' ts pos off e) (hne : g ≠ g') (hp : pos ≤ ts.length) (hkd : ∀ t ∈ ts, t.kind ≤ 255) (hk0 : 0 ≤ k) (hk1 : k ≤ 255) (ht0 : 0 ≤ t) (ht1 : t ≤ 255) (hk : k % 8 = 4) :
    Calls Try.prog 28 #[.pointer (some ⟨g, 0, none⟩), .pointer (some ⟨g', 0, none⟩), .agg #[.int .u8 k, .int .u8 t, .int .i64 lo, .int .i64 hi]] w (CallPost w g g' ts) := by
  have hRR := Lib.hid hR
  have hP := Lib.hid hp
  have hNE := Lib.hid hne
  have h1 := Lib.hid (fun x w' (hb : Below w.heap.size w w') => expect_any w' g g' ts pos off e x (hR.1.below hb) hp)
  have h2 := Lib.hid (fun x w' (hr : Rd tokW w' g' g ts pos off e) => rexpect_any w' g' g ts pos off e x hr hp)
  clear hR hp hkd hne
  go_enter Try.func28, Try.ntmps28
  go_wp2_with (first | (go_at_call 31; refine (texts_any _ _ ht0 ht1).mono ?_; rintro en w2 ⟨⟨x, rfl⟩, hb2⟩; have hb3 := ((Below.refl w.heap.size w).alloc (Nat.le_refl _) (.cells #[.int .u8 k, .int .u8 t, .int .i64 lo, .int .i64 hi] 61)).trans (hb2.mono (by simp)); obtain ⟨c0, c1, c2, c3, -, -, -, -, hsz2⟩ := blk4 rfl hb2) | (go_at_call 32; refine (h1.out _ _ hb3).mono ?_; rintro en w4 ⟨rfl, hg4, hr4⟩; replace hg4 := Lib.hid hg4; replace hr4 := Lib.hid hr4; have hz4 := hg4.out.size; have hb5 := Below.refl w4.heap.size w4) | (go_at_call 58; refine (h2.out _ _ (hRR.out.other hNE.out hb3 hg4.out hb5)).mono ?_; rintro en w6 ⟨rfl, hg6, hr6⟩; replace hg6 := Lib.hid hg6; replace hr6 := Lib.hid hr6))
  go_returns
  exact RR.done hNE.out hb3 hg4.out hr4.out hb5 hg6.out hr6.out (acF_le hP.out)

theorem call_5 (w : World) (g g' : Nat) (ts : List Tok) (pos off e : Nat) (k t lo hi : Int) (hR : RR w g g' ts pos off e) (hne : g ≠ g') (hp : pos ≤ ts.length) (hkd : ∀ t ∈ ts, t.kind ≤ 255) (hk0 : 0 ≤ k) (hk1 : k ≤ 255) (ht0 : 0 ≤ t) (ht1 : t ≤ 255) (hk : k % 8 = 5) :
    Calls Try.prog 28 #[.pointer (some ⟨g, 0, none⟩), .pointer (some ⟨g', 0, none⟩), .agg #[.int .u8 k, .int .u8 t, .int .i64 lo, .int .i64 hi]] w (CallPost w g g' ts) := by
  have hRR := Lib.hid hR
  have hP := Lib.hid hp
  have hNE := Lib.hid hne
  have h1 := Lib.hid (fun  w' (hb : Below w.heap.size w w') => name_any w' g g' ts pos off e (hR.1.below hb) hp)
  have h2 := Lib.hid (fun  w' (hr : Rd tokW w' g' g ts pos off e) => rname_any w' g' g ts pos off e hr hp)
  clear hR hp hkd hne
  go_enter Try.func28, Try.ntmps28
  go_wp2_with (first | (go_at_call 31; refine (texts_any _ _ ht0 ht1).mono ?_; rintro en w2 ⟨⟨x, rfl⟩, hb2⟩; have hb3 := ((Below.refl w.heap.size w).alloc (Nat.le_refl _) (.cells #[.int .u8 k, .int .u8 t, .int .i64 lo, .int .i64 hi] 61)).trans (hb2.mono (by simp)); obtain ⟨c0, c1, c2, c3, -, -, -, -, hsz2⟩ := blk4 rfl hb2) | (go_at_call 26; refine (h1.out _ hb3).mono ?_; rintro en w4 ⟨rfl, hg4, hr4⟩; replace hg4 := Lib.hid hg4; replace hr4 := Lib.hid hr4; have hz4 := hg4.out.size; have hb5 := Below.refl w4.heap.size w4) | (go_at_call 59; refine (h2.out _ (hRR.out.other hNE.out hb3 hg4.out hb5)).mono ?_; rintro en w6 ⟨rfl, hg6, hr6⟩; replace hg6 := Lib.hid hg6; replace hr6 := Lib.hid hr6))
  go_returns
  exact CallPost.of (by simp) (RR.done hNE.out hb3 hg4.out hr4.out hb5 hg6.out hr6.out (naP_le hP.out))

theorem call_6 (w : World) (g g' : Nat) (ts : List Tok) (pos off e : Nat) (k t lo hi : Int) (hR : RR w g g' ts pos off e) (hne : g ≠ g') (hp : pos ≤ ts.length) (hkd : ∀ t ∈ ts, t.kind ≤ 255) (hk0 : 0 ≤ k) (hk1 : k ≤ 255) (ht0 : 0 ≤ t) (ht1 : t ≤ 255) (hk : k % 8 = 6) :
    Calls Try.prog 28 #[.pointer (some ⟨g, 0, none⟩), .pointer (some ⟨g', 0, none⟩), .agg #[.int .u8 k, .int .u8 t, .int .i64 lo, .int .i64 hi]] w (CallPost w g g' ts) := by
  have hRR := Lib.hid hR
  have hP := Lib.hid hp
  have hNE := Lib.hid hne
  have h1 := Lib.hid (fun lo hi w' (hb : Below w.heap.size w w') => number_any w' g g' ts pos off e lo hi (hR.1.below hb) hp)
  have h2 := Lib.hid (fun lo hi w' (hr : Rd tokW w' g' g ts pos off e) => rnumber_call w' g' g ts pos off e lo hi hr hp)
  have ne1 : w.heap.size ≠ g := by have := hR.1.lt; omega
  have ne2 : w.heap.size ≠ g' := by have := hR.2.lt; omega
  clear hR hp hkd hne
  go_enter Try.func28, Try.ntmps28
  go_wp2_with (go_at_call 31; refine (texts_any _ _ ht0 ht1).mono ?_; rintro en w2 ⟨⟨x, rfl⟩, hb2⟩; have hb3 := ((Below.refl w.heap.size w).alloc (Nat.le_refl _) (.cells #[.int .u8 k, .int .u8 t, .int .i64 lo, .int .i64 hi] 61)).trans (hb2.mono (by simp)); obtain ⟨c0, c1, c2, c3, -, -, -, -, hsz2⟩ := blk4 rfl hb2)
  go_region_held3 (fun w' => w'.cell? ⟨w.heap.size, 2, none⟩ = some (.int .i64 lo) ∧ w'.cell? ⟨w.heap.size, 3, none⟩ = some (.int .i64 hi)) (first | exact ⟨c2, c3⟩ | exact ⟨hg4.out.cell c2 (fun e => ne1 (Option.some.inj e)), hg4.out.cell c3 (fun e => ne1 (Option.some.inj e))⟩ | exact ⟨hg6.out.cell (hg4.out.cell c2 (fun e => ne1 (Option.some.inj e))) (fun e => ne2 (Option.some.inj e)), hg6.out.cell (hg4.out.cell c3 (fun e => ne1 (Option.some.inj e))) (fun e => ne2 (Option.some.inj e))⟩) (first | (go_at_call 37; refine (h1.out _ _ _ (below_drewN hb3 1)).mono ?_; rintro en w4 ⟨rfl, hg4, hr4⟩; replace hg4 := Lib.hid hg4; replace hr4 := Lib.hid hr4; have hz4 := hg4.out.size; have hb5 := Below.refl w4.heap.size w4) | (go_at_call 60; refine (h2.out _ _ _ (hRR.out.other hNE.out (below_drewN hb3 1) hg4.out hb5)).mono ?_; rintro en w6 ⟨rfl, hg6, hr6⟩; replace hg6 := Lib.hid hg6; replace hr6 := Lib.hid hr6))
  all_goals
    go_wp2_with fail
    go_returns
    exact CallPost.of (by simp) (RR.done hNE.out (below_drewN hb3 1) hg4.out hr4.out hb5 hg6.out hr6.out (nuP_le hP.out))

theorem call_7 (w : World) (g g' : Nat) (ts : List Tok) (pos off e : Nat) (k t lo hi : Int) (hR : RR w g g' ts pos off e) (hne : g ≠ g') (hp : pos ≤ ts.length) (hkd : ∀ t ∈ ts, t.kind ≤ 255) (hk0 : 0 ≤ k) (hk1 : k ≤ 255) (ht0 : 0 ≤ t) (ht1 : t ≤ 255) (hk : k % 8 = 7) :
    Calls Try.prog 28 #[.pointer (some ⟨g, 0, none⟩), .pointer (some ⟨g', 0, none⟩), .agg #[.int .u8 k, .int .u8 t, .int .i64 lo, .int .i64 hi]] w (CallPost w g g' ts) := by
  have hRR := Lib.hid hR
  have hP := Lib.hid hp
  have hNE := Lib.hid hne
  have h1 := Lib.hid (fun c w' (hb : Below w.heap.size w w') => fail_any w' g g' ts pos off e c (hR.1.below hb) hp)
  have h2 := Lib.hid (fun c w' (hr : Rd tokW w' g' g ts pos off e) => rfail_any w' g' g ts pos off e c hr hp)
  obtain ⟨m, hm⟩ : ∃ m : Nat, t % 17 = (m : Int) := ⟨(t % 17).toNat, by omega⟩
  have ne1 : w.heap.size ≠ g := by have := hR.1.lt; omega
  have ne2 : w.heap.size ≠ g' := by have := hR.2.lt; omega
  clear hR hp hkd hne
  go_enter Try.func28, Try.ntmps28
  go_wp2_with (first | (go_at_call 31; refine (texts_any _ _ ht0 ht1).mono ?_; rintro en w2 ⟨⟨x, rfl⟩, hb2⟩; have hb3 := ((Below.refl w.heap.size w).alloc (Nat.le_refl _) (.cells #[.int .u8 k, .int .u8 t, .int .i64 lo, .int .i64 hi] 61)).trans (hb2.mono (by simp)); obtain ⟨c0, c1, c2, c3, -, -, -, -, hsz2⟩ := blk4 rfl hb2) | (go_at_call 33; refine (h1.out _ _ hb3).mono ?_; rintro en w4 ⟨rfl, hg4, hr4⟩; replace hg4 := Lib.hid hg4; replace hr4 := Lib.hid hr4; have hz4 := hg4.out.size; have hb5 := Below.refl w4.heap.size w4; have d1 := hg4.out.cell c1 (fun e => ne1 (Option.some.inj e))) | (go_at_call 61; refine (h2.out _ _ (hRR.out.other hNE.out hb3 hg4.out hb5)).mono ?_; rintro en w6 ⟨rfl, hg6, hr6⟩; replace hg6 := Lib.hid hg6; replace hr6 := Lib.hid hr6))
  go_returns
  exact RR.done hNE.out hb3 hg4.out hr4.out hb5 hg6.out hr6.out hP.out

theorem call_any (w : World) (g g' : Nat) (ts : List Tok) (pos off e : Nat) (k t lo hi : Int) (hR : RR w g g' ts pos off e) (hne : g ≠ g') (hp : pos ≤ ts.length) (hkd : ∀ t ∈ ts, t.kind ≤ 255) (hk0 : 0 ≤ k) (hk1 : k ≤ 255) (ht0 : 0 ≤ t) (ht1 : t ≤ 255) :
    Calls Try.prog 28 #[.pointer (some ⟨g, 0, none⟩), .pointer (some ⟨g', 0, none⟩), .agg #[.int .u8 k, .int .u8 t, .int .i64 lo, .int .i64 hi]] w (CallPost w g g' ts) := by
  rcases (by omega : k % 8 = 0 ∨ k % 8 = 1 ∨ k % 8 = 2 ∨ k % 8 = 3 ∨ k % 8 = 4 ∨ k % 8 = 5 ∨ k % 8 = 6 ∨ k % 8 = 7) with h | h | h | h | h | h | h | h
  · exact call_0 w g g' ts pos off e k t lo hi hR hne hp hkd hk0 hk1 ht0 ht1 h
  · exact call_1 w g g' ts pos off e k t lo hi hR hne hp hkd hk0 hk1 ht0 ht1 h
  · exact call_2 w g g' ts pos off e k t lo hi hR hne hp hkd hk0 hk1 ht0 ht1 h
  · exact call_3 w g g' ts pos off e k t lo hi hR hne hp hkd hk0 hk1 ht0 ht1 h
  · exact call_4 w g g' ts pos off e k t lo hi hR hne hp hkd hk0 hk1 ht0 ht1 h
  · exact call_5 w g g' ts pos off e k t lo hi hR hne hp hkd hk0 hk1 ht0 ht1 h
  · exact call_6 w g g' ts pos off e k t lo hi hR hne hp hkd hk0 hk1 ht0 ht1 h
  · exact call_7 w g g' ts pos off e k t lo hi hR hne hp hkd hk0 hk1 ht0 ht1 h

end Go.Proofs.Ytnjaflldlhiefaa
