/- Package wire: the reader's values, where they are there. -/
import Derived.Test.YtfdododighjjpaaGreatDoorWiC
namespace Go.Proofs.YtfdododighjjpaaGreatDoor.Wi
open Go.RowKit Go.PlainAid
set_option linter.unusedVariables false
set_option linter.unusedSimpArgs false
set_option maxHeartbeats 4000000
set_option maxRecDepth 20000

theorem wrap_nat (v : Nat) (h : v < 2097152) : wrap64 (v : Int) = (v : Int) := by
  unfold wrap64; omega
theorem ret_wrap {v x : Int} (h : wrap64 v = x) : Ending.returned (.int .i64 (wrap64 v)) = .returned (.int .i64 x) := by rw [h]
/-- Slices of one block. -/
def Sb (a a' : Option Addr) : Prop := ∀ y, a' = some y → ∃ x, a = some x ∧ x.block = y.block
theorem sb_same {b o o' : Nat} : Sb (some ⟨b, o, none⟩) (some ⟨b, o', none⟩) := fun y e => by cases e; exact ⟨_, rfl, rfl⟩
/-- After a value: it is answered, and the reader stands behind it. -/
def TookP (g : Nat) (a : Option Addr) (x : Value) (r : List Nat) (W : World) (e : Ending) (W' : World) : Prop :=
  e = .returned x ∧ (∃ a' c', Rd W' g a' r.length c' r 0 ∧ Sb a a') ∧ Kg g W W'
theorem rd_cut {W' : World} {g n c v : Nat} {a : Option Addr} {ps r : List Nat} (hl : ps.length = n) (hps : ps = encN v ++ r) (h : Rd W' g a (n - (encN v).length) c (ps.drop (encN v).length) 0) : Rd W' g a r.length c r 0 := by
  have e1 : ps.drop (encN v).length = r := by rw [hps, List.drop_left]
  have e2 : n - (encN v).length = r.length := by rw [← hl, hps, List.length_append]; omega
  rw [e1, e2] at h
  exact h
theorem ruintN_any (g : Nat) (a : Option Addr) (n c v m : Nat) (ps r : List Nat) (W : World) (h : Rd W g a n c ps 0) (hn : n ≤ 1000) (hps : ps = encN v ++ r) (hv : v < 2097152) (hm : v ≤ m) :
    Calls Tryz.prog 56 #[.pointer (some ⟨g, 0, none⟩), .int .u64 (m : Nat)] W (TookP g a (.int .u64 (v : Nat)) r W) := by
  have hl1 := (enc_len v).1
  have hll : ps.length = (encN v).length + r.length := by rw [hps, List.length_append]
  have hnl : n = ps.length := h.2.1.1.symm
  obtain ⟨bb, oo, rfl, -, -, -, -⟩ := h.2.1.at0 (k := 0) (by omega)
  have HO := Lib.hid (rok_any g _ 0 true W h.1 rfl)
  have HNU := Lib.hid (numberN_any g _ _ c v ps r 0 W h (by omega) hps hv)
  have HT := Lib.hid (fun (W1 : World) (hb : Below W.heap.size W W1) => take_any g bb oo n c (encN v).length ps 0 W1 (h.below hb) (by omega) hn)
  have HC := Lib.hid (fun (W' : World) (o' : Nat) (hr : Rd W' g (some ⟨bb, o', none⟩) (n - (encN v).length) (c - (encN v).length) (ps.drop (encN v).length) 0) => rd_cut hnl.symm hps hr)
  have hmm : ¬ (m : Int) < (v : Int) := by omega
  obtain ⟨L, hL⟩ : ∃ L, (encN v).length = L := ⟨_, rfl⟩
  rw [hL] at hl1 HNU HT HC
  have hL0 : ¬ (L : Int) = 0 := by omega
  clear h hps hll hnl hL hv hm hl1
  go_enter Tryz.func56, Tryz.ntmps56
  go_wp2_with (first
    | (go_at_call 52; refine HO.out.mono ?_; rintro e w1 ⟨rfl, rfl⟩)
    | (go_at_call 53; (with_reducible refine (refuse_f _ _ _ _ ?_).mono ?_); (first | rfl | (apply decide_eq_false; omega) | (simp; omega)); rintro e w1 ⟨rfl, rfl⟩)
    | (go_at_call 54; refine HNU.out.mono ?_; rintro e w1 ⟨rfl, hb⟩; have HB := Lib.hid hb; clear hb)
    | (go_at_call 55; refine (HT.out _ HB.out).mono ?_; rintro e w2 ⟨b, mm, o', rfl, hbw, hrd, hk⟩; have HRD := Lib.hid hrd; have HK := Lib.hid hk; clear hbw hrd hk))
  go_ret
  exact ⟨rfl, ⟨_, _, HC.out _ _ HRD.out, sb_same⟩, (Kg.of HB.out).tr HK.out⟩
theorem rnumN_any (g : Nat) (a : Option Addr) (n c v m : Nat) (ps r : List Nat) (W : World) (h : Rd W g a n c ps 0) (hn : n ≤ 1000) (hps : ps = encN v ++ r) (hv : v < 2097152) (hm : v ≤ m) (hm2 : m < 2097152) :
    Calls Tryz.prog 23 #[.pointer (some ⟨g, 0, none⟩), .int .i64 (m : Nat)] W (TookP g a (.int .i64 (v : Nat)) r W) := by
  have HO := Lib.hid (rok_any g _ 0 true W h.1 rfl)
  have HU := Lib.hid (ruintN_any g a n c v m ps r W h hn hps hv hm)
  have h1 : ¬ (m : Int) < 0 := by omega
  have h2 : (m : Int) % 18446744073709551616 = (m : Int) := by omega
  have hw := wrap_nat v (by omega)
  clear h hps hv hm hm2 hn
  go_enter Tryz.func23, Tryz.ntmps23
  go_wp2_with (first
    | (go_at_call 52; refine HO.out.mono ?_; rintro e w1 ⟨rfl, rfl⟩)
    | (go_at_call 53; (with_reducible refine (refuse_f _ _ _ _ ?_).mono ?_); (first | rfl | (apply decide_eq_false; omega) | (simp; omega)); rintro e w1 ⟨rfl, rfl⟩)
    | (go_at_call 56; refine HU.out.mono ?_; rintro e w1 ⟨rfl, hr, hk⟩; have HR := Lib.hid hr; have HK := Lib.hid hk; clear hr hk))
  go_ret
  exact ⟨ret_wrap hw, HR.out, HK.out⟩
theorem rcountN_any (g : Nat) (a : Option Addr) (n c v m : Nat) (ps r : List Nat) (W : World) (h : Rd W g a n c ps 0) (hn : n ≤ 1000) (hps : ps = encN v ++ r) (hv : v < 2097152) (hm : v ≤ m) (hm2 : m < 2097152) :
    Calls Tryz.prog 22 #[.pointer (some ⟨g, 0, none⟩), .int .i64 (m : Nat)] W (TookP g a (.int .i64 (v : Nat)) r W) := by
  have hl1 := (enc_len v).1
  have hll : ps.length = (encN v).length + r.length := by rw [hps, List.length_append]
  have hnl : n = ps.length := h.2.1.1.symm
  obtain ⟨bb, oo, rfl, -, -, -, -⟩ := h.2.1.at0 (k := 0) (by omega)
  have HO := Lib.hid (rok_any g _ 0 true W h.1 rfl)
  have HNU := Lib.hid (numberN_any g _ _ c v ps r 0 W h (by omega) hps hv)
  have HT := Lib.hid (fun (W1 : World) (hb : Below W.heap.size W W1) => take_any g bb oo n c (encN v).length ps 0 W1 (h.below hb) (by omega) hn)
  have HC := Lib.hid (fun (W' : World) (o' : Nat) (hr : Rd W' g (some ⟨bb, o', none⟩) (n - (encN v).length) (c - (encN v).length) (ps.drop (encN v).length) 0) => rd_cut hnl.symm hps hr)
  have hmm : ¬ (m : Int) < (v : Int) := by omega
  have h1 : ¬ (m : Int) < 0 := by omega
  have h2 : (m : Int) % 18446744073709551616 = (m : Int) := by omega
  have hw := wrap_nat v (by omega)
  obtain ⟨L, hL⟩ : ∃ L, (encN v).length = L := ⟨_, rfl⟩
  rw [hL] at hl1 HNU HT HC
  have hL0 : ¬ (L : Int) = 0 := by omega
  clear h hps hll hnl hL hv hm hl1 hm2
  go_enter Tryz.func22, Tryz.ntmps22
  go_wp2_with (first
    | (go_at_call 52; refine HO.out.mono ?_; rintro e w1 ⟨rfl, rfl⟩)
    | (go_at_call 53; (with_reducible refine (refuse_f _ _ _ _ ?_).mono ?_); (first | rfl | (apply decide_eq_false; omega) | (simp; omega)); rintro e w1 ⟨rfl, rfl⟩)
    | (go_at_call 54; refine HNU.out.mono ?_; rintro e w1 ⟨rfl, hb⟩; have HB := Lib.hid hb; clear hb)
    | (go_at_call 55; refine (HT.out _ HB.out).mono ?_; rintro e w2 ⟨b, mm, o', rfl, hbw, hrd, hk⟩; have HRD := Lib.hid hrd; have HK := Lib.hid hk; clear hbw hrd hk))
  go_ret
  exact ⟨ret_wrap hw, ⟨_, _, HC.out _ _ HRD.out, sb_same⟩, (Kg.of HB.out).tr HK.out⟩
theorem rbytesN_any (g : Nat) (a : Option Addr) (n c m : Nat) (ps bs r : List Nat) (W : World) (h : Rd W g a n c ps 0) (hn : n ≤ 1000) (hps : ps = encN bs.length ++ (bs ++ r)) (hm : bs.length ≤ m) (hm2 : m < 2097152) :
    Calls Tryz.prog 51 #[.pointer (some ⟨g, 0, none⟩), .int .i64 (m : Nat)] W fun e W' => ∃ b k, e = .returned (.slice b bs.length k) ∧ Bw W' b bs.length k bs ∧ (∃ a' c', Rd W' g a' r.length c' r 0 ∧ Sb a a') ∧ Kg g W W' := by
  obtain ⟨v, hbv⟩ : ∃ v, bs.length = v := ⟨_, rfl⟩
  rw [hbv] at hps hm ⊢
  have hmm : ¬ (m : Int) < (v : Int) := by omega
  have h1 : ¬ (m : Int) < 0 := by omega
  have h2 : (m : Int) % 18446744073709551616 = (m : Int) := by omega
  have hw := wrap_nat v (by omega)
  have hl1 := (enc_len v).1
  have hll : ps.length = (encN v).length + (v + r.length) := by rw [hps, List.length_append, List.length_append, hbv]
  have hnl : n = ps.length := h.2.1.1.symm
  obtain ⟨bb, oo, rfl, -, -, -, -⟩ := h.2.1.at0 (k := 0) (by omega)
  have q0 := h.1.at.1
  have HG : g < W.heap.size := h.1.lt
  have HO := Lib.hid (rok_any g _ 0 true W h.1 rfl)
  have HNU := Lib.hid (numberN_any g _ _ c v ps (bs ++ r) 0 W h (by omega) hps (by omega))
  have HT := Lib.hid (fun (W1 : World) (hb : Below W.heap.size W W1) => take_any g bb oo n c (encN v).length ps 0 W1 (h.below hb) (by omega) hn)
  have e1 : ps.drop (encN v).length = bs ++ r := by rw [hps, List.drop_left]
  rw [e1] at HT
  have hsub : n - (encN v).length = v + r.length := by omega
  rw [hsub] at HT
  have HT2 := Lib.hid (fun (o' k' : Nat) (W1 : World) (k : Rd W1 g (some ⟨bb, o', none⟩) (v + r.length) k' (bs ++ r) 0) => take_any g bb o' (v + r.length) k' v (bs ++ r) 0 W1 k (by omega) (by omega))
  have e2 : (bs ++ r).take v = bs := by rw [← hbv, List.take_left]
  have e3 : (bs ++ r).drop v = r := by rw [← hbv, List.drop_left]
  have e4 : v + r.length - v = r.length := by omega
  rw [e2, e3, e4] at HT2
  obtain ⟨L, hL⟩ : ∃ L, (encN v).length = L := ⟨_, rfl⟩
  rw [hL] at hl1 HNU HT hll hsub
  have hL0 : ¬ (L : Int) = 0 := by omega
  obtain ⟨q, hq⟩ : ∃ q, v + r.length = q := ⟨_, rfl⟩
  have hqn : (n : Int) - (L : Int) = (q : Int) := by omega
  have hqw : (q : Int) % 18446744073709551616 = (q : Int) := by omega
  have hqv : ¬ (q : Int) < (v : Int) := by omega
  rw [hq] at HT HT2
  clear h hps hll hnl hL hm hl1 hm2 e1 e2 e3 e4 hsub hq hbv
  have tk0 : Hid True := trivial
  go_enter Tryz.func51, Tryz.ntmps51
  go_wp2_with (first
    | (go_at_call 52; refine HO.out.mono ?_; rintro e w1 ⟨rfl, rfl⟩)
    | (go_at_call 53; (with_reducible refine (refuse_f _ _ _ _ ?_).mono ?_); (first | rfl | (apply decide_eq_false; omega) | (simp; omega)); rintro e w1 ⟨rfl, rfl⟩)
    | (go_at_call 54; refine HNU.out.mono ?_; rintro e w1 ⟨rfl, hb⟩; have HB := Lib.hid hb; replace q0 := (hb.cell (p := ⟨g, 0, none⟩) HG).trans q0; clear hb)
    | (go_at_call 55; clear tk0; refine (HT.out _ HB.out).mono ?_; have tk1 : Hid True := trivial; rintro e w2 ⟨b, mm, o', rfl, hbw, hrd, hk⟩; have HRD := Lib.hid hrd; have HK := Lib.hid hk; clear hbw hrd hk q0)
    | (go_at_call 55; clear tk1; refine (HT2.out _ _ _ HRD.out).mono ?_; rintro e w3 ⟨b3, m3, o3, rfl, hbw, hrd, hk⟩; have HBW3 := Lib.hid hbw; have HRD3 := Lib.hid hrd; have HK3 := Lib.hid hk; clear hbw hrd hk))
  go_ret
  exact ⟨_, _, rfl, HBW3.out, ⟨_, _, HRD3.out, sb_same⟩, ((Kg.of HB.out).tr HK.out).tr HK3.out⟩
theorem conv_nil (W : World) (k : Nat) : (convert 51 9 (.slice none 0 k)).run Tryz.prog W = .ok (.string ⟨#[]⟩) W := by kernel_rfl
/-- A slice of a string's bytes, as a string. -/
theorem str_bytes (W : World) (b : Option Addr) (n k : Nat) (s : ByteArray) (hn : n = s.size) (h : Bw W b n k (bytesN s)) :
    (convert 51 9 (.slice b n k)).run Tryz.prog W = .ok (.string s) W := by
  subst hn
  obtain ⟨h1, h2, h3, h4, h5⟩ := h
  have e : (⟨s.data.toList.toArray⟩ : ByteArray) = s := rfl
  have hlen : s.data.toList.length = s.size := by rw [Array.length_toList]; rfl
  rcases h5 with h5 | ⟨b', o, rfl, h6, h7⟩
  · have hs : s = ⟨#[]⟩ := by
      have : s.data.size = 0 := h5
      apply ByteArray.ext; exact Array.eq_empty_of_size_eq_zero this
    subst hs
    cases b with
    | none => exact conv_nil W k
    | some ad => exact run_convert_bytes_back W 51 9 5 ad k [] (by kernel_rfl) (by kernel_rfl) (by kernel_rfl) (fun j hj => by cases hj)
  · have := run_convert_bytes_back (P := Tryz.prog) W 51 9 5 ⟨b', o, none⟩ k s.data.toList (by kernel_rfl) (by kernel_rfl) (by kernel_rfl) (fun j hj => by
      rw [Addr.add_lit, h7 j (by omega), bytesN_bt s j (by omega), ← get_bt s j (by omega)]; rfl)
    rw [hlen] at this
    exact this
theorem rstringN_any (g : Nat) (a : Option Addr) (n c m : Nat) (ps r : List Nat) (s : ByteArray) (W : World) (h : Rd W g a n c ps 0) (hn : n ≤ 1000) (hps : ps = encN s.size ++ (bytesN s ++ r)) (hm : s.size ≤ m) (hm2 : m < 2097152) :
    Calls Tryz.prog 21 #[.pointer (some ⟨g, 0, none⟩), .int .i64 (m : Nat)] W (TookP g a (.string s) r W) := by
  have hl := bytesN_len s
  have HB := Lib.hid (rbytesN_any g a n c m ps (bytesN s) r W h hn (by rw [hl]; exact hps) (by omega) hm2)
  rw [hl] at HB
  clear h hps
  go_enter Tryz.func21, Tryz.ntmps21
  go_wp2_with (go_at_call 51; refine HB.out.mono ?_; rintro e w1 ⟨b, k, rfl, hbw, hr, hk⟩; have hcv := str_bytes w1 b s.size k s rfl hbw; have HR := Lib.hid hr; have HK := Lib.hid hk; clear hr hk hbw)
  go_ret
  exact ⟨rfl, HR.out, HK.out⟩
end Go.Proofs.YtfdododighjjpaaGreatDoor.Wi
