/- Contracts: the reader's Bytes. -/
import Derived.Test.YtadomogbakcokaaGreatDoorCwC
namespace Go.Proofs.YtadomogbakcokaaGreatDoor
open Go.RowKit Go.PlainAid
set_option linter.unusedVariables false
set_option linter.unusedSimpArgs false
set_option maxHeartbeats 4000000
set_option maxRecDepth 20000

theorem number_yes (g : Nat) (a : Option Addr) (n c v : Nat) (ps : List Nat) (W : World) (h : Rd W g a n c ps 0) (hn : n ≤ 1000) (h0 : ps[0]? = some v) (hv : v < 128) :
    Calls Tryz.prog 137 #[.pointer (some ⟨g, 0, none⟩)] W fun r W' => r = .returned (.tuple #[.int .u64 (v : Nat), .int .i64 1]) ∧ Below W.heap.size W W' := by
  refine (number_any g a n c ps 0 W h hn).mono ?_
  rintro r W' ⟨u, k, rfl, h1, hb⟩
  rcases h1 with ⟨rfl, h1, h2⟩ | ⟨h1, _⟩
  · rw [h0] at h1; cases h1; exact ⟨rfl, hb⟩
  · exact absurd hv (h1 v h0)
theorem Rd.below {W W' : World} {g : Nat} {a : Option Addr} {n c : Nat} {ps : List Nat} {e : Int} (h : Rd W g a n c ps e) (hb : Below W.heap.size W W') : Rd W' g a n c ps e := ⟨h.1.below hb, h.2.1.below hb, h.2.2.1, h.2.2.2⟩
theorem rbytes_yes (g : Nat) (a : Option Addr) (n c v : Nat) (ps : List Nat) (W : World) (h : Rd W g a n c ps 0) (hn : n ≤ 100) (h0 : ps[0]? = some v) (hv : v < 128) (hvn : v + 1 ≤ n) :
    Calls Tryz.prog 111 #[.pointer (some ⟨g, 0, none⟩), .int .i64 512] W fun r W' => ∃ b m a' c', r = .returned (.slice b v m) ∧ Bw W' b v m ((ps.drop 1).take v) ∧ Rd W' g a' (n - 1 - v) c' ((ps.drop 1).drop v) 0 ∧ Kg g W W' := by
  obtain ⟨bb, oo, rfl, -, -, -, -⟩ := h.2.1.at0 (k := 0) (by omega)
  obtain ⟨n1, rfl⟩ : ∃ n1, n = n1 + 1 := ⟨n - 1, by omega⟩
  have q0 := h.1.at.1
  have HO := Lib.hid (rok_any g _ 0 true W h.1 rfl)
  have HNU := Lib.hid (number_yes g _ _ c v ps W h (by omega) h0 hv)
  have HT := Lib.hid (fun (W1 : World) (hb : Below W.heap.size W W1) => take_any g bb oo (n1 + 1) c 1 ps 0 W1 (h.below hb) (by omega) (by omega))
  have HT2 := Lib.hid (fun (o' : Nat) (W1 : World) (k : Rd W1 g (some ⟨bb, o', none⟩) (n1 + 1 - 1) (c - 1) (ps.drop 1) 0) => take_any g bb o' (n1 + 1 - 1) (c - 1) v (ps.drop 1) 0 W1 k (by omega) (by omega))
  have HG : g < W.heap.size := h.1.lt
  have hv5 : ¬ (512 : Int) < (v : Int) := by omega
  have hv6 : ¬ (n1 : Int) < (v : Int) := by omega
  have hn1 : (n1 : Int) ≤ 99 := by omega
  clear h h0
  have tk0 : Hid True := trivial
  go_enter Tryz.func111, Tryz.ntmps111
  go_wp2_with (first
    | (go_at_call 109; refine HO.out.mono ?_; rintro e w1 ⟨rfl, rfl⟩)
    | (go_at_call 136; (with_reducible refine (refuse_f _ _ _ _ ?_).mono ?_); (first | rfl | (apply decide_eq_false; omega) | (simp; omega)); rintro e w1 ⟨rfl, rfl⟩)
    | (go_at_call 137; refine HNU.out.mono ?_; rintro e w1 ⟨rfl, hb⟩; have HB := Lib.hid hb; replace q0 := (hb.cell (p := ⟨g, 0, none⟩) HG).trans q0; clear hb)
    | (go_at_call 138; clear tk0; refine (HT.out _ HB.out).mono ?_; have tk1 : Hid True := trivial; rintro e w2 ⟨b, m, o', rfl, hbw, hrd, hk⟩; have HRD := Lib.hid hrd; have HK := Lib.hid hk; clear hbw hrd hk q0)
    | (go_at_call 138; clear tk1; refine (HT2.out _ _ HRD.out).mono ?_; rintro e w3 ⟨b3, m3, o3, rfl, hbw, hrd, hk⟩; have HBW3 := Lib.hid hbw; have HRD3 := Lib.hid hrd; have HK3 := Lib.hid hk; clear hbw hrd hk))
  go_ret
  exact ⟨_, _, _, _, rfl, HBW3.out, HRD3.out, ((Kg.of HB.out).tr HK.out).tr HK3.out⟩
theorem rbytes_no (g : Nat) (a : Option Addr) (n c : Nat) (ps : List Nat) (W : World) (h : Rd W g a n c ps 0) (hn : n ≤ 100) (hno : ∀ v, ps[0]? = some v → v < 128 → ¬ v + 1 ≤ n) :
    Calls Tryz.prog 111 #[.pointer (some ⟨g, 0, none⟩), .int .i64 512] W fun r W' => ∃ e', e' ≠ 0 ∧ r = .returned (.slice none 0 0) ∧ At2T W' g (.slice a n c) (.int .i64 e') 143 ∧ Kg g W W' := by
  have q0 := h.1.at.1
  have HO := Lib.hid (rok_any g _ 0 true W h.1 rfl)
  have HNU := Lib.hid (number_any g _ _ c ps 0 W h (by omega))
  have HG : g < W.heap.size := h.1.lt
  have HR := Lib.hid (fun (W1 : World) e (hb : Below W.heap.size W W1) => refuse_yes g (.slice a n c) e W1 (h.1.below hb))
  have HL := Lib.hid h.2.1.1
  have HRD := Lib.hid h
  have HNO := Lib.hid hno
  clear h hno
  go_enter Tryz.func111, Tryz.ntmps111
  go_upto_region 4 with (first
    | (go_at_call 109; refine HO.out.mono ?_; rintro e w1 ⟨rfl, rfl⟩)
    | (go_at_call 136; (with_reducible refine (refuse_f _ _ _ _ ?_).mono ?_); (first | rfl | (apply decide_eq_false; omega) | (simp; omega)); rintro e w1 ⟨rfl, rfl⟩)
    | (go_at_call 137; refine HNU.out.mono ?_; rintro e w1 ⟨v, k, rfl, hnum, hb⟩; have HNM := Lib.hid hnum; have HB := Lib.hid hb; replace q0 := (hb.cell (p := ⟨g, 0, none⟩) HG).trans q0; clear hnum hb))
  have HA : Hid (At2T w1 g (.slice a n c) (.int .i64 0) 143) := HRD.out.1.below HB.out
  have hn2 : (n : Int) ≤ 100 := by omega
  rcases HNM.out with ⟨rfl, h1, h2⟩ | ⟨h1, h2⟩
  · have h3 := HNO.out v h1 h2
    have h4 : 1 ≤ n := by have := (List.getElem?_eq_some_iff.1 h1).1; have := HL.out; omega
    have h5 : (1 : Int) ≤ (n : Int) := by omega
    have h6 : ¬ (512 : Int) < (v : Int) := by omega
    have h7 : (n : Int) - 1 < (v : Int) := by omega
    clear h1 h2 h3 h4 HNM HNO HNU
    go_wp2_with (first
      | (go_at_call 136; (with_reducible refine (refuse_f _ _ _ _ ?_).mono ?_); (first | rfl | (apply decide_eq_false; omega) | (simp; omega)); rintro e w1 ⟨rfl, rfl⟩)
      | (go_at_call 136; (with_reducible refine (refuse_t _ _ (.slice a n c) _ _ HA.out ?_).mono ?_); (first | rfl | (apply decide_eq_true; omega) | (simp; omega)); rintro e w2 ⟨rfl, hat, hk⟩; have HAT := Lib.hid hat; have HK := Lib.hid hk; clear hat hk))
    go_ret
    exact ⟨_, by decide, rfl, HAT.out, (Kg.of HB.out).tr HK.out⟩
  · by_cases hk0 : k = 0
    · subst hk0
      clear h1 h2 HNM HNO HNU
      go_wp2_with (first
        | (go_at_call 136; (with_reducible refine (refuse_f _ _ _ _ ?_).mono ?_); (first | rfl | (apply decide_eq_false; omega) | (simp; omega)); rintro e w1 ⟨rfl, rfl⟩)
        | (go_at_call 136; (with_reducible refine (refuse_t _ _ (.slice a n c) _ _ HA.out ?_).mono ?_); (first | rfl | (apply decide_eq_true; omega) | (simp; omega)); rintro e w2 ⟨rfl, hat, hk⟩; have HAT := Lib.hid hat; have HK := Lib.hid hk; clear hat hk))
      go_ret
      exact ⟨_, by decide, rfl, HAT.out, (Kg.of HB.out).tr HK.out⟩
    · obtain ⟨h2, h3, h4⟩ := h2.resolve_left hk0
      have h5 : (1 : Int) ≤ (k : Int) := by omega
      have h6 : (k : Int) ≤ (n : Int) := by omega
      have h7 : (128 : Int) ≤ (v : Int) := by omega
      have h8 : (v : Int) < 18446744073709551616 := by omega
      clear h1 h2 h3 HNM HNO HNU
      by_cases hv5 : (512 : Int) < (v : Int)
      · go_wp2_with (first
          | (go_at_call 136; (with_reducible refine (refuse_f _ _ _ _ ?_).mono ?_); (first | rfl | (apply decide_eq_false; omega) | (simp; omega)); rintro e w1 ⟨rfl, rfl⟩)
          | (go_at_call 136; (with_reducible refine (refuse_t _ _ (.slice a n c) _ _ HA.out ?_).mono ?_); (first | rfl | (apply decide_eq_true; omega) | (simp; omega)); rintro e w2 ⟨rfl, hat, hk⟩; have HAT := Lib.hid hat; have HK := Lib.hid hk; clear hat hk))
        go_ret
        exact ⟨_, by decide, rfl, HAT.out, (Kg.of HB.out).tr HK.out⟩
      · go_wp2_with (first
          | (go_at_call 136; (with_reducible refine (refuse_f _ _ _ _ ?_).mono ?_); (first | rfl | (apply decide_eq_false; omega) | (simp; omega)); rintro e w1 ⟨rfl, rfl⟩)
          | (go_at_call 136; (with_reducible refine (refuse_t _ _ (.slice a n c) _ _ HA.out ?_).mono ?_); (first | rfl | (apply decide_eq_true; omega) | (simp; omega)); rintro e w2 ⟨rfl, hat, hk⟩; have HAT := Lib.hid hat; have HK := Lib.hid hk; clear hat hk))
        go_ret
        exact ⟨_, by decide, rfl, HAT.out, (Kg.of HB.out).tr HK.out⟩
end Go.Proofs.YtadomogbakcokaaGreatDoor
