/- Contracts: the reference's Check and Spans; the law's spans, few, Fit. -/
import Derived.Test.YtfdododighjjpaaGreatDoorDaH
import Derived.Test.YtfdododighjjpaaGreatDoorDaU
namespace Go.Proofs.YtfdododighjjpaaGreatDoor.Dy
open Go.RowKit Go.PlainAid
set_option linter.unusedVariables false
set_option linter.unusedSimpArgs false
set_option maxHeartbeats 2000000

theorem ret_i {x y : Int} (h : x = y) : Ending.returned (.int .i64 x) = .returned (.int .i64 y) := by rw [h]
theorem infoPair : (Tryz.prog.info? 61).map (fun i => (i.zero, i.size, i.bytes)) = some (some (.agg #[.int .i64 0, .int .i64 0]), 2, 16) := by kernel_rfl
set_option maxRecDepth 100000 in
theorem lspans_any (a : Option Addr) (n cap : Nat) (l : List (Int × Int)) (w : World) (h : Ds w a n cap l) (hn : n ≤ 1000) :
    Calls Tryz.prog 27 #[.slice a n cap] w fun e w' => ∃ v', e = .returned v' ∧ RowKit.Below w.heap.size w w' ∧ Os 48 w' w.heap.size v' l := by
  obtain ⟨i0, hi, hz0, hz1, hz2⟩ := info_parts infoSpan
  obtain ⟨hl, hc, hm, h4⟩ := h
  unfold maxLen at hm
  have H4 := Lib.hid h4
  have HL := Lib.hid hl
  clear h4 hl
  go_enter Tryz.func27, Tryz.ntmps27
  go_wp2_with fail
  go_loopw [3, 8] (fun v3 v8 wr => ∃ j : Nat, j ≤ n ∧ v8 = .int .i64 j ∧ Hid ((l.take j).length = j) ∧ Os 48 wr w.heap.size v3 (l.take j) ∧ RowKit.Below w.heap.size w wr) (fun _ v _ => n - (intOf v).toNat)
  case atStart => exact ⟨0, by omega, rfl, rfl, Os.nil _ _ _, RowKit.Below.refl _ _⟩
  case round =>
    obtain ⟨j, hj, rfl, htl, hown, hbel⟩ := hrel
    have hz := hbel.size
    by_cases hjn : j < n
    · rcases H4.out with h0 | ⟨b, o, rfl, hb, hcell⟩
      · omega
      obtain ⟨⟨p1, p2⟩, hp⟩ : ∃ p, l[j]? = some p := ⟨_, List.getElem?_eq_getElem (by rw [HL.out]; exact hjn)⟩
      obtain ⟨c1, c2⟩ := hcell j _ hp
      have c1 := (hbel.cell (p := ⟨b, _, none⟩) hb).trans c1
      have c2 := (hbel.cell (p := ⟨b, _, none⟩) hb).trans c2
      dsimp only at c1 c2
      have hj0 : (0 : Int) ≤ (j : Int) := Int.natCast_nonneg _
      have hj1 : (j : Int) < (n : Int) := by omega
      have HT : Hid (l.take j ++ [(p1, p2)] = l.take (j + 1)) := (take_snoc' hp).symm
      have HTL : Hid ((l.take (j + 1)).length = j + 1) := by show _ = _; rw [List.length_take, HL.out]; omega
      have hown1 := (hown.alloc (.cells #[.int .i64 p1, .int .i64 p2] 61)).alloc (.cells #[.int .i64 p1, .int .i64 p2] 48)
      have hb2 := (hbel.alloc hz (.cells #[.int .i64 p1, .int .i64 p2] 61)).alloc (by simp; omega) (.cells #[.int .i64 p1, .int .i64 p2] 48)
      clear hcell hp
      go_wp2_with (at_builtin; refine wpList_append_ds rfl (.tmp 12) (.tmp 18) 23 48 rfl Tryz.underlying23 w.heap.size i0 hi hz0 hz1 hz2 _ _ rfl hown1 _ 1 1 [(p1, p2)] rfl (Ds.one _ _ _ _ _ (by simp)) (by rw [htl.out]; omega) (by simp; omega) ?_)
      intro v4 w4 hown4 hgr4
      have hb4 := hb2.grown hgr4 (by simp; omega) (fun b hb => (hown.lt b hb).1)
      rw [HT.out] at hown4
      clear hgr4 hown1 hown hbel hb2 c1 c2
      go_wp2_with fail
      go_roundw
      case rel => exact ⟨j + 1, by omega, by go_num, HTL.out, hown4, hb4⟩
      case measure => simp [intOf]; omega
    · obtain rfl : j = n := by omega
      rw [List.take_of_length_le (by rw [HL.out]; exact Nat.le_refl _)] at hown
      go_wp2_with fail
      go_ret
      exact ⟨_, rfl, hbel, hown⟩

def AtB (a : Option Addr) (n cap : Nat) : Prop := a = none ∧ n = 0 ∧ cap = 0 ∨ ∃ b o, a = some ⟨b, o, none⟩
theorem Ds.take {w : World} {a : Option Addr} {n cap : Nat} {l : List (Int × Int)} (h : Ds w a n cap l) (k : Nat) : Ds w a (min n k) cap (l.take k) := by
  obtain ⟨h1, h2, h3, h4⟩ := h
  refine ⟨by rw [List.length_take, h1]; omega, by omega, h3, ?_⟩
  rcases h4 with h4 | ⟨b, o, h4, hb, hc⟩
  · exact .inl (by omega)
  · exact .inr ⟨b, o, h4, hb, fun j p hp => hc j p (by
      rw [List.getElem?_take] at hp
      split at hp
      · exact hp
      · cases hp)⟩
end Go.Proofs.YtfdododighjjpaaGreatDoor.Dy
