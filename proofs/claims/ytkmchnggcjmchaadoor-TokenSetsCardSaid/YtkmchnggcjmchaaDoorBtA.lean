/- Contracts: word, trim, Has, Empty. -/
import Derived.Test.YtkmchnggcjmchaaDoorProg
import Derived.Test.YtkmchnggcjmchaaDoorBtSpec
import Derived.Test.YtkmchnggcjmchaaDoorMem
import Derived.Deep.QuietTactic
import Derived.BigQuiet
import Derived.RegionTactic
import Derived.BigRegion
import Derived.BigGuardPart
import Derived.Deep.RegionHeld3
import Derived.Laws.BitsAllLaws
import Derived.Outline
namespace Go.Proofs.YtkmchnggcjmchaaDoor.Bz
open Go.RowKit Go.PlainAid
set_option linter.unusedVariables false
set_option linter.unusedSimpArgs false
set_option maxHeartbeats 1000000

/-- Block b holds words. -/
def WB (w : World) (b : Nat) : Prop := b < w.heap.size ∧ ∃ cs fz, w.heap[b]? = some (.cells cs 69 fz)
theorem WB.below {w w' : World} {b : Nat} (h : WB w b) (hb : Below w.heap.size w w') : WB w' b := by
  obtain ⟨h1, cs, fz, h2⟩ := h
  exact ⟨Nat.lt_of_lt_of_le h1 hb.size, cs, fz, (hb.block b h1).trans h2⟩
theorem WB.set {w : World} {b : Nat} (h : WB w b) (p : Addr) (u : Value) : WB (w.setCell p u) b := by
  obtain ⟨h1, cs, fz, h2⟩ := h
  refine ⟨by simpa using h1, ?_⟩
  show ∃ cs' fz', (w.heap.modify p.block _)[b]? = some (.cells cs' 69 fz')
  rw [Array.getElem?_modify]
  split
  · rw [h2]; exact ⟨_, _, rfl⟩
  · exact ⟨cs, fz, h2⟩
/-- The slice (a, n, cap) holds the words ws. -/
def Wd (w : World) (a : Option Addr) (n cap : Nat) (ws : List Nat) : Prop :=
  ws.length = n ∧ n ≤ cap ∧ cap ≤ 9223372036854775807 ∧ (a = none ∧ n = 0 ∧ cap = 0 ∨ ∃ b o, a = some ⟨b, o, none⟩ ∧ WB w b ∧ ∀ j, j < n → w.cell? ⟨b, o + j, none⟩ = some (.int .u64 (wd ws j : Nat)))
/-- The value (a, n, cap) is the set l. -/
def Bs (w : World) (a : Option Addr) (n cap : Nat) (l : List Nat) : Prop := ∃ ws, Wd w a n cap ws ∧ Rp ws l
theorem Wd.below {w w' : World} {a : Option Addr} {n cap : Nat} {ws : List Nat} (h : Wd w a n cap ws) (hb : Below w.heap.size w w') : Wd w' a n cap ws := by
  obtain ⟨h1, h2, h3, h4⟩ := h
  refine ⟨h1, h2, h3, ?_⟩
  rcases h4 with h4 | ⟨b, o, h4, h5, h6⟩
  · exact .inl h4
  · exact .inr ⟨b, o, h4, h5.below hb, fun j hj => (hb.cell (p := ⟨b, o + j, none⟩) h5.1).trans (h6 j hj)⟩
theorem Bs.below {w w' : World} {a : Option Addr} {n cap : Nat} {l : List Nat} (h : Bs w a n cap l) (hb : Below w.heap.size w w') : Bs w' a n cap l := by
  obtain ⟨ws, h1, h2⟩ := h
  exact ⟨ws, h1.below hb, h2⟩
theorem Bs.nil (w : World) : Bs w none 0 0 [] := ⟨[], ⟨rfl, Nat.le_refl _, by omega, .inl ⟨rfl, rfl, rfl⟩⟩, Rp.nil⟩
theorem Bs.le {w : World} {a : Option Addr} {n cap : Nat} {l : List Nat} (h : Bs w a n cap l) : n ≤ 64 := by
  obtain ⟨ws, h1, h2⟩ := h; rw [← h1.1]; exact h2.2.2.1

theorem bdr {B : Nat} {a w : World} (h : Below B a w) (n : Nat) : Below B a (w.drewN n) := h.trans ⟨rfl, rfl, rfl, Nat.le_refl _, fun _ _ => rfl⟩
theorem bel1 {w w2 : World} {o : Obj} (hb2 : Below (w.alloc o).heap.size (w.alloc o) w2) : Below w.heap.size w w2 :=
  ((Below.refl _ _).alloc (Nat.le_refl _) _).trans (hb2.mono (by simp))
theorem bel2 {w w2 : World} {o o2 : Obj} (hb2 : Below ((w.alloc o).alloc o2).heap.size ((w.alloc o).alloc o2) w2) : Below w.heap.size w w2 := bel1 (bel1 hb2)
theorem bel3 {w w2 : World} {o o2 o3 : Obj} (hb2 : Below (((w.alloc o).alloc o2).alloc o3).heap.size (((w.alloc o).alloc o2).alloc o3) w2) : Below w.heap.size w w2 := bel1 (bel2 hb2)
theorem word_any (a : Option Addr) (n cap k : Nat) (ws : List Nat) (w : World) (h : Wd w a n cap ws) (hk : k ≤ 4096) :
    Calls Tryd.prog 63 #[.agg #[.slice a n cap], .int .i64 k] w fun e w' => e = .returned (.int .u64 (wd ws k : Nat)) ∧ Below w.heap.size w w' := by
  obtain ⟨h1, h2, h3, h4⟩ := h
  by_cases hkn : k < n
  · rcases h4 with ⟨rfl, h4, _⟩ | ⟨b, o, rfl, ⟨hb, -⟩, hc⟩
    · omega
    · have hck := hc k hkn
      generalize wd ws k = x at *
      have hk2 : (k : Int) < (n : Int) := by omega
      clear hc h1
      go_enter Tryd.func63, Tryd.ntmps63
      go_wp2_with fail
      go_returns
      exact ⟨rfl, by go_grown⟩
  · rw [wd_out (by omega)]
    have hk2 : ¬ (k : Int) < (n : Int) := by omega
    clear h4 h1
    go_enter Tryd.func63, Tryd.ntmps63
    go_wp2_with fail
    go_returns
    exact ⟨rfl, by go_grown⟩

theorem word_at (a : Option Addr) (n cap k : Nat) (i : Int) (ws : List Nat) (w : World) (hi : i = k) (h : Wd w a n cap ws) (hk : k ≤ 4096) :
    Calls Tryd.prog 63 #[.agg #[.slice a n cap], .int .i64 i] w fun e w' => e = .returned (.int .u64 (wd ws k : Nat)) ∧ Below w.heap.size w w' := by
  subst hi; exact word_any a n cap k ws w h hk

def hasB (l : List Nat) (i : Int) : Bool := decide (0 ≤ i) && decide (i.toNat ∈ l)
theorem has_bit (x j : Nat) (hx : x < 18446744073709551616) (hj : j < 64) : (bits .and .u64 ((x : Int) / 2 ^ j) 1 == 1) = x.testBit j := by
  have h1 : ((x : Int) / 2 ^ j) = ((x / 2 ^ j : Nat) : Int) := by rw [Int.natCast_ediv]; simp
  have h2 := u64_and_nat (x / 2 ^ j) 1 (Nat.lt_of_le_of_lt (Nat.div_le_self _ _) hx) (by omega)
  rw [h1]
  have h3 : bits .and .u64 ((x / 2 ^ j : Nat) : Int) 1 = ((x / 2 ^ j &&& 1 : Nat) : Int) := h2
  rw [h3, Nat.testBit_eq_decide_div_mod_eq, Nat.and_one_is_mod]
  rw [Bool.eq_iff_iff, beq_iff_eq, decide_eq_true_iff]
  omega

theorem has_any (a : Option Addr) (n cap : Nat) (l : List Nat) (i : Int) (w : World) (h : Bs w a n cap l) :
    Calls Tryd.prog 39 #[.agg #[.slice a n cap], .int .i64 i] w fun e w' => e = .returned (.bool (hasB l i)) ∧ Below w.heap.size w w' := by
  obtain ⟨ws, hw, hr⟩ := h
  by_cases h0 : 0 ≤ i
  · obtain ⟨k, rfl⟩ : ∃ k : Nat, i = k := ⟨i.toNat, by omega⟩
    by_cases h1 : k ≤ 4095
    · have hv : hasB l k = mem ws k := by unfold hasB; rw [hr.mem_dec]; simp
      rw [hv]
      have hb := has_bit (wd ws (k / 64)) (k % 64) (wd_lt hr.1 _) (by omega)
      have hW := Lib.hid (fun w' (hb : Below w.heap.size w w') => word_at a n cap (k / 64) ((k : Int) / 64) ws w' (by omega) (hw.below hb) (by omega))
      unfold mem
      rw [← hb]
      generalize wd ws (k / 64) = x at *
      clear hw hr hb hv
      have h2 : (k : Int) ≤ 4095 := by omega
      go_enter Tryd.func39, Tryd.ntmps39
      go_wp2_with (go_at_call 63; refine (hW.out _ (by go_grown)).mono ?_; rintro e w2 ⟨rfl, hb2⟩)
      go_returns
      exact ⟨rfl, bel1 hb2⟩
    · have h2 : ¬ (k : Int) ≤ 4095 := by omega
      have h3 : (decide ((k : Int) ≤ 4095)) = false := decide_eq_false h2
      have hv : hasB l k = false := by
        unfold hasB
        have : ¬ k ∈ l := fun hk => by have := hr.asc.2 k hk; omega
        simp [this]
      rw [hv]
      clear hw hr hv h1
      go_enter Tryd.func39, Tryd.ntmps39
      go_wp2_with fail
      go_returns
      exact ⟨rfl, by go_grown⟩
  · have hv : hasB l i = false := by unfold hasB; simp [h0]
    have h3 : (decide (0 ≤ i)) = false := decide_eq_false h0
    rw [hv]
    clear hw hr hv
    go_enter Tryd.func39, Tryd.ntmps39
    go_wp2_with fail
    go_returns
    exact ⟨rfl, by go_grown⟩

def SetPost (w : World) (l : List Nat) (e : Ending) (w' : World) : Prop := ∃ a n cap, e = .returned (.agg #[.slice a n cap]) ∧ Bs w' a n cap l ∧ Below w.heap.size w w'
def TrimRel (a : Option Addr) (n cap : Nat) (ws : List Nat) (v : Value) : Prop := ∃ m, m ≤ n ∧ v = .slice a m cap ∧ ∀ k, m ≤ k → wd ws k = 0
theorem Wd.pre {w : World} {a : Option Addr} {n cap m : Nat} {ws : List Nat} (h : Wd w a n cap ws) (hm : m ≤ n) : Wd w a m cap (ws.take m) := by
  obtain ⟨h1, h2, h3, h4⟩ := h
  refine ⟨by rw [List.length_take]; omega, by omega, h3, ?_⟩
  rcases h4 with ⟨h4, h5, h6⟩ | ⟨b, o, h4, h5, h6⟩
  · exact .inl ⟨h4, by omega, h6⟩
  · refine .inr ⟨b, o, h4, h5, fun j hj => ?_⟩
    rw [h6 j (by omega)]
    unfold wd
    rw [List.getD_eq_getElem?_getD, List.getD_eq_getElem?_getD, List.getElem?_take_of_lt hj]

theorem trim_any (a : Option Addr) (n cap : Nat) (ws l : List Nat) (w : World) (h : Wd w a n cap ws) (hu : U64 ws) (hl : ws.length ≤ 64) (ha : Asc l) (hm : ∀ i, i < 4096 → (i ∈ l ↔ mem ws i = true)) :
    Calls Tryd.prog 38 #[.slice a n cap] w (SetPost w l) := by
  have HW := Lib.hid h
  have HT := Lib.hid (fun m (hmn : m ≤ n) hz he => trim_rp (n := m) (by rw [h.1]; exact hmn) hu hl hz he ha hm)
  obtain ⟨h1, h2, h3, h4⟩ := h
  have hz0 := Lib.hid (fun k (hk : n ≤ k) => wd_out (ws := ws) (k := k) (by omega))
  have fin : Hid (∀ m, m ≤ n → (∀ k, m ≤ k → wd ws k = 0) → (∀ k, k + 1 = m → wd ws k ≠ 0) → ∀ w', Below w.heap.size w w' → Bs w' a m cap l) := 
    fun m hmn hz he w' hb => ⟨_, (HW.out.pre hmn).below hb, HT.out m hmn hz he⟩
  clear HW HT h1 ha hm hu hl
  rcases h4 with ⟨rfl, rfl, rfl⟩ | ⟨b, o, rfl, ⟨hb, -⟩, hc⟩
  · go_enter Tryd.func38, Tryd.ntmps38
    go_wp2_with fail
    go_loop [0] (fun v => v = .slice none 0 0) (fun _ => 0)
    case atStart => rfl
    case round =>
      obtain rfl := hrel
      go_wp2_with fail
      go_returns
      exact ⟨_, _, _, rfl, fin.out 0 (Nat.le_refl _) hz0.out (by omega) _ (by go_grown), by go_grown⟩
  · have HC := Lib.hid hc
    clear hc
    go_enter Tryd.func38, Tryd.ntmps38
    go_wp2_with fail
    go_loop [0] (TrimRel (some ⟨b, o, none⟩) n cap ws) (fun v => match v with | .slice _ m _ => m | _ => 0)
    case atStart => exact ⟨n, Nat.le_refl _, rfl, hz0.out⟩
    case round =>
      obtain ⟨m, hmn, rfl, hz⟩ := hrel
      have HZ := Lib.hid hz
      clear hz
      by_cases hm0 : m = 0
      · subst hm0
        go_wp2_with fail
        go_returns
        exact ⟨_, _, _, rfl, fin.out 0 hmn HZ.out (by omega) _ (by go_grown), by go_grown⟩
      · have hck := HC.out (m - 1) (by omega)
        have hm1 : (0 : Int) < (m : Int) := by omega
        have hm2 : 0 < m := by omega
        by_cases hx : wd ws (m - 1) = 0
        · rw [hx] at hck
          have HX := Lib.hid hx
          clear hx hm0
          go_wp2_with fail
          go_round
          case rel => exact ⟨m - 1, by omega, by go_num, fun k hk => by
            by_cases hkm : k = m - 1
            · rw [hkm]; exact HX.out
            · exact HZ.out k (by omega)⟩
          case measure => simp; omega
        · have HX := Lib.hid hx
          have hx1 : (((wd ws (m - 1) : Nat) : Int) == 0) = false := beq_eq_false_iff_ne.2 (by omega)
          clear hx hm0
          go_wp2_with fail
          go_returns
          exact ⟨_, _, _, rfl, fin.out m hmn HZ.out (fun k hk => by rw [show k = m - 1 by omega]; exact HX.out) _ (by go_grown), by go_grown⟩
end Go.Proofs.YtkmchnggcjmchaaDoor.Bz
