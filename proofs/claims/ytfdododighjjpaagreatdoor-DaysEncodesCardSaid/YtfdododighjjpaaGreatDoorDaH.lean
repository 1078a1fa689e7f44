/- The reference's flags: memory; contracts of the reference's Len, Next, Of. -/
import Derived.Test.YtfdododighjjpaaGreatDoorDaF
import Derived.Laws.OwnMore
import Derived.OwnWalk
namespace Go.Proofs.YtfdododighjjpaaGreatDoor.Dy
open Go.RowKit Go.PlainAid
set_option linter.unusedVariables false
set_option linter.unusedSimpArgs false
set_option maxHeartbeats 2000000

theorem infoBool : (Tryz.prog.info? 4).map (fun i => (i.zero, i.size, i.bytes)) = some (some (.bool false), 1, 1) := by kernel_rfl

/-- The slice (a, 30001, cap) holds the flags S. -/
def Fl (w : World) (a : Option Addr) (cap : Nat) (S : Int → Bool) : Prop :=
  30001 ≤ cap ∧ cap ≤ maxLen ∧ ∃ b o, a = some ⟨b, o, none⟩ ∧ b < w.heap.size ∧ ∀ k : Nat, k < 30001 → w.cell? ⟨b, o + k, none⟩ = some (.bool (S k))
theorem Fl.below {w w' : World} {a : Option Addr} {cap N : Nat} {S : Int → Bool} (h : Fl w a cap S) (hb : Below N w w') (hN : w.heap.size ≤ N) : Fl w' a cap S := by
  obtain ⟨h1, h2, b, o, ha, hlt, hc⟩ := h
  exact ⟨h1, h2, b, o, ha, Nat.lt_of_lt_of_le hlt hb.size, fun k hk => (hb.cell (p := ⟨b, o + k, none⟩) (Nat.lt_of_lt_of_le hlt hN)).trans (hc k hk)⟩
theorem Fl.congr {w : World} {a : Option Addr} {cap : Nat} {S T : Int → Bool} (h : Fl w a cap S) (hST : ∀ d : Int, 0 ≤ d → d ≤ 30000 → S d = T d) : Fl w a cap T := by
  obtain ⟨h1, h2, b, o, ha, hlt, hc⟩ := h
  exact ⟨h1, h2, b, o, ha, hlt, fun k hk => by rw [← hST k (by omega) (by omega)]; exact hc k hk⟩
/-- The block g holds the flags S, and may be written. -/
def Fo (w : World) (g : Nat) (S : Int → Bool) : Prop :=
  g < w.heap.size ∧ (∀ k : Nat, k < 30001 → w.cell? ⟨g, k, none⟩ = some (.bool (S k))) ∧ ∀ j : Nat, w.frozen? ⟨g, j, none⟩ = false
theorem Fo.below {w w' : World} {g N : Nat} {S : Int → Bool} (h : Fo w g S) (hb : Below N w w') (hg : g < N) : Fo w' g S :=
  ⟨Nat.lt_of_lt_of_le h.1 hb.size, fun k hk => (hb.cell (p := ⟨g, k, none⟩) hg).trans (h.2.1 k hk), fun j => (hb.frozen (p := ⟨g, j, none⟩) hg).trans (h.2.2 j)⟩
theorem Fo.alloc {w : World} {g : Nat} {S : Int → Bool} (h : Fo w g S) (o : Obj) : Fo (w.alloc o) g S := h.below ((Below.refl w.heap.size w).alloc (Nat.le_refl _) o) h.1
theorem Fo.congr {w : World} {g : Nat} {S T : Int → Bool} (h : Fo w g S) (hST : ∀ d : Int, 0 ≤ d → d ≤ 30000 → S d = T d) : Fo w g T :=
  ⟨h.1, fun k hk => by rw [← hST k (by omega) (by omega)]; exact h.2.1 k hk, h.2.2⟩
def setF (S : Int → Bool) (k : Int) (x : Bool) : Int → Bool := fun d => match decide (d = k) with | true => x | false => S d
theorem setF_same (S : Int → Bool) (k : Int) (x : Bool) : setF S k x k = x := by unfold setF; rw [decide_eq_true rfl]
theorem setF_other (S : Int → Bool) (k d : Int) (x : Bool) (h : d ≠ k) : setF S k x d = S d := by unfold setF; rw [decide_eq_false h]
theorem Fo.set {w : World} {g : Nat} {S : Int → Bool} (h : Fo w g S) (k : Nat) (hk : k < 30001) (x : Bool) : Fo (w.setCell ⟨g, k, none⟩ (.bool x)) g (setF S k x) := by
  obtain ⟨h1, h2, h3⟩ := h
  refine ⟨by simpa using h1, fun j hj => ?_, fun j => by rw [World.frozen?_setCell]; exact h3 j⟩
  by_cases hjk : j = k
  · subst hjk
    rw [World.cell?_setCell_same _ _ _ (h2 j hj), setF_same]
  · rw [World.cell?_setCell_other _ _ _ _ (by simp <;> omega), h2 j hj, setF_other _ _ _ _ (by omega)]
theorem Fo.fl {w : World} {g : Nat} {S : Int → Bool} (h : Fo w g S) : Fl w (some ⟨g, 0, none⟩) 30001 S :=
  ⟨Nat.le_refl _, by unfold maxLen; omega, g, 0, rfl, h.1, fun k hk => by rw [Nat.zero_add]; exact h.2.1 k hk⟩
theorem made_bool (q j : Nat) (h : j < q) : (madeCells #[Value.bool false] q).toList[j]? = some (.bool false) := by
  have : j % 1 = 0 := Nat.mod_one j
  simp [madeCells, h, this]
theorem Fo.new {w : World} {B g : Nat} (h : w.ownsRow B 4 1 (.slice (some ⟨g, 0, none⟩) 30001 30001) 30001 (madeCells #[Value.bool false] (30001 * 1)).toList) : Fo w g (fun _ => false) := by
  refine ⟨(World.ownsRow.lt h g rfl).2, fun k hk => ?_, fun j => World.ownsRow.frozenAt h j⟩
  rw [World.ownsRow.cellAt h k (by omega)]
  exact made_bool _ _ (by omega)

theorem rlen_any (a : Option Addr) (cap : Nat) (S : Int → Bool) (w : World) (h : Fl w a cap S) :
    Calls Tryz.prog 39 #[.slice a 30001 cap] w fun e w' => e = .returned (.int .i64 (cntN S 30001)) ∧ Below w.heap.size w w' := by
  obtain ⟨h1, h2, b, o, rfl, hb, hc⟩ := h
  have HC := Lib.hid hc
  clear hc
  unfold maxLen at h2
  go_enter Tryz.func39, Tryz.ntmps39
  go_wp2_with fail
  go_loop [3, 8] (fun v3 v8 => ∃ (k : Nat) (s : Int), k ≤ 30001 ∧ v8 = .int .i64 k ∧ v3 = .int .i64 s ∧ 0 ≤ s ∧ s ≤ k ∧ Hid (s = cntN S k)) (fun _ v => 30001 - (intOf v).toNat)
  case atStart => exact ⟨0, 0, by omega, rfl, rfl, by omega, by omega, rfl⟩
  case round =>
    obtain ⟨k, s, hk, rfl, rfl, hs0, hs1, hs⟩ := hrel
    have hk0 : (0 : Int) ≤ (k : Int) := Int.natCast_nonneg _
    by_cases hlt : k < 30001
    · have hck := HC.out k hlt
      have e1 : IntKind.i64.wrap (s + 1) = s + 1 := by rw [IntKind.wrap_i64]; omega
      have hk1 : (k : Int) < 30001 := by omega
      cases hS : S k with
      | true =>
        rw [hS] at hck
        have HN : Hid (s + 1 = cntN S (k + 1)) := by show _ = _; unfold cntN; rw [hS, ← hs.out]
        clear hS
        go_wp2_with fail
        go_round
        case rel => exact ⟨k + 1, s + 1, by omega, by go_num, rfl, by omega, by omega, HN.out⟩
        case measure => simp [intOf]; omega
      | false =>
        rw [hS] at hck
        have HN : Hid (s = cntN S (k + 1)) := by show _ = _; unfold cntN; rw [hS, ← hs.out]; simp
        clear hS
        go_wp2_with fail
        go_round
        case rel => exact ⟨k + 1, s, by omega, by go_num, rfl, by omega, by omega, HN.out⟩
        case measure => simp [intOf]; omega
    · obtain rfl : k = 30001 := by omega
      have HN : Hid (s = cntN S 30001) := hs
      clear hs
      go_wp2_with fail
      go_ret
      exact ⟨by rw [← HN.out]; rfl, Below.refl _ _⟩

/-- The first flag from d on. -/
def nxtF (S : Int → Bool) (d r : Int) : Prop := (r = -1 ∧ ∀ x : Int, d ≤ x → 0 ≤ x → x ≤ 30000 → S x = false) ∨ (d ≤ r ∧ 0 ≤ r ∧ r ≤ 30000 ∧ S r = true ∧ ∀ x : Int, d ≤ x → 0 ≤ x → x < r → S x = false)
set_option maxRecDepth 100000 in
theorem rof_any (a : Option Addr) (n cap : Nat) (l : List (Int × Int)) (w : World) (h : Ds w a n cap l) (hok : ∀ p ∈ l, Okp p) :
    Calls Tryz.prog 35 #[.slice a n cap] w fun e w' => ∃ g, e = .returned (.slice (some ⟨g, 0, none⟩) 30001 30001) ∧ Fo w' g (Dm l) ∧ Below w.heap.size w w' := by
  obtain ⟨i0, hi, hz0, hz1, hz2⟩ := info_parts infoBool
  obtain ⟨hl, hc, hm, h4⟩ := h
  unfold maxLen at hm
  have H4 := Lib.hid h4
  have HL := Lib.hid hl
  have HO := Lib.hid hok
  clear h4 hl hok
  go_enter Tryz.func35, Tryz.ntmps35
  go_wp2_with (refine wpList_make_full _ rfl (.const (.int .i64 30001)) (.const (.int .i64 30001)) 29 rfl w.heap.size 4 i0 (.bool false) 1 Tryz.underlying29 hi hz0 hz1 .i64 .i64 30001 30001 30001 rfl rfl rfl rfl (by rw [hz2]; omega) (by unfold maxLen; omega) (Nat.le_refl _) ?_)
  intro w1 hown hgr
  have hfo := Fo.new hown
  have hb1 : Below w.heap.size w w1 := (Below.refl _ _).grown hgr (Nat.le_refl _) (fun b hb => by cases hb)
  clear hown hgr
  generalize hg : w.heap.size = g0 at hfo
  have HG := Lib.hid hg
  clear hg hi hz0 hz1 hz2
  go_wp2_with fail
  go_loopw [10] (fun v10 wr => ∃ (j : Nat) (S : Int → Bool), j ≤ n ∧ v10 = .int .i64 j ∧ Fo wr g0 S ∧ Hid (∀ d : Int, 0 ≤ d → d ≤ 30000 → S d = Dm (l.take j) d) ∧ Below w.heap.size w wr) (fun v _ => n - (intOf v).toNat)
  case atStart => exact ⟨0, _, by omega, rfl, hfo, fun _ _ _ => rfl, hb1⟩
  case round =>
    obtain ⟨j, S, hj, rfl, hF, hpre, hbel⟩ := hrel
    by_cases hjn : j < n
    · rcases H4.out with h0 | ⟨b, o, rfl, hb, hcell⟩
      · omega
      obtain ⟨⟨p1, p2⟩, hp⟩ : ∃ p, l[j]? = some p := ⟨_, List.getElem?_eq_getElem (by rw [HL.out]; exact hjn)⟩
      obtain ⟨c1, c2⟩ := hcell j _ hp
      have c1 := (hbel.cell (p := ⟨b, _, none⟩) hb).trans c1
      have c2 := (hbel.cell (p := ⟨b, _, none⟩) hb).trans c2
      dsimp only at c1 c2
      have hok := HO.out _ (List.mem_of_getElem? hp)
      unfold Okp at hok
      dsimp only at hok
      have HP := Lib.hid hp
      have hj0 : (0 : Int) ≤ (j : Int) := Int.natCast_nonneg _
      have hj1 : (j : Int) < (n : Int) := by omega
      have hF1 := hF.alloc (.cells #[.int .i64 p1, .int .i64 p2] 61)
      have hgl := hF.1
      have hz := hbel.size
      have hne : g0 ≠ wr.heap.size := by omega
      have hb2 := hbel.alloc hz (.cells #[.int .i64 p1, .int .i64 p2] 61)
      clear hcell hp hF
      obtain ⟨a0, ha0⟩ : ∃ a0 : Nat, p1 = a0 := ⟨p1.toNat, by omega⟩
      subst ha0
      go_wp2_with fail
      go_loopw [6] (fun v6 wr2 => ∃ (d : Nat) (T : Int → Bool), a0 ≤ d ∧ (d : Int) ≤ p2 + 1 ∧ v6 = .int .i64 d ∧ Fo wr2 g0 T ∧ Hid (∀ x : Int, 0 ≤ x → x ≤ 30000 → T x = (S x || (decide ((a0 : Int) ≤ x) && decide (x < d)))) ∧ Below w.heap.size w wr2 ∧ wr2.cell? ⟨wr.heap.size, 0, none⟩ = some (.int .i64 a0) ∧ wr2.cell? ⟨wr.heap.size, 1, none⟩ = some (.int .i64 p2)) (fun v _ => (p2 + 1).toNat - (intOf v).toNat)
      case atStart => exact ⟨a0, S, by omega, by omega, rfl, hF1, fun x h0 h1 => by
        have : (decide ((a0 : Int) ≤ x) && decide (x < (a0 : Int))) = false := by simp
        rw [this, Bool.or_false], hb2, by simp, by simp⟩
      case round =>
        obtain ⟨d, T, hd0, hd1, rfl, hFT, hT, hb3, k0, k1⟩ := hrel
        have hd2 : (0 : Int) ≤ (d : Int) := Int.natCast_nonneg _
        by_cases hdp : (d : Int) ≤ p2
        · have hcd := hFT.2.1 d (by omega)
          have hfd := hFT.2.2 d
          have hd3 : (d : Int) < 30001 := by omega
          have hnew := hFT.set d (by omega) true
          have HT : Hid (∀ x : Int, 0 ≤ x → x ≤ 30000 → setF T d true x = (S x || (decide ((a0 : Int) ≤ x) && decide (x < ((d + 1 : Nat) : Int))))) := fun x h0 h1 => by
            by_cases hx : x = d
            · subst hx
              rw [setF_same]
              have : (decide ((a0 : Int) ≤ (d : Int)) && decide ((d : Int) < ((d + 1 : Nat) : Int))) = true := by simp; omega
              rw [this, Bool.or_true]
            · rw [setF_other _ _ _ _ hx, hT.out x h0 h1]
              congr 2
              exact decide_eq_decide.2 (by omega)
          have e1 : IntKind.i64.wrap ((d : Int) + 1) = (d : Int) + 1 := by rw [IntKind.wrap_i64]; omega
          have hb4 := hb3.setCell (p := ⟨g0, d, none⟩) (by have := HG.out; show w.heap.size ≤ g0; omega) (.bool true)
          clear hT hF1 hFT
          go_wp2_with fail
          go_roundw
          case rel => exact ⟨d + 1, _, by omega, by omega, by go_num, hnew, HT.out, hb4, by rw [World.cell?_setCell_other _ _ _ _ (by simp <;> omega)]; exact k0, by rw [World.cell?_setCell_other _ _ _ _ (by simp <;> omega)]; exact k1⟩
          case measure => simp [intOf]; omega
        · have hdp2 : (d : Int) = p2 + 1 := by omega
          have HN : Hid (∀ x : Int, 0 ≤ x → x ≤ 30000 → T x = Dm (l.take (j + 1)) x) := fun x h0 h1 => by
            rw [hT.out x h0 h1, hpre.out x h0 h1, take_snoc' HP.out, dm_append, dm_cons, dm_nil, Bool.or_false]
            congr 2
            exact decide_eq_decide.2 (by dsimp only; omega)
          clear hT hpre hdp2
          go_wp2_with fail
          go_roundw
          case rel => exact ⟨j + 1, T, by omega, by go_num, hFT, HN.out, hb3⟩
          case measure => simp [intOf]; omega
    · obtain rfl : j = n := by omega
      have HN : Hid (∀ x : Int, 0 ≤ x → x ≤ 30000 → S x = Dm l x) := fun x h0 h1 => by
        rw [hpre.out x h0 h1, List.take_of_length_le (by rw [HL.out]; exact Nat.le_refl _)]
      clear hpre
      go_wp2_with fail
      go_ret
      exact ⟨_, rfl, hF.congr HN.out, hbel⟩
end Go.Proofs.YtfdododighjjpaaGreatDoor.Dy
