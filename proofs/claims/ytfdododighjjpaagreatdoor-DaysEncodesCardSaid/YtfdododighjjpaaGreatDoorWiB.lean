/- Package wire: numbers of several bytes: groups, Reverse, the reader's number. -/
import Derived.Test.YtfdododighjjpaaGreatDoorWiA
import Derived.Laws.Bits64b
namespace Go.Proofs.YtfdododighjjpaaGreatDoor.Wi
open Go.RowKit Go.PlainAid
set_option linter.unusedVariables false
set_option linter.unusedSimpArgs false
set_option maxHeartbeats 4000000
set_option maxRecDepth 20000

/-- The further groups of a number, the low one first. -/
def contG (q : Nat) : List Nat := if h : q = 0 then [] else (128 + q % 128) :: contG (q / 128)
termination_by q
decreasing_by omega
theorem contG_zero : contG 0 = [] := by rw [contG]; simp
theorem contG_pos {q : Nat} (h : q ≠ 0) : contG q = (128 + q % 128) :: contG (q / 128) := by rw [contG, dif_neg h]
def lowE (v : Nat) : List Nat := v % 128 :: contG (v / 128)
def encN (v : Nat) : List Nat := (lowE v).reverse
def decF (a b : Nat) : Nat := a * 128 + b % 128
theorem contG_val (q : Nat) : (contG q).foldr (fun b a => decF a b) 0 = q := by
  induction q using Nat.strongRecOn with
  | _ q ih =>
    by_cases h : q = 0
    · subst h; rw [contG_zero]; rfl
    · rw [contG_pos h, List.foldr_cons, ih (q / 128) (by omega)]
      unfold decF; omega
theorem enc_val (v : Nat) : (encN v).foldl decF 0 = v := by
  unfold encN
  rw [List.foldl_reverse]
  show decF ((contG (v / 128)).foldr (fun b a => decF a b) 0) (v % 128) = v
  rw [contG_val]; unfold decF; omega
theorem contG_high (q : Nat) : ∀ b ∈ contG q, 128 ≤ b ∧ b < 256 := by
  induction q using Nat.strongRecOn with
  | _ q ih =>
    intro b hb
    by_cases h : q = 0
    · subst h; rw [contG_zero] at hb; cases hb
    · rw [contG_pos h] at hb
      rcases List.mem_cons.1 hb with rfl | hb
      · omega
      · exact ih (q / 128) (by omega) b hb
theorem contG_last (q : Nat) : ∀ b, (contG q).getLast? = some b → b ≠ 128 := by
  induction q using Nat.strongRecOn with
  | _ q ih =>
    intro b hb
    by_cases h : q = 0
    · subst h; rw [contG_zero] at hb; cases hb
    · rw [contG_pos h] at hb
      by_cases h2 : q / 128 = 0
      · rw [h2, contG_zero] at hb
        simp at hb
        omega
      · rw [contG_pos h2, List.getLast?_cons_cons, ← contG_pos h2] at hb
        exact ih (q / 128) (by omega) b hb
theorem contG_len (q k : Nat) (h : q < 128 ^ k) : (contG q).length ≤ k := by
  induction k generalizing q with
  | zero => have : q = 0 := by simpa using h
            subst this; rw [contG_zero]; simp
  | succ k ih =>
    by_cases h0 : q = 0
    · subst h0; rw [contG_zero]; simp
    · rw [contG_pos h0, List.length_cons]
      have := ih (q / 128) (by rw [Nat.pow_succ] at h; omega)
      omega
theorem enc_len (v : Nat) : 1 ≤ (encN v).length ∧ (v < 2097152 → (encN v).length ≤ 3) ∧ (v < 128 → encN v = [v]) := by
  unfold encN lowE
  refine ⟨by simp, fun h => ?_, fun h => ?_⟩
  · have := contG_len (v / 128) 2 (by omega)
    simp; omega
  · have e : v / 128 = 0 := by omega
    rw [e, contG_zero, Nat.mod_eq_of_lt h]; rfl
theorem enc_lt (v : Nat) : ∀ b ∈ encN v, b < 256 := by
  intro b hb
  unfold encN lowE at hb
  rw [List.mem_reverse] at hb
  rcases List.mem_cons.1 hb with rfl | hb
  · omega
  · exact (contG_high _ b hb).2
/-- A number's bytes: the last is below 128, those before are not; the first is not 128. -/
theorem enc_at (v k b : Nat) (h : (encN v)[k]? = some b) : (k + 1 = (encN v).length → b < 128) ∧ (k + 1 < (encN v).length → 128 ≤ b ∧ b < 256) ∧ (k = 0 → b ≠ 128) := by
  have hk : k < (encN v).length := (List.getElem?_eq_some_iff.1 h).1
  have hl : (encN v).length = (contG (v / 128)).length + 1 := by unfold encN lowE; simp
  have hr : (lowE v)[(encN v).length - 1 - k]? = some b := by
    unfold encN at h hk ⊢
    rw [List.length_reverse] at hk ⊢
    rw [List.getElem?_reverse hk] at h
    exact h
  refine ⟨fun e => ?_, fun e => ?_, fun e => ?_⟩
  · rw [show (encN v).length - 1 - k = 0 by omega] at hr
    unfold lowE at hr
    simp at hr; omega
  · obtain ⟨j, hj⟩ : ∃ j, (encN v).length - 1 - k = j + 1 := ⟨(encN v).length - 1 - k - 1, by omega⟩
    rw [hj] at hr
    unfold lowE at hr
    rw [List.getElem?_cons_succ] at hr
    exact contG_high _ b (List.mem_of_getElem? hr)
  · subst e
    by_cases h0 : contG (v / 128) = []
    · rw [h0] at hl
      rw [show (encN v).length - 1 - 0 = 0 by rw [hl]; rfl] at hr
      unfold lowE at hr
      simp at hr; omega
    · have hpos : 0 < (contG (v / 128)).length := List.length_pos_iff.2 h0
      obtain ⟨j, hj⟩ : ∃ j, (encN v).length - 1 - 0 = j + 1 := ⟨(contG (v / 128)).length - 1, by omega⟩
      rw [hj] at hr
      unfold lowE at hr
      rw [List.getElem?_cons_succ] at hr
      refine contG_last (v / 128) b ?_
      rw [List.getLast?_eq_getElem?, ← hr]
      congr 1; omega
theorem foldl_ge : ∀ (l : List Nat) (u : Nat), u ≤ l.foldl decF u
  | [], u => Nat.le_refl _
  | b :: l, u => by
    have := foldl_ge l (decF u b)
    rw [List.foldl_cons]
    unfold decF at this ⊢
    omega
theorem u8_or128 (r : Nat) (hr : r < 128) : bits BinOp.or IntKind.u8 (r : Int) 128 = ((128 + r : Nat) : Int) := by
  have e : ∀ r : Nat, r < 128 → bits BinOp.or IntKind.u8 (r : Int) 128 = ((128 + r : Nat) : Int) := by decide +kernel
  exact e r hr
theorem u64_and127 (v : Nat) (hv : v < 18446744073709551616) : bits BinOp.and IntKind.u64 (v : Int) 127 = ((v % 128 : Nat) : Int) := by
  have h := bits_and_u64_nat v 127 hv (by decide)
  refine h.trans ?_
  rw [show (127 : Nat) = 2 ^ 7 - 1 from rfl, Nat.and_two_pow_sub_one_eq_mod]
/-- Reverse of bytes, in place. -/
theorem reverse_any (b n c : Nat) (ps : List Nat) (w : World) (hn : ps.length = n) (h1 : 1 ≤ n) (hc : n ≤ c) (h2 : n ≤ 1000) (hl : ∀ k, k < n → w.cell? ⟨b, k, none⟩ = some (.int .u8 (wd ps k : Nat))) (hf : ∀ k, w.frozen? ⟨b, k, none⟩ = false) :
    Calls Tryz.prog 69 #[.slice (some ⟨b, 0, none⟩) n c] w fun e w' => (∃ v, e = .returned v) ∧ (∀ k, k < n → w'.cell? ⟨b, k, none⟩ = some (.int .u8 (wd ps.reverse k : Nat))) ∧ w.grownBy w' (some b) := by
  have HL := Lib.hid hl
  have HF := Lib.hid hf
  have HN := Lib.hid hn
  have hn1 : (1 : Int) ≤ (n : Int) := by omega
  have hn2 : (n : Int) ≤ 1000 := by omega
  clear hl hf hn
  go_enter Tryz.func69, Tryz.ntmps69
  go_wp2_with fail
  go_loopw [2, 3] (fun v2 v3 wr => ∃ i : Nat, 2 * i ≤ n ∧ v2 = .int .i64 i ∧ v3 = .int .i64 ((n : Int) - 1 - i) ∧ Hid (∀ k, k < n → wr.cell? ⟨b, k, none⟩ = some (.int .u8 ((if k < i ∨ n ≤ k + i then wd ps (n - 1 - k) else wd ps k : Nat) : Int))) ∧ Hid (∀ k, wr.frozen? ⟨b, k, none⟩ = false) ∧ Hid (w.grownBy wr (some b))) (fun v _ _ => n - (intOf v).toNat)
  case atStart => exact ⟨0, by omega, rfl, by simp, fun k hk => by rw [if_neg (by omega)]; exact HL.out k hk, HF.out, ⟨rfl, rfl, rfl, Nat.le_refl _, fun _ _ _ => rfl⟩⟩
  case round =>
    obtain ⟨i, hi, rfl, rfl, hcs, hfs, hgr⟩ := hrel
    by_cases hlt : i < n - 1 - i
    · obtain ⟨j, hj⟩ : ∃ j, n - 1 - i = j := ⟨_, rfl⟩
      have ej : (n : Int) - 1 - (i : Int) = (j : Int) := by omega
      rw [ej]
      have hij : (i : Int) < (j : Int) := by omega
      have hjn : (j : Int) < (n : Int) := by omega
      have hin : (i : Int) < (n : Int) := by omega
      have hi0 : (0 : Int) ≤ (i : Int) := by omega
      have ci := hcs.out i (by omega)
      have cj := hcs.out j (by omega)
      rw [if_neg (by omega)] at ci cj
      have fi := hfs.out i
      have fj := hfs.out j
      have hne : (⟨b, i, none⟩ : Addr) ≠ ⟨b, j, none⟩ := fun e => by injection e with _ e2; omega
      go_wp2_with fail
      go_region
      have HK : Hid (∀ k, k < n → ((wr.setCell ⟨b, i, none⟩ (.int .u8 (wd ps j : Nat))).setCell ⟨b, j, none⟩ (.int .u8 (wd ps i : Nat))).drew.cell? ⟨b, k, none⟩ = some (.int .u8 ((if k < i + 1 ∨ n ≤ k + (i + 1) then wd ps (n - 1 - k) else wd ps k : Nat) : Int))) := fun k hk => by
        rw [World.cell?_drew]
        by_cases kj : k = j
        · subst kj
          rw [World.cell?_setCell_same _ _ _ ((World.cell?_setCell_other _ _ _ _ hne).trans cj), if_pos (by omega), show n - 1 - k = i by omega]
        · rw [World.cell?_setCell_other _ _ _ _ (by intro e; injection e with _ e2; exact kj e2.symm)]
          by_cases ki : k = i
          · subst ki
            rw [World.cell?_setCell_same _ _ _ ci, if_pos (by omega), hj]
          · rw [World.cell?_setCell_other _ _ _ _ (by intro e; injection e with _ e2; exact ki e2.symm), hcs.out k hk]
            by_cases hc1 : k < i ∨ n ≤ k + i
            · rw [if_pos hc1, if_pos (by omega)]
            · rw [if_neg hc1, if_neg (by omega)]
      have HFZ : Hid (∀ k, ((wr.setCell ⟨b, i, none⟩ (.int .u8 (wd ps j : Nat))).setCell ⟨b, j, none⟩ (.int .u8 (wd ps i : Nat))).drew.frozen? ⟨b, k, none⟩ = false) := fun k => by
        rw [World.frozen?_drew, World.frozen?_setCell, World.frozen?_setCell]; exact hfs.out k
      have HG : Hid (w.grownBy ((wr.setCell ⟨b, i, none⟩ (.int .u8 (wd ps j : Nat))).setCell ⟨b, j, none⟩ (.int .u8 (wd ps i : Nat))).drew (some b)) := by
        obtain ⟨g1, g2, g3, g4, g5⟩ := hgr.out
        refine ⟨g1, g2, g3, by simpa using g4, fun k hk hne => ?_⟩
        have hkb : k ≠ b := fun e => hne (by rw [e])
        exact ((Below.heap_setCell _ _ _ _ hkb).trans (Below.heap_setCell _ _ _ _ hkb)).trans (g5 k hk hne)
      clear ci cj fi fj hne hcs hfs hgr
      go_wp2_with fail
      go_roundw
      case rel => exact ⟨i + 1, by omega, by go_num, by congr 1; omega, HK, HFZ, HG⟩
      case measure => simp [intOf]; omega
    · have hle : ¬ (i : Int) < (n : Int) - 1 - (i : Int) := by omega
      have HE : Hid (∀ k, k < n → wr.cell? ⟨b, k, none⟩ = some (.int .u8 (wd ps.reverse k : Nat))) := fun k hk => by
        rw [hcs.out k hk]
        have hr : wd ps.reverse k = wd ps (n - 1 - k) := by
          unfold wd
          rw [List.getD_eq_getElem?_getD, List.getD_eq_getElem?_getD, List.getElem?_reverse (by rw [HN.out]; exact hk), HN.out]
        rw [hr]
        by_cases hc1 : k < i ∨ n ≤ k + i
        · rw [if_pos hc1]
        · rw [if_neg hc1, show n - 1 - k = k by omega]
      clear hcs
      go_wp2_with fail
      go_end0
      exact ⟨⟨_, rfl⟩, HE.out, hgr.out⟩
theorem own_cap {w : World} {B b n c : Nat} {xs : List Value} (h : w.ownsRow B 5 1 (.slice (some ⟨b, 0, none⟩) n c) n xs) : n ≤ c := by
  rcases h.2 with ⟨e, h0⟩ | ⟨q, cap, cur, e, hB, hh, hc, _⟩
  · cases e
  · cases e; exact hc
theorem own_shape {w : World} {B n : Nat} {v : Value} {xs : List Value} (h : w.ownsRow B 5 1 v n xs) (hn : 1 ≤ n) : ∃ b c, v = .slice (some ⟨b, 0, none⟩) n c := by
  rcases h.2 with ⟨e, h0⟩ | ⟨q, cap, cur, rfl, hB, hh, hc, _⟩
  · omega
  · exact ⟨_, _, rfl⟩
theorem own_max {w : World} {B b n c : Nat} {xs : List Value} (h : w.ownsRow B 5 1 (.slice (some ⟨b, 0, none⟩) n c) n xs) : c ≤ 9223372036854775807 := by
  rcases h.2 with ⟨e, h0⟩ | ⟨q, cap, cur, e, hB, hh, hc, hm, _⟩
  · cases e
  · cases e; unfold maxLen at hm; omega
/-- What groups gives: the number's bytes, in a new block. -/
def GroupsP (v : Nat) (w : World) (e : Ending) (w' : World) : Prop :=
  ∃ b c, e = .returned (.slice (some ⟨b, 0, none⟩) (encN v).length c) ∧ Bw w' (some ⟨b, 0, none⟩) (encN v).length c (encN v) ∧ w.heap.size ≤ b ∧ Below w.heap.size w w'
theorem groups_any (v : Nat) (hv : v < 2097152) (w : World) :
    Calls Tryz.prog 48 #[.int .u64 v] w (GroupsP v w) := by
  obtain ⟨i0, hi, hz0, hz1, hz2⟩ := info_parts infoByte
  have h1 := u64_and127 v (by omega)
  obtain ⟨r0, hr0⟩ : ∃ r0, v % 128 = r0 := ⟨_, rfl⟩
  obtain ⟨q0, hq0⟩ : ∃ q0, v / 128 = q0 := ⟨_, rfl⟩
  have h2 : (v : Int) / 128 = (q0 : Int) := by omega
  have h3 : (r0 : Int) % 256 = (r0 : Int) := by omega
  have hr1 : r0 < 128 := by omega
  have HE0 : Hid (lowE v = [r0] ++ contG q0) := by show _ = _; unfold lowE; rw [hr0, hq0]; rfl
  have hq1 : q0 < 16384 := by omega
  rw [hr0] at h1
  clear hr0 hq0
  go_enter Tryz.func48, Tryz.ntmps48
  go_wp2_with fail
  have hown0 : (w.alloc (.cells #[.int .u8 (r0 : Nat)] 5)).ownsRow w.heap.size 5 1 (.slice (some ⟨w.heap.size, 0, none⟩) 1 1) [r0].length ([r0].map u8v) := World.ownsRow_lit w #[.int .u8 (r0 : Nat)] 1 (Nat.le_refl _) (by unfold maxLen; omega) rfl
  go_loopw [0, 3] (fun v0 v3 wr => ∃ (q : Nat) (bs : List Nat) (b c : Nat), v0 = .int .u64 q ∧ v3 = .slice (some ⟨b, 0, none⟩) bs.length c ∧ q ≤ q0 ∧ 1 ≤ bs.length ∧ bs.length ≤ 100 ∧ bs.length + (contG q).length ≤ 4 ∧ Hid (lowE v = bs ++ contG q) ∧ wr.ownsRow w.heap.size 5 1 (.slice (some ⟨b, 0, none⟩) bs.length c) bs.length (bs.map u8v) ∧ Below w.heap.size w wr) (fun v0 _ _ => (intOf v0).toNat)
  case atStart => exact ⟨q0, [r0], w.heap.size, 1, rfl, rfl, Nat.le_refl _, by simp, by simp, by have := contG_len q0 2 (by omega); simp; omega, HE0.out, hown0, (Below.refl _ _).alloc (Nat.le_refl _) _⟩
  case round =>
    obtain ⟨q, bs, b, c, rfl, rfl, hq, hb1, hb2, hb3, HE, hown, hbel⟩ := hrel
    have hz := hbel.size
    have hlt := hown.lt b rfl
    by_cases h0 : q = 0
    · subst h0
      have hE : lowE v = bs := by rw [HE.out, contG_zero, List.append_nil]
      have hcells : ∀ k, k < bs.length → wr.cell? ⟨b, k, none⟩ = some (.int .u8 (wd bs k : Nat)) := fun k hk => by
        rw [World.ownsRow.cellAt hown k (by omega), List.getElem?_map, wd_get hk, List.getElem?_eq_getElem hk]; rfl
      have HRV := Lib.hid (reverse_any b bs.length c bs wr rfl hb1 (own_cap hown) (by omega) hcells (fun k => World.ownsRow.frozenAt hown k))
      have hcap := own_cap hown
      have HEV := Lib.hid hE
      go_wp2_with (go_at_call 69; (with_reducible refine HRV.out.mono ?_); rintro e w2 ⟨⟨v2, rfl⟩, hc2, hg2⟩; have HC2 := Lib.hid hc2; have HG2 := Lib.hid hg2; clear hc2 hg2)
      go_ret
      have hel : (encN v).length = bs.length := by unfold encN; rw [List.length_reverse, HEV.out]
      rw [← hel] at hcap ⊢
      have hcm := own_max hown
      refine ⟨b, c, rfl, ⟨rfl, hcap, hcm, enc_lt v, .inr ⟨b, 0, rfl, Nat.lt_of_lt_of_le hlt.2 HG2.out.size, fun j hj => ?_⟩⟩, hlt.1, hbel.grown HG2.out hz (fun b' hb' => by cases hb'; exact hlt.1)⟩
      rw [Nat.zero_add, HC2.out j (by omega), ← HEV.out]; rfl
    · have hq1 : (0 : Int) < (q : Int) := by omega
      have ha := u64_and127 q (by omega)
      obtain ⟨r, hr⟩ : ∃ r, q % 128 = r := ⟨_, rfl⟩
      obtain ⟨q', hq'⟩ : ∃ q', q / 128 = q' := ⟨_, rfl⟩
      have hr1 : r < 128 := by omega
      rw [hr] at ha
      have ho := u8_or128 r hr1
      obtain ⟨x, hx⟩ : ∃ x, 128 + r = x := ⟨_, rfl⟩
      rw [hx] at ho
      have e2 : (q : Int) / 128 = (q' : Int) := by omega
      have e3 : (r : Int) % 256 = (r : Int) := by omega
      have HEN : Hid (lowE v = (bs ++ [x]) ++ contG q') := by show _ = _; rw [HE.out, contG_pos h0, hr, hq', hx]; simp
      have hb4 : bs.length + 1 + (contG q').length ≤ 4 := by rw [contG_pos h0, List.length_cons, hq'] at hb3; omega
      have hqq : q' < q := by omega
      have hx256 : x < 256 := by omega
      have hown1 := hown.alloc (.cells #[.int .u8 (x : Nat)] 5)
      have hbel1 := hbel.alloc hz (.cells #[.int .u8 (x : Nat)] 5)
      have hnew : ∀ j u, ([x].map u8v)[j]? = some u → (wr.alloc (.cells #[.int .u8 (x : Nat)] 5)).cell? ((⟨wr.heap.size, 0, none⟩ : Addr).add j) = some u := by
        intro j u hu
        have hj : j = 0 := by
          have := (List.getElem?_eq_some_iff.1 hu).1
          simp at this; exact this
        subst hj
        simp at hu
        subst hu
        simp [Addr.add, u8v]
      clear hr hq' hx h0 HE
      go_wp2_with (at_builtin; refine wpList_append_own _ rfl (.tmp 14) (.tmp 19) 51 rfl w.heap.size 5 i0 (.int .u8 0) 1 1 Tryz.underlying51 hi hz0 hz1 hz2 rfl (by decide) _ _ _ rfl hown1 ⟨wr.heap.size, 0, none⟩ 1 1 ([x].map u8v) rfl rfl hnew (by simp [u8v]; rfl) (by unfold maxLen; omega) (by omega) (by simp; omega) ?_)
      intro v4 w4 hown4 hgr4 _
      have hb5 := hbel1.grown hgr4 (by simp; omega) (fun b' hb' => by cases hb'; exact hlt.1)
      obtain ⟨b4, c4, rfl⟩ := own_shape hown4 (by omega)
      have hown5 : w4.ownsRow w.heap.size 5 1 (.slice (some ⟨b4, 0, none⟩) (bs ++ [x]).length c4) (bs ++ [x]).length ((bs ++ [x]).map u8v) := by
        rw [List.length_append, List.map_append]; exact hown4
      clear hgr4 hown1 hown hbel hbel1 hown4 hnew
      go_wp2_with fail
      go_roundw
      case rel => exact ⟨q', bs ++ [x], b4, c4, by go_num, by simp, by omega, by simp, by simp; omega, by simp; omega, HEN.out, hown5, hb5⟩
      case measure => simp [intOf]; omega
end Go.Proofs.YtfdododighjjpaaGreatDoor.Wi
