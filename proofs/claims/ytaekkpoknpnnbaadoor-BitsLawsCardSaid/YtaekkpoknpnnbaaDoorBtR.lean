/- Contract: Bytes. -/
import Derived.Test.YtaekkpoknpnnbaaDoorBtQ
namespace Go.Proofs.YtaekkpoknpnnbaaDoor
open Go.RowKit Go.PlainAid
set_option linter.unusedVariables false
set_option linter.unusedSimpArgs false
set_option maxHeartbeats 4000000

/-- b is the byte k of the set l. -/
def byteOK (l : List Nat) (k b : Nat) : Prop := b < 256 ∧ ∀ j, j < 8 → (b.testBit j = true ↔ 8 * k + j ∈ l)
theorem byteOK.uniq {l : List Nat} {k b c : Nat} (h : byteOK l k b) (h2 : byteOK l k c) : b = c := by
  apply Nat.eq_of_testBit_eq
  intro j
  by_cases hj : j < 8
  · rw [Bool.eq_iff_iff, h.2 j hj, h2.2 j hj]
  · have p : 256 ≤ 2 ^ j := by
      have := Nat.pow_le_pow_right (n := 2) (by omega) (show 8 ≤ j by omega)
      omega
    rw [Nat.testBit_lt_two_pow (Nat.lt_of_lt_of_le h.1 p), Nat.testBit_lt_two_pow (Nat.lt_of_lt_of_le h2.1 p)]
/-- bs are the bytes of the set l. -/
def BytesOf (bs l : List Nat) : Prop := (l = [] → bs = []) ∧ (l ≠ [] → bs.length = l.getLastD 0 / 8 + 1) ∧ ∀ k (h : k < bs.length), byteOK l k bs[k]
theorem BytesOf.uniq {bs cs l : List Nat} (h : BytesOf bs l) (h2 : BytesOf cs l) : bs = cs := by
  by_cases hl : l = []
  · rw [h.1 hl, h2.1 hl]
  · apply List.ext_getElem
    · rw [h.2.1 hl, h2.2.1 hl]
    · intro k a b
      exact (h.2.2 k a).uniq (h2.2.2 k b)
def u8v (x : Nat) : Value := .int .u8 ((x : Nat) : Int)
def RowB (w : World) (B g q : Nat) (us : List Nat) : Prop := w.ownsRow B 5 1 (.slice (some ⟨g, 0, none⟩) q q) q (us.map u8v)
theorem RowB.len {w : World} {B g q : Nat} {us : List Nat} (h : RowB w B g q us) : us.length = q := by
  have := h.1; rw [List.length_map] at this; omega
theorem RowB.lt {w : World} {B g q : Nat} {us : List Nat} (h : RowB w B g q us) : B ≤ g ∧ g < w.heap.size := World.ownsRow.lt h g rfl
theorem RowB.cell {w : World} {B g q : Nat} {us : List Nat} (h : RowB w B g q us) {j : Nat} (hj : j < q) : w.cell? ⟨g, j, none⟩ = some (.int .u8 (wd us j : Nat)) := by
  rw [World.ownsRow.cellAt h j (by omega), List.getElem?_map]
  rw [wd_get (by rw [h.len]; exact hj), List.getElem?_eq_getElem (by rw [h.len]; exact hj)]; rfl
theorem RowB.free {w : World} {B g q : Nat} {us : List Nat} (h : RowB w B g q us) (j : Nat) : w.frozen? ⟨g, j, none⟩ = false := World.ownsRow.frozenAt h j
theorem RowB.set {w : World} {B g q : Nat} {us : List Nat} (h : RowB w B g q us) (k x : Nat) : RowB (w.setCell ⟨g, k, none⟩ (.int .u8 (x : Nat))) B g q (us.set k x) := by
  have := (World.ownsRow.stored h k (.int .u8 (x : Nat))).1
  unfold RowB
  rw [List.map_set]
  exact this
theorem RowB.below {w w' : World} {B g q : Nat} {us : List Nat} (h : RowB w B g q us) (hb : Below w.heap.size w w') : RowB w' B g q us := owns_below h (Nat.le_refl _) hb
theorem madeB_zero (q : Nat) : (madeCells #[Value.int .u8 0] q).toList = (List.replicate q 0).map u8v := by
  rw [List.map_replicate]
  apply List.ext_getElem
  · simp [madeCells]
  · intro i h1 h2
    simp [madeCells, u8v]
    have : i % 1 = 0 := Nat.mod_one i
    simp [this]
theorem RowB.new {w : World} {B g q : Nat} (h : w.ownsRow B 5 1 (.slice (some ⟨g, 0, none⟩) q q) q (madeCells #[Value.int .u8 0] q).toList) : RowB w B g q (List.replicate q 0) := by
  rw [madeB_zero] at h
  exact h
theorem word_byte {ws l : List Nat} (h : Rp ws l) (k : Nat) : byteOK l k (wd ws (k / 8) / 2 ^ (8 * (k % 8)) % 256) := by
  refine ⟨Nat.mod_lt _ (by decide), fun j hj => ?_⟩
  rw [show (256 : Nat) = 2 ^ 8 from rfl, Nat.testBit_mod_two_pow, Nat.testBit_div_two_pow, h.mem_iff]
  unfold mem
  rw [show (8 * k + j) / 64 = k / 8 by omega, show (8 * k + j) % 64 = 8 * (k % 8) + j by omega, Nat.add_comm]
  simp [hj]
theorem shl_byte (x e : Nat) : IntKind.u8.wrap ((x : Int) / 2 ^ e) = ((x / 2 ^ e % 256 : Nat) : Int) := by
  have h1 : ((x : Int) / 2 ^ e) = ((x / 2 ^ e : Nat) : Int) := by rw [Int.natCast_ediv]; simp
  rw [h1, IntKind.wrap_u8]; omega

set_option maxRecDepth 20000 in
theorem bytes_any (a : Option Addr) (n cap : Nat) (l : List Nat) (w : World) (h : Bs w a n cap l) :
    Calls Tryd.prog 23 #[.agg #[.slice a n cap]] w fun e w' => ∃ bs v, e = .returned v ∧ BytesOf bs l ∧ w'.ownsRow w.heap.size 5 1 v bs.length (bs.map u8v) ∧ Below w.heap.size w w' := by
  obtain ⟨i0, hi, hz0, hz1, hz2⟩ := info_parts infoByte
  have hG := Lib.hid (fun w' (hb : Below w.heap.size w w') => greatest_any a n cap l w' (h.below hb))
  unfold lastP at hG
  obtain ⟨ws, ⟨h1, h2, h3, h4⟩, hr⟩ := h
  by_cases hl : l = []
  · subst hl
    clear h4 hr h1
    go_enter Tryd.func23, Tryd.ntmps23
    go_wp2_with (go_at_call 47; refine (hG.out _ (by go_grown)).mono ?_; rintro e w2 ⟨rfl, hb2⟩)
    go_ret
    exact ⟨[], _, rfl, ⟨fun _ => rfl, fun h => absurd rfl h, fun k h => by simp at h⟩, World.ownsRow_nil _ _ _ _, bel1 hb2⟩
  · have hn0 : n ≠ 0 := by
      intro e
      apply hl
      exact none_words hr (fun j hj => by omega)
    obtain ⟨g1, g2, g3, g4⟩ := greatest_words hr (by omega)
    obtain ⟨b1, o1, rfl, hb1, hc1⟩ : ∃ b o, a = some ⟨b, o, none⟩ ∧ b < w.heap.size ∧ ∀ j, j < n → w.cell? ⟨b, o + j, none⟩ = some (.int .u64 (wd ws j : Nat)) := by
      rcases h4 with ⟨_, h0, _⟩ | h4
      · exact absurd h0 hn0
      · exact h4
    have hn64 : n ≤ 64 := by have := hr.2.2.1; rw [h1] at this; exact this
    have hem : l.isEmpty = false := by cases l with
      | nil => exact absurd rfl hl
      | cons _ _ => rfl
    have HTP : Hid (∀ bs : List Nat, bs.length = l.getLastD 0 / 8 + 1 → (∀ k, wd bs k = if k < l.getLastD 0 / 8 + 1 then wd ws (k / 8) / 2 ^ (8 * (k % 8)) % 256 else 0) → BytesOf bs l) := by
      intro bs hb hu
      refine ⟨fun e => absurd e hl, fun _ => hb, fun k h => ?_⟩
      have := hu k
      rw [wd_get h, if_pos (by omega)] at this
      rw [this]; exact word_byte hr k
    rw [h1] at g1 g3 g4
    have htn : l.getLastD 0 / 64 < n := by rw [g3]; omega
    rw [hem] at hG
    generalize l.getLastD 0 = top at hG HTP htn
    have hwl := Lib.hid (fun k => wd_lt hr.1 k)
    have HC := Lib.hid hc1
    clear hr h4 g1 g2 g3 g4 hc1 hem h1
    obtain ⟨q, hq⟩ : ∃ q : Nat, (top : Int) / 8 + 1 = q := ⟨top / 8 + 1, by omega⟩
    have HQ : Hid (q = top / 8 + 1) := by show _ = _; omega
    have hq8 : ∀ k, k < q → k / 8 < n := fun k hk => by omega
    have HQ8 := Lib.hid hq8
    have hq512 : q ≤ 512 := by omega
    have hbytes : i0.bytes * q ≤ 281474976710656 := by rw [hz2]; omega
    have hqm : q ≤ maxLen := by unfold maxLen; omega
    have htop : top < 4096 := by omega
    clear hq8 htn hl
    go_enter Tryd.func23, Tryd.ntmps23
    go_wp2_with (first
      | (go_at_call 47; refine (hG.out _ (by go_grown)).mono ?_; rintro e w2 ⟨rfl, hb2⟩; have hz2' := hb2.size; simp at hz2'; have HB2 := Lib.hid hb2; clear hb2)
      | (refine wpList_make_full _ rfl (.tmp 16) (.tmp 16) 38 rfl w2.heap.size 5 i0 (.int .u8 0) 1 Tryd.underlying38 hi hz0 hz1 .i64 .i64 q q q rfl rfl rfl rfl hbytes hqm (Nat.le_refl _) ?_; intro w3 hown hgr; have hrow : Hid (RowB w3 w2.heap.size w2.heap.size q (List.replicate q 0)) := RowB.new (by rw [Nat.mul_one] at hown; exact hown); have HB3 := Lib.hid ((Below.refl w2.heap.size w2).grown hgr (Nat.le_refl _) (fun b hb => by cases hb)); have hz3 := HB3.out.size; clear hown hgr))
    have hc0 := Lib.hid ((HB2.out.cell (p := ⟨w.heap.size, 0, none⟩) (by simp)).trans (new1 w _ _).1)
    have hb02 := Lib.hid (bel1 HB2.out)
    generalize hgE : w2.heap.size = g at hrow HB3 hz3 hz2' ⊢
    have HGE := Lib.hid hgE
    clear hgE hi hz0 hz1 hz2 hbytes hqm
    go_wp2_with fail
    go_loopw [20] (fun v wr => ∃ (k : Nat) (us : List Nat), k ≤ q ∧ v = .int .i64 k ∧ Hid (RowB wr g g q us) ∧ Hid (Upto us k (fun k => wd ws (k / 8) / 2 ^ (8 * (k % 8)) % 256)) ∧ Hid (Below g w2 wr)) (fun v _ => q - (intOf v).toNat)
    case atStart => exact ⟨0, List.replicate q 0, Nat.zero_le _, rfl, hrow.out, Upto.zero _ _, HB3.out⟩
    case round =>
      obtain ⟨k, us, hk, rfl, HR, HU, HB⟩ := hrel
      have hBw := Lib.hid (hb02.out.trans (HB.out.mono (by have := hb02.out.size; have := HGE.out; omega)))
      have c0 := (HB.out.cell (p := ⟨w.heap.size, 0, none⟩) (show w.heap.size < g by omega)).trans hc0.out
      by_cases hlt : k < q
      · have x1 := HR.out.cell hlt
        have x2 := HR.out.free k
        have x3 := (hBw.out.cell (p := ⟨b1, o1 + k / 8, none⟩) hb1).trans (HC.out (k / 8) (HQ8.out k hlt))
        have y1 : (k : Int) / 8 < (n : Int) := by have := HQ8.out k hlt; omega
        have y2 : (0 : Int) ≤ (k : Int) / 8 := by omega
        have y3 : ∀ x : Nat, (x : Int) / 2 ^ (8 * (k % 8)) % 256 = ((x / 2 ^ (8 * (k % 8)) % 256 : Nat) : Int) := fun x => by rw [← IntKind.wrap_u8]; exact shl_byte x _
        have Y3 := Lib.hid y3
        clear y3
        have HN := Lib.hid (HU.out.next HR.out.len hlt)
        obtain ⟨x, hx⟩ : ∃ x, x = wd ws (k / 8) := ⟨_, rfl⟩
        have HX := Lib.hid hx
        rw [← hx] at x3
        clear hx
        go_wp2_with fail
        rw [Y3.out x, HX.out]
        go_roundw
        case rel => exact ⟨k + 1, us.set k _, by omega, by go_num, HR.out.set k _, HN.out, HB.out.setCell (Nat.le_refl _) _⟩
        case measure => simp [intOf]; omega
      · have hkq := Lib.hid (show k = q by omega)
        go_wp2_with fail
        go_ret
        refine ⟨us, _, rfl, HTP.out us (by rw [HR.out.len]; exact HQ.out) (fun j => ?_), ?_, hBw.out⟩
        · rw [HU.out j, hkq.out, HQ.out]
        · have := HR.out
          unfold RowB at this
          have hlen := HR.out.len
          subst hlen
          exact ⟨this.1, this.2.imp id (fun ⟨g', cap, cur, e, hb, r⟩ => ⟨g', cap, cur, e, Nat.le_trans (by have := hb02.out.size; have := HGE.out; omega) hb, r⟩)⟩
end Go.Proofs.YtaekkpoknpnnbaaDoor
