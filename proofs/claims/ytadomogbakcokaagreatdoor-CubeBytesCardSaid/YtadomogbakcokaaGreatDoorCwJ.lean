/- Contracts in the form of the law of Read; plain: the bytes of a cube are read back. -/
import Derived.Test.YtadomogbakcokaaGreatDoorCwI
namespace Go.Proofs.YtadomogbakcokaaGreatDoor
open Go.RowKit Go.PlainAid
set_option linter.unusedVariables false
set_option linter.unusedSimpArgs false
set_option maxHeartbeats 4000000
set_option maxRecDepth 20000

theorem front_two {p q : List Nat} (h1 : p.length < 128) (h2 : q.length < 128) (hp : readOK p) (hq : readOK q) : Front (bytesC p q) p (q.length :: q) ∧ Front (q.length :: q) q [] :=
  ⟨⟨h1, hp, rfl⟩, h2, hq, by simp⟩
theorem front_back {ps p r q : List Nat} (h1 : Front ps p r) (h2 : Front r q []) : ps = bytesC p q := by
  obtain ⟨_, _, rfl⟩ := h1
  obtain ⟨_, _, rfl⟩ := h2
  simp [bytesC]
/-- The value is a slice of these bytes. -/
def BwV (w : World) (v : Value) (bs : List Nat) : Prop := ∃ t : Option Addr × Nat, v = .slice t.1 bs.length t.2 ∧ Bw w t.1 bs.length t.2 bs ∧ Nz t.1 bs.length t.2
theorem BwV.below {w w' : World} {v : Value} {bs : List Nat} (h : BwV w v bs) (hb : Below w.heap.size w w') : BwV w' v bs := by
  obtain ⟨t, e, h1, h2⟩ := h
  exact ⟨t, e, h1.below hb, h2⟩
theorem rowY_bwv {w : World} {B : Nat} {v : Value} {bs : List Nat} (h : RowY w B v bs) (hb : ∀ x ∈ bs, x < 256) : BwV w v bs := by
  obtain ⟨b, c, e, h1, h2, _⟩ := row_bw h hb
  exact ⟨(b, c), e, h1, h2⟩
theorem cbytes_c (a b : Option Addr) (n c m d : Nat) (x : Cu) (p q bs : List Nat) (w : World) (h : Cb w ⟨a, n, c, b, m, d⟩ x) (hp : BytesOf p x.1) (hq : BytesOf q x.2) (h1 : p.length < 128) (h2 : q.length < 128) (hbs : Hid (bytesC p q = bs)) :
    Calls Tryz.prog 56 #[.agg #[.slice a n c, .slice b m d]] w fun e w' => ∃ t : Option Addr × Nat, e = .returned (.slice t.1 bs.length t.2) ∧ Bw w' t.1 bs.length t.2 bs ∧ Below w.heap.size w w' := by
  refine (bytesC_any a b n c m d x p q w h hp hq h1 h2).mono ?_
  rintro e w' ⟨v, rfl, hr, hb⟩
  rw [hbs.out] at hr
  obtain ⟨t, rfl, h3, _⟩ := rowY_bwv hr (by rw [← hbs.out]; exact bytesC_lt hp.lt hq.lt h1 h2)
  exact ⟨t, rfl, h3, hb⟩
theorem refbytes_c (m1 m2 : Nat) (p q bs : List Nat) (w : World) (hm : McOk (m1, m2)) (hp : BytesOf p (bitsL m1)) (hq : BytesOf q (bitsL m2)) (hbs : Hid (bytesC p q = bs)) :
    Calls Tryz.prog 54 #[.agg #[.int .u64 (m1 : Nat), .int .u64 (m2 : Nat)]] w fun e w' => ∃ t : Option Addr × Nat, e = .returned (.slice t.1 bs.length t.2) ∧ Bw w' t.1 bs.length t.2 bs ∧ Nz t.1 bs.length t.2 ∧ Below w.heap.size w w' := by
  refine (refbytes_any m1 m2 p q hm hp hq w).mono ?_
  rintro e w' ⟨v, rfl, hr, hb⟩
  rw [hbs.out] at hr
  have h1 := bytes8 hp
  have h2 := bytes8 hq
  obtain ⟨t, rfl, h3, h4⟩ := rowY_bwv hr (by rw [← hbs.out]; exact bytesC_lt hp.lt hq.lt (by omega) (by omega))
  exact ⟨t, rfl, h3, h4, hb⟩
theorem equalB_yes (a b : Option Addr) (n c m d : Nat) (ps : List Nat) (w : World) (h : Bw w a n c ps) (k : Bw w b m d ps) :
    Calls Tryz.prog 55 #[.slice a n c, .slice b m d] w fun e w' => e = .returned (.bool true) ∧ Below w.heap.size w w' := by
  have := equalB_any a b n c m d ps ps w h k
  rwa [decide_eq_true rfl] at this
theorem reftext_c (m1 m2 : Nat) (s : ByteArray) (w : World) (hm : McOk (m1, m2)) (hs : Hid (s = ⟨(textC (cuM (m1, m2))).toArray⟩)) :
    Calls Tryz.prog 57 #[.agg #[.int .u64 (m1 : Nat), .int .u64 (m2 : Nat)]] w fun e w' => e = .returned (.string s) ∧ Below w.heap.size w w' := by
  rw [hs.out]; exact reftext_any m1 m2 hm w
theorem cread_y (a : Option Addr) (n c : Nat) (ps p r q : List Nat) (x : Cu) (w : World) (h : Bw w a n c ps) (hz : Nz a n c) (hn : n ≤ 100) (hp : Front ps p r) (hq : Front r q []) (hx : Hid ((readL p, readL q) = x)) :
    Calls Tryz.prog 53 #[.slice a n c] w fun e w' => ∃ a n c b m d, e = .returned (.tuple #[.agg #[.slice a n c, .slice b m d], .int .i64 0]) ∧ Cb w' ⟨a, n, c, b, m, d⟩ x ∧ Below w.heap.size w w' := by
  rw [← hx.out]; exact cread_yes a n c ps p r q w h hz hn hp hq
/-- The bytes of a set of small numbers. -/
theorem bytes_of_bits (m : Nat) (hm : m < 256) : ∃ p, BytesOf p (bitsL m) ∧ readOK p ∧ readL p = bitsL m ∧ p.length ≤ 8 := by
  have key : ∃ p, BytesOf p (bitsL m) := by
    by_cases h0 : m = 0
    · subst h0
      have e : bitsL 0 = [] := by decide
      exact ⟨[], by rw [e]; exact ⟨fun _ => rfl, fun h => absurd rfl h, fun k hk => absurd hk (Nat.not_lt_zero _)⟩⟩
    · obtain ⟨j, hj, hb⟩ := some_bit8 h0 hm
      have hne : bitsL m ≠ [] := List.ne_nil_of_mem (mem_bitsL.2 ⟨by omega, hb⟩)
      refine ⟨[m], fun e => absurd e hne, fun _ => ?_, fun k hk => ?_⟩
      · have hl : (bitsL m).getLastD 0 ∈ bitsL m := by
          rw [List.getLastD_eq_getLast?, List.getLast?_eq_some_getLast hne, Option.getD_some]; exact List.getLast_mem hne
        have := bits_lt8 hm hl
        rw [List.length_singleton]; omega
      · obtain rfl : k = 0 := by simpa using hk
        refine ⟨hm, fun j hj => ?_⟩
        show m.testBit j = true ↔ _
        rw [mem_bitsL, Nat.mul_zero, Nat.zero_add]
        exact ⟨fun h => ⟨by omega, h⟩, fun h => h.2⟩
  obtain ⟨p, hp⟩ := key
  exact ⟨p, hp, (readL_bytes hp (asc_bits m)).1, (readL_bytes hp (asc_bits m)).2, bytes8 hp⟩
end Go.Proofs.YtadomogbakcokaaGreatDoor
