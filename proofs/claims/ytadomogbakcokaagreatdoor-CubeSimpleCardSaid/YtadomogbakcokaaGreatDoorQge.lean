/- Several of the texts below, joined: BtP BtQ BtR BtS BtT. -/
import Derived.Lib.AtoiAllCases
import Derived.Lib.Fields
import Derived.Shelf.Strings.FieldsAny
import Derived.Test.YtadomogbakcokaaGreatDoorQgd
import Derived.Lib.SmallJoins
section
/- Plain: the text of a set is taken apart again. -/
namespace Go.Proofs.YtadomogbakcokaaGreatDoor
open Go.RowKit Go.PlainAid
set_option linter.unusedVariables false
set_option linter.unusedSimpArgs false

theorem dec_digit (x : Nat) : ∀ b ∈ Lib.decDigits x, 48 ≤ b.toNat ∧ b.toNat ≤ 57 := by
  induction x using Nat.strongRecOn with
  | _ x ih =>
    intro b hb
    rw [Lib.decDigits] at hb
    by_cases h : x < 10
    · rw [dif_pos h, List.mem_singleton] at hb
      subst hb
      rw [UInt8.toNat_ofNat']; omega
    · rw [dif_neg h, List.mem_append, List.mem_singleton] at hb
      rcases hb with hb | rfl
      · exact ih (x / 10) (by omega) b hb
      · rw [UInt8.toNat_ofNat']; omega
theorem parse_append : ∀ (l r : List UInt8) (acc u : Nat), Lib.parseUint10 acc l = .ok u → Lib.parseUint10 acc (l ++ r) = Lib.parseUint10 u r
  | [], r, acc, u, h => by simp only [Lib.parseUint10, Lib.NumEnd.ok.injEq] at h; rw [h]; rfl
  | c :: l, r, acc, u, h => by
    rw [List.cons_append]
    unfold Lib.parseUint10 at h
    conv => lhs; unfold Lib.parseUint10
    split at h
    · rename_i h1
      split at h
      · cases h
      · rename_i h2
        split at h
        · cases h
        · rename_i h3
          rw [if_pos h1, if_neg h2, if_neg h3]
          exact parse_append l r _ u h
    · cases h
theorem parse_dec (x : Nat) (hx : x < 4096) : Lib.parseUint10 0 (Lib.decDigits x) = .ok x := by
  induction x using Nat.strongRecOn with
  | _ x ih =>
    rw [Lib.decDigits]
    by_cases h : x < 10
    · rw [dif_pos h]
      have e : (UInt8.ofNat (48 + x)).toNat = 48 + x := by rw [UInt8.toNat_ofNat']; omega
      simp only [Lib.parseUint10, e]
      rw [if_pos (by omega), if_neg (by omega), if_neg (by omega)]
      congr 1; omega
    · rw [dif_neg h, parse_append _ _ 0 (x / 10) (ih (x / 10) (by omega) (by omega))]
      have e : (UInt8.ofNat (48 + x % 10)).toNat = 48 + x % 10 := by rw [UInt8.toNat_ofNat']; omega
      simp only [Lib.parseUint10, e]
      rw [if_pos (by omega), if_neg (by omega), if_neg (by omega)]
      congr 1; omega
theorem dec_ne (x : Nat) : Lib.decDigits x ≠ [] := by
  intro e
  have := Lib.nDigits_pos x
  have h := congrArg List.length e
  rw [Lib.decDigits_eq, List.length_map, List.length_range] at h
  simp at h; omega
theorem atoi_dec (x : Nat) (hx : x < 4096) : Lib.atoiAll (Lib.decDigits x) = .ok (x : Int) := by
  have h := parse_dec x hx
  have hd := dec_digit x
  have hne := dec_ne x
  generalize Lib.decDigits x = l at *
  match l, hne with
  | c :: r, _ =>
    have hc := hd c (by simp)
    rw [Lib.atoiAll_plain c r (by omega) (by omega), Lib.parseMag, if_neg (by simp), h, Lib.signless, if_neg (by omega)]
theorem nosp {b : UInt8} (h : 48 ≤ b.toNat ∧ b.toNat ≤ 57) : Lib.isSp b = false := by
  have key : ∀ c : UInt8, c.toNat < 48 → b ≠ c := fun c hc e => by rw [e] at h; omega
  simp [Lib.isSp, key 9 (by decide), key 10 (by decide), key 11 (by decide), key 12 (by decide), key 13 (by decide), key 32 (by decide)]
theorem go_word : ∀ (d : List UInt8) (cur rest : List UInt8), (∀ b ∈ d, Lib.isSp b = false) → Lib.fieldsGo cur (d ++ rest) = Lib.fieldsGo (cur ++ d) rest
  | [], cur, rest, _ => by simp
  | b :: d, cur, rest, h => by
    rw [List.cons_append, Lib.fieldsGo_more _ _ _ (h b (by simp)), go_word d (cur ++ [b]) rest (fun c hc => h c (by simp [hc]))]
    simp
theorem go_dig : ∀ (l : List Nat) (cur : List UInt8), cur ≠ [] → Lib.fieldsGo cur (l.flatMap dig) = cur :: l.map Lib.decDigits
  | [], cur, h => by
    cases cur with
    | nil => exact absurd rfl h
    | cons _ _ => simp [Lib.fieldsGo]
  | x :: r, cur, h => by
    rw [List.flatMap_cons, dig, List.cons_append, Lib.fieldsGo_end cur 32 _ rfl h, go_word _ _ _ (fun b hb => nosp (dec_digit x b hb)), List.nil_append, go_dig r _ (dec_ne x)]
    rfl
theorem fields_join (l : List Nat) : Lib.fields (joinB l) = l.map Lib.decDigits := by
  match l with
  | [] => rfl
  | x :: r =>
    rw [Lib.fields, joinB, List.flatMap_cons, dig, List.cons_append, List.tail_cons, go_word _ _ _ (fun b hb => nosp (dec_digit x b hb)), List.nil_append, go_dig r _ (dec_ne x)]
    rfl
theorem join_ascii (l : List Nat) : ∀ b ∈ joinB l, b.toNat < 128 := by
  intro b hb
  have hb2 := List.mem_of_mem_tail hb
  obtain ⟨x, _, hx⟩ := List.mem_flatMap.1 hb2
  rw [dig, List.mem_cons] at hx
  rcases hx with rfl | hx
  · decide
  · have := dec_digit x b hx; omega
theorem fieldsD_join (l : List Nat) : Lib.fieldsD (joinB l) = l.map Lib.decDigits := by
  rw [Go.Lib.fieldsD_ascii _ (join_ascii l), fields_join]
theorem ofL_self {l : List Nat} (h : Asc l) : ofL (l.map fun x : Nat => (x : Int)) = l :=
  asc_ext (asc_ofL _) h fun x => by
    rw [mem_ofL]
    constructor
    · rintro ⟨_, hx⟩
      obtain ⟨y, hy, e⟩ := List.mem_map.1 hx
      have : y = x := by omega
      exact this ▸ hy
    · intro hx
      exact ⟨h.2 x hx, List.mem_map.2 ⟨x, hx, rfl⟩⟩
end Go.Proofs.YtadomogbakcokaaGreatDoor
end

section
/- Contract: Parse. -/
namespace Go.Proofs.YtadomogbakcokaaGreatDoor
open Go.RowKit Go.PlainAid
set_option linter.unusedVariables false
set_option linter.unusedSimpArgs false
set_option maxHeartbeats 4000000

/-- What the library's tables and errors hold, now and later. -/
structure Wld (w : World) : Prop where
  tz : Tz w
  pow : Pow10 w
  space : Lib.TabBelow Tryz.prog w.heap.size w "strings.asciiSpace" .u8 Lib.asciiSpaceTab
  white : ∀ w', Below w.heap.size w w' → Lib.WhiteTab 2 w'
  syn : ∃ tp p, ∀ w', Below w.heap.size w w' → w'.var? Tryz.prog "strconv.ErrSyntax" = some #[.iface tp p]
  rng : ∃ tp p, ∀ w', Below w.heap.size w w' → w'.var? Tryz.prog "strconv.ErrRange" = some #[.iface tp p]
theorem Wld.below {w w' : World} (h : Wld w) (hb : Below w.heap.size w w') : Wld w' where
  tz := h.tz.below hb
  pow := fun u hu => h.pow u (hb.trans (hu.mono hb.size))
  space := fun u hu => h.space u (hb.trans (hu.mono hb.size))
  white := fun u hu => h.white u (hb.trans (hu.mono hb.size))
  syn := by obtain ⟨tp, p, k⟩ := h.syn; exact ⟨tp, p, fun u hu => k u (hb.trans (hu.mono hb.size))⟩
  rng := by obtain ⟨tp, p, k⟩ := h.rng; exact ⟨tp, p, fun u hu => k u (hb.trans (hu.mono hb.size))⟩

def ParsePost (s : ByteArray) (w : World) (e : Ending) (w' : World) : Prop :=
  ((∃ a n cap l, e = .returned (.tuple #[.agg #[.slice a n cap], .int .i64 0]) ∧ Bs w' a n cap l ∧ s.data.toList = textB l) ∨
    (e = .returned (.tuple #[.agg #[.slice none 0 0], .int .i64 6]) ∧ ∀ l, Asc l → s.data.toList ≠ textB l)) ∧ Below w.heap.size w w'
theorem textB_ends (l : List Nat) : 2 ≤ (textB l).length ∧ (textB l)[0]? = some 123 ∧ (textB l)[(textB l).length - 1]? = some 125 := by
  unfold textB headB
  refine ⟨by simp, by simp, ?_⟩
  rw [List.length_append, List.length_singleton, Nat.add_sub_cancel, List.getElem?_append_right (Nat.le_refl _)]; simp
theorem atoi_good (s : ByteArray) (hs : s.size ≤ 281474976710656) (v : Int) (hq : Lib.atoiAll s.data.toList = .ok v) (w : World) :
    Calls Tryz.prog 68 #[.string s] w fun e w' => e = .returned (.tuple #[.int .i64 v, .nilIface]) ∧ Below w.heap.size w w' := by
  refine (Tryz.strconv_Atoi_ok s (by omega) v hq w).mono ?_
  rintro e w' ⟨rfl, h⟩
  refine ⟨rfl, ?_⟩
  rcases h with rfl | ⟨t, rfl⟩
  · exact Below.refl _ _
  · exact Joins.below_bytesWorld _ _ _ _ (Nat.le_refl _)
theorem atoi_bad (s : ByteArray) (hs : s.size ≤ 281474976710656) (hq : ∀ v, Lib.atoiAll s.data.toList ≠ .ok v) (w : World) (h : Wld w) :
    Calls Tryz.prog 68 #[.string s] w fun e w' => ∃ v tp p, e = .returned (.tuple #[.int .i64 v, .iface tp p]) ∧ Below w.heap.size w w' := by
  cases hq2 : Lib.atoiAll s.data.toList
  · exact absurd hq2 (hq _)
  · obtain ⟨tp, p, hv⟩ := h.syn
    refine (Any.strconv_Atoi_syntax_var Tryz.laysC172 s hs hq2 tp p w (hv w (Below.refl _ _))).mono ?_
    rintro e w' ⟨N, rfl, _, _, hb⟩
    exact ⟨_, _, _, rfl, hb⟩
  · obtain ⟨tp, p, hv⟩ := h.rng
    refine (Tryz.strconv_Atoi_range_var s hs hq2 tp p w (hv w (Below.refl _ _))).mono ?_
    rintro e w' ⟨N, rfl, _, _, hb⟩
    exact ⟨_, _, _, rfl, hb⟩
theorem fieldsGo_len : ∀ (f : Nat) (cur l : List UInt8), (Lib.fieldsGoD f cur l).length ≤ f + 1 ∧ (cur = [] → (Lib.fieldsGoD f cur l).length ≤ f)
  | 0, cur, l => by
    unfold Lib.fieldsGoD
    constructor
    · split <;> simp
    · intro h; rw [if_pos h]; simp
  | f + 1, cur, l => by
    have h1 := fieldsGo_len f [] (l.drop (Lib.decodeL l).2)
    have h2 := fieldsGo_len f (cur ++ l.take (Lib.decodeL l).2) (l.drop (Lib.decodeL l).2)
    unfold Lib.fieldsGoD
    constructor
    · split
      · split <;> simp
      · split
        · rw [List.length_append]
          have h3 := h1.2 rfl
          split <;> simp <;> omega
        · omega
    · intro h
      have h3 := h1.2 rfl
      simp only [h, if_true, List.nil_append] at h2 ⊢
      split
      · simp
      · split
        · omega
        · omega
theorem fieldsGo_each : ∀ (f : Nat) (cur l : List UInt8), ∀ x ∈ Lib.fieldsGoD f cur l, x.length ≤ cur.length + l.length
  | 0, cur, l => by
    intro x hx
    unfold Lib.fieldsGoD at hx
    split at hx
    · simp at hx
    · simp at hx; subst hx; omega
  | f + 1, cur, l => by
    intro x hx
    unfold Lib.fieldsGoD at hx
    split at hx
    · split at hx
      · simp at hx
      · simp at hx; subst hx; omega
    · split at hx
      · rw [List.mem_append] at hx
        rcases hx with hx | hx
        · split at hx
          · simp at hx
          · simp at hx; subst hx; omega
        · have := fieldsGo_each f _ _ x hx
          simp at this; omega
      · have := fieldsGo_each f _ _ x hx
        simp at this; omega
theorem iw_of_row {w : World} {B k : Nat} {v : Value} {zs : List Int} (h : w.ownsRow B 3 1 v k (zs.map fun z => .int .i64 z)) (hz : zs.length = k) : ∃ a cap, v = .slice a k cap ∧ Iw w a k cap zs := by
  rcases h.2 with ⟨rfl, rfl⟩ | ⟨g, cap, cur, rfl, hBg, hg, h1, h2, h3, h4⟩
  · exact ⟨none, 0, rfl, hz, Nat.le_refl _, by omega, .inl ⟨rfl, rfl, rfl⟩⟩
  · refine ⟨_, _, rfl, hz, h1, by unfold maxLen at h2; omega, .inr ⟨g, 0, rfl, (World.ownsRow.lt h g rfl).2, fun j hj => ?_⟩⟩
    rw [Nat.zero_add, World.ownsRow.cellAt h j (by simpa using hj), List.getElem?_map, List.getElem?_eq_getElem (by omega)]
    unfold zg
    rw [List.getD_eq_getElem?_getD, List.getElem?_eq_getElem (by omega)]; rfl
theorem toList_inj {a b : ByteArray} (h : a.toList = b.toList) : a = b := by
  simp only [Lib.toList_data] at h
  cases a; cases b; simp at h; rw [h]
theorem inner_of {s : ByteArray} {l : List Nat} (h : s.data.toList = textB l) : (s.extract 1 (s.size - 1)).data.toList = joinB l := by
  rw [ByteArray.data_extract, Array.toList_extract]
  have hs : s.size = (textB l).length := by rw [← h]; rfl
  rw [h, hs]
  unfold textB headB
  simp [List.extract_eq_take_drop]
theorem out_of_ends {s : ByteArray} (h2 : 2 ≤ s.size) (h : ¬ (s[0].toNat = 123 ∧ s[s.size - 1].toNat = 125)) (l : List Nat) : s.data.toList ≠ textB l := by
  intro e
  obtain ⟨a, b, c⟩ := textB_ends l
  rw [← e] at a b c
  apply h
  constructor
  · have : s.data.toList[0]? = some s[0] := by rw [List.getElem?_eq_getElem (by simpa using (show 0 < s.size by omega))]; rfl
    rw [this] at b; rw [Option.some.inj b]; rfl
  · have : s.data.toList[s.size - 1]? = some s[s.size - 1] := by rw [List.getElem?_eq_getElem (by simpa using (show s.size - 1 < s.size by omega))]; rfl
    have e2 : s.data.toList.length = s.size := rfl
    rw [e2, this] at c; rw [Option.some.inj c]; rfl

end Go.Proofs.YtadomogbakcokaaGreatDoor
end

section
/- Contract: Bytes. -/
namespace Go.Proofs.YtadomogbakcokaaGreatDoor
open Go.RowKit Go.PlainAid
set_option linter.unusedVariables false
set_option linter.unusedSimpArgs false
set_option maxHeartbeats 4000000

/-- b is the byte k of the set l. -/
def byteOK (l : List Nat) (k b : Nat) : Prop := b < 256 ∧ ∀ j, j < 8 → (b.testBit j = true ↔ 8 * k + j ∈ l)
theorem byteOK.uniq {l : List Nat} {k b c : Nat} (h : byteOK l k b) (h2 : byteOK l k c) : b = c := by
  apply Nat.eq_of_testBit_eq
  intro j
  by_cases hj : j < 8
  · rw [Bool.eq_iff_iff, h.2 j hj, h2.2 j hj]
  · have p : 256 ≤ 2 ^ j := by
      have := Nat.pow_le_pow_right (n := 2) (by omega) (show 8 ≤ j by omega)
      omega
    rw [Nat.testBit_lt_two_pow (Nat.lt_of_lt_of_le h.1 p), Nat.testBit_lt_two_pow (Nat.lt_of_lt_of_le h2.1 p)]
/-- bs are the bytes of the set l. -/
def BytesOf (bs l : List Nat) : Prop := (l = [] → bs = []) ∧ (l ≠ [] → bs.length = l.getLastD 0 / 8 + 1) ∧ ∀ k (h : k < bs.length), byteOK l k bs[k]
theorem BytesOf.uniq {bs cs l : List Nat} (h : BytesOf bs l) (h2 : BytesOf cs l) : bs = cs := by
  by_cases hl : l = []
  · rw [h.1 hl, h2.1 hl]
  · apply List.ext_getElem
    · rw [h.2.1 hl, h2.2.1 hl]
    · intro k a b
      exact (h.2.2 k a).uniq (h2.2.2 k b)
def u8v (x : Nat) : Value := .int .u8 ((x : Nat) : Int)
def RowB (w : World) (B g q : Nat) (us : List Nat) : Prop := w.ownsRow B 5 1 (.slice (some ⟨g, 0, none⟩) q q) q (us.map u8v)
theorem RowB.len {w : World} {B g q : Nat} {us : List Nat} (h : RowB w B g q us) : us.length = q := by
  have := h.1; rw [List.length_map] at this; omega
theorem RowB.lt {w : World} {B g q : Nat} {us : List Nat} (h : RowB w B g q us) : B ≤ g ∧ g < w.heap.size := World.ownsRow.lt h g rfl
theorem RowB.cell {w : World} {B g q : Nat} {us : List Nat} (h : RowB w B g q us) {j : Nat} (hj : j < q) : w.cell? ⟨g, j, none⟩ = some (.int .u8 (wd us j : Nat)) := by
  rw [World.ownsRow.cellAt h j (by omega), List.getElem?_map]
  rw [wd_get (by rw [h.len]; exact hj), List.getElem?_eq_getElem (by rw [h.len]; exact hj)]; rfl
theorem RowB.free {w : World} {B g q : Nat} {us : List Nat} (h : RowB w B g q us) (j : Nat) : w.frozen? ⟨g, j, none⟩ = false := World.ownsRow.frozenAt h j
theorem RowB.set {w : World} {B g q : Nat} {us : List Nat} (h : RowB w B g q us) (k x : Nat) : RowB (w.setCell ⟨g, k, none⟩ (.int .u8 (x : Nat))) B g q (us.set k x) := by
  have := (World.ownsRow.stored h k (.int .u8 (x : Nat))).1
  unfold RowB
  rw [List.map_set]
  exact this
theorem RowB.below {w w' : World} {B g q : Nat} {us : List Nat} (h : RowB w B g q us) (hb : Below w.heap.size w w') : RowB w' B g q us := owns_below h (Nat.le_refl _) hb
theorem madeB_zero (q : Nat) : (madeCells #[Value.int .u8 0] q).toList = (List.replicate q 0).map u8v := by
  rw [List.map_replicate]
  apply List.ext_getElem
  · simp [madeCells]
  · intro i h1 h2
    simp [madeCells, u8v]
    have : i % 1 = 0 := Nat.mod_one i
    simp [this]
theorem RowB.new {w : World} {B g q : Nat} (h : w.ownsRow B 5 1 (.slice (some ⟨g, 0, none⟩) q q) q (madeCells #[Value.int .u8 0] q).toList) : RowB w B g q (List.replicate q 0) := by
  rw [madeB_zero] at h
  exact h
theorem word_byte {ws l : List Nat} (h : Rp ws l) (k : Nat) : byteOK l k (wd ws (k / 8) / 2 ^ (8 * (k % 8)) % 256) := by
  refine ⟨Nat.mod_lt _ (by decide), fun j hj => ?_⟩
  rw [show (256 : Nat) = 2 ^ 8 from rfl, Nat.testBit_mod_two_pow, Nat.testBit_div_two_pow, h.mem_iff]
  unfold mem
  rw [show (8 * k + j) / 64 = k / 8 by omega, show (8 * k + j) % 64 = 8 * (k % 8) + j by omega, Nat.add_comm]
  simp [hj]
theorem shl_byte (x e : Nat) : IntKind.u8.wrap ((x : Int) / 2 ^ e) = ((x / 2 ^ e % 256 : Nat) : Int) := by
  have h1 : ((x : Int) / 2 ^ e) = ((x / 2 ^ e : Nat) : Int) := by rw [Int.natCast_ediv]; simp
  rw [h1, IntKind.wrap_u8]; omega

set_option maxRecDepth 20000 in
theorem bytes_any (a : Option Addr) (n cap : Nat) (l : List Nat) (w : World) (h : Bs w a n cap l) :
    Calls Tryz.prog 115 #[.agg #[.slice a n cap]] w fun e w' => ∃ bs v, e = .returned v ∧ BytesOf bs l ∧ w'.ownsRow w.heap.size 5 1 v bs.length (bs.map u8v) ∧ Below w.heap.size w w' := by
  obtain ⟨i0, hi, hz0, hz1, hz2⟩ := info_parts infoByte
  have hG := Lib.hid (fun w' (hb : Below w.heap.size w w') => greatest_any a n cap l w' (h.below hb))
  unfold lastP at hG
  obtain ⟨ws, ⟨h1, h2, h3, h4⟩, hr⟩ := h
  by_cases hl : l = []
  · subst hl
    clear h4 hr h1
    go_enter Tryz.func115, Tryz.ntmps115
    go_wp2_with (go_at_call 112; refine (hG.out _ (by go_grown)).mono ?_; rintro e w2 ⟨rfl, hb2⟩)
    go_ret
    exact ⟨[], _, rfl, ⟨fun _ => rfl, fun h => absurd rfl h, fun k h => by simp at h⟩, World.ownsRow_nil _ _ _ _, bel1 hb2⟩
  · have hn0 : n ≠ 0 := by
      intro e
      apply hl
      exact none_words hr (fun j hj => by omega)
    obtain ⟨g1, g2, g3, g4⟩ := greatest_words hr (by omega)
    obtain ⟨b1, o1, rfl, hb1, hc1⟩ : ∃ b o, a = some ⟨b, o, none⟩ ∧ b < w.heap.size ∧ ∀ j, j < n → w.cell? ⟨b, o + j, none⟩ = some (.int .u64 (wd ws j : Nat)) := by
      rcases h4 with ⟨_, h0, _⟩ | h4
      · exact absurd h0 hn0
      · obtain ⟨b, o, x1, x2, x3⟩ := h4; exact ⟨b, o, x1, x2.1, x3⟩
    have hn64 : n ≤ 64 := by have := hr.2.2.1; rw [h1] at this; exact this
    have hem : l.isEmpty = false := by cases l with
      | nil => exact absurd rfl hl
      | cons _ _ => rfl
    have HTP : Hid (∀ bs : List Nat, bs.length = l.getLastD 0 / 8 + 1 → (∀ k, wd bs k = if k < l.getLastD 0 / 8 + 1 then wd ws (k / 8) / 2 ^ (8 * (k % 8)) % 256 else 0) → BytesOf bs l) := by
      intro bs hb hu
      refine ⟨fun e => absurd e hl, fun _ => hb, fun k h => ?_⟩
      have := hu k
      rw [wd_get h, if_pos (by omega)] at this
      rw [this]; exact word_byte hr k
    rw [h1] at g1 g3 g4
    have htn : l.getLastD 0 / 64 < n := by rw [g3]; omega
    rw [hem] at hG
    generalize l.getLastD 0 = top at hG HTP htn
    have hwl := Lib.hid (fun k => wd_lt hr.1 k)
    have HC := Lib.hid hc1
    clear hr h4 g1 g2 g3 g4 hc1 hem h1
    obtain ⟨q, hq⟩ : ∃ q : Nat, (top : Int) / 8 + 1 = q := ⟨top / 8 + 1, by omega⟩
    have HQ : Hid (q = top / 8 + 1) := by show _ = _; omega
    have hq8 : ∀ k, k < q → k / 8 < n := fun k hk => by omega
    have HQ8 := Lib.hid hq8
    have hq512 : q ≤ 512 := by omega
    have hbytes : i0.bytes * q ≤ 281474976710656 := by rw [hz2]; omega
    have hqm : q ≤ maxLen := by unfold maxLen; omega
    have htop : top < 4096 := by omega
    clear hq8 htn hl
    go_enter Tryz.func115, Tryz.ntmps115
    go_wp2_with (first
      | (go_at_call 112; refine (hG.out _ (by go_grown)).mono ?_; rintro e w2 ⟨rfl, hb2⟩; have hz2' := hb2.size; simp at hz2'; have HB2 := Lib.hid hb2; clear hb2)
      | (refine wpList_make_full _ rfl (.tmp 16) (.tmp 16) 87 rfl w2.heap.size 5 i0 (.int .u8 0) 1 Tryz.underlying87 hi hz0 hz1 .i64 .i64 q q q rfl rfl rfl rfl hbytes hqm (Nat.le_refl _) ?_; intro w3 hown hgr; have hrow : Hid (RowB w3 w2.heap.size w2.heap.size q (List.replicate q 0)) := RowB.new (by rw [Nat.mul_one] at hown; exact hown); have HB3 := Lib.hid ((Below.refl w2.heap.size w2).grown hgr (Nat.le_refl _) (fun b hb => by cases hb)); have hz3 := HB3.out.size; clear hown hgr))
    have hc0 := Lib.hid ((HB2.out.cell (p := ⟨w.heap.size, 0, none⟩) (by simp)).trans (new1 w _ _).1)
    have hb02 := Lib.hid (bel1 HB2.out)
    generalize hgE : w2.heap.size = g at hrow HB3 hz3 hz2' ⊢
    have HGE := Lib.hid hgE
    clear hgE hi hz0 hz1 hz2 hbytes hqm
    go_wp2_with fail
    go_loopw [20] (fun v wr => ∃ (k : Nat) (us : List Nat), k ≤ q ∧ v = .int .i64 k ∧ Hid (RowB wr g g q us) ∧ Hid (Upto us k (fun k => wd ws (k / 8) / 2 ^ (8 * (k % 8)) % 256)) ∧ Hid (Below g w2 wr)) (fun v _ => q - (intOf v).toNat)
    case atStart => exact ⟨0, List.replicate q 0, Nat.zero_le _, rfl, hrow.out, Upto.zero _ _, HB3.out⟩
    case round =>
      obtain ⟨k, us, hk, rfl, HR, HU, HB⟩ := hrel
      have hBw := Lib.hid (hb02.out.trans (HB.out.mono (by have := hb02.out.size; have := HGE.out; omega)))
      have c0 := (HB.out.cell (p := ⟨w.heap.size, 0, none⟩) (show w.heap.size < g by omega)).trans hc0.out
      by_cases hlt : k < q
      · have x1 := HR.out.cell hlt
        have x2 := HR.out.free k
        have x3 := (hBw.out.cell (p := ⟨b1, o1 + k / 8, none⟩) hb1).trans (HC.out (k / 8) (HQ8.out k hlt))
        have y1 : (k : Int) / 8 < (n : Int) := by have := HQ8.out k hlt; omega
        have y2 : (0 : Int) ≤ (k : Int) / 8 := by omega
        have y3 : ∀ x : Nat, (x : Int) / 2 ^ (8 * (k % 8)) % 256 = ((x / 2 ^ (8 * (k % 8)) % 256 : Nat) : Int) := fun x => by rw [← IntKind.wrap_u8]; exact shl_byte x _
        have Y3 := Lib.hid y3
        clear y3
        have HN := Lib.hid (HU.out.next HR.out.len hlt)
        obtain ⟨x, hx⟩ : ∃ x, x = wd ws (k / 8) := ⟨_, rfl⟩
        have HX := Lib.hid hx
        rw [← hx] at x3
        clear hx
        go_wp2_with fail
        rw [Y3.out x, HX.out]
        go_roundw
        case rel => exact ⟨k + 1, us.set k _, by omega, by go_num, HR.out.set k _, HN.out, HB.out.setCell (Nat.le_refl _) _⟩
        case measure => simp [intOf]; omega
      · have hkq := Lib.hid (show k = q by omega)
        go_wp2_with fail
        go_ret
        refine ⟨us, _, rfl, HTP.out us (by rw [HR.out.len]; exact HQ.out) (fun j => ?_), ?_, hBw.out⟩
        · rw [HU.out j, hkq.out, HQ.out]
        · have := HR.out
          unfold RowB at this
          have hlen := HR.out.len
          subst hlen
          exact ⟨this.1, this.2.imp id (fun ⟨g', cap, cur, e, hb, r⟩ => ⟨g', cap, cur, e, Nat.le_trans (by have := hb02.out.size; have := HGE.out; omega) hb, r⟩)⟩
end Go.Proofs.YtadomogbakcokaaGreatDoor
end

section
/- Plain: the set of bytes (Read). -/
namespace Go.Proofs.YtadomogbakcokaaGreatDoor
open Go.RowKit Go.PlainAid
set_option linter.unusedVariables false
set_option linter.unusedSimpArgs false
set_option maxHeartbeats 1000000

/-- The members that the bytes ps spell. -/
def readL (ps : List Nat) : List Nat := (List.range 4096).filter (fun x => (wd ps (x / 8)).testBit (x % 8))
theorem asc_readL (ps : List Nat) : Asc (readL ps) := ⟨(pw_range 4096).filter _, fun x hx => by simp [readL] at hx; exact hx.1⟩
/-- After k bytes. -/
def ReadAt (ps us : List Nat) (k : Nat) : Prop := ∀ j i, i < 64 → (wd us j).testBit i = (decide (8 * j + i / 8 < k) && (wd ps (8 * j + i / 8)).testBit (i % 8))
theorem ReadAt.zero (ps : List Nat) (q : Nat) : ReadAt ps (List.replicate q 0) 0 := by
  intro j i hi
  have : wd (List.replicate q 0) j = 0 := by
    unfold Go.Proofs.YtadomogbakcokaaGreatDoor.wd
    rw [List.getD_eq_getElem?_getD, List.getElem?_replicate]
    split <;> rfl
  rw [this]; simp
theorem ReadAt.next {ps us : List Nat} {k : Nat} (h : ReadAt ps us k) (hk : k / 8 < us.length) (hb : wd ps k < 256) : ReadAt ps (us.set (k / 8) (wd us (k / 8) ||| wd ps k * 2 ^ (8 * (k % 8)))) (k + 1) := by
  intro j i hi
  rw [wd_set hk]
  by_cases hj : j = k / 8
  · rw [if_pos hj, Nat.testBit_or, hj, h (k / 8) i hi, Nat.mul_comm (wd ps k), Nat.testBit_two_pow_mul]
    by_cases hc : 8 * (k / 8) + i / 8 < k
    · have e1 : decide (8 * (k / 8) + i / 8 < k) = true := decide_eq_true hc
      have e2 : decide (8 * (k / 8) + i / 8 < k + 1) = true := decide_eq_true (by omega)
      have e3 : decide (8 * (k % 8) ≤ i) = false := decide_eq_false (by omega)
      rw [e1, e2]
      simp [e3]
    · by_cases hd : 8 * (k / 8) + i / 8 = k
      · have e1 : decide (8 * (k / 8) + i / 8 < k) = false := decide_eq_false hc
        have e2 : decide (8 * (k / 8) + i / 8 < k + 1) = true := decide_eq_true (by omega)
        have e3 : 8 * (k % 8) ≤ i := by omega
        rw [e1, e2, hd, show i % 8 = i - 8 * (k % 8) by omega]
        simp [e3]
      · have e1 : decide (8 * (k / 8) + i / 8 < k) = false := decide_eq_false hc
        have e2 : decide (8 * (k / 8) + i / 8 < k + 1) = false := decide_eq_false (by omega)
        have e4 : (wd ps k).testBit (i - 8 * (k % 8)) = false ∨ i < 8 * (k % 8) := by
          by_cases h2 : i < 8 * (k % 8)
          · exact .inr h2
          · refine .inl (Nat.testBit_lt_two_pow (Nat.lt_of_lt_of_le hb ?_))
            exact Nat.pow_le_pow_right (n := 2) (by omega) (show 8 ≤ i - 8 * (k % 8) by omega)
        rw [e1, e2]
        rcases e4 with e4 | e4
        · simp [e4]
        · have : ¬ 8 * (k % 8) ≤ i := by omega
          simp [this]
  · rw [if_neg hj, h j i hi]
    have : decide (8 * j + i / 8 < k) = decide (8 * j + i / 8 < k + 1) := by
      rw [decide_eq_decide]; omega
    rw [this]
theorem read_lt {b k : Nat} (hb : b < 256) : b * 2 ^ (8 * (k % 8)) < 18446744073709551616 := by
  have h1 : 2 ^ (8 * (k % 8)) ≤ 2 ^ 56 := Nat.pow_le_pow_right (by omega) (by omega)
  calc b * 2 ^ (8 * (k % 8)) ≤ 255 * 2 ^ 56 := Nat.mul_le_mul (by omega) h1
    _ < 18446744073709551616 := by decide
theorem read_rp {ps us : List Nat} (h : ReadAt ps us ps.length) (hu : U64 us) (hl : us.length = (ps.length + 7) / 8) (hp : ps.length ≤ 512) (h0 : ∀ h : 0 < ps.length, ps[ps.length - 1] ≠ 0) (hb : ∀ x ∈ ps, x < 256) : Rp us (readL ps) := by
  refine Rp.of hu ?_ (by omega) (asc_readL ps) ?_
  · intro j hj e
    have hpos : 0 < ps.length := by omega
    apply h0 hpos
    apply Nat.eq_of_testBit_eq
    intro i
    rw [Nat.zero_testBit]
    by_cases hi : i < 8
    · have h2 := h j (8 * ((ps.length - 1) % 8) + i) (by omega)
      rw [e, Nat.zero_testBit] at h2
      have e1 : 8 * j + (8 * ((ps.length - 1) % 8) + i) / 8 = ps.length - 1 := by omega
      rw [e1, show (8 * ((ps.length - 1) % 8) + i) % 8 = i by omega, wd_get (by omega)] at h2
      have e3 : decide (ps.length - 1 < ps.length) = true := decide_eq_true (by omega)
      rw [e3] at h2
      simpa using h2.symm
    · refine Nat.testBit_lt_two_pow (Nat.lt_of_lt_of_le (hb _ (List.getElem_mem _)) ?_)
      exact Nat.pow_le_pow_right (n := 2) (by omega) (show 8 ≤ i by omega)
  · intro i hi
    unfold mem
    rw [h (i / 64) (i % 64) (by omega)]
    simp only [readL, List.mem_filter, List.mem_range]
    rw [show 8 * (i / 64) + i % 64 / 8 = i / 8 by omega, show i % 64 % 8 = i % 8 by omega]
    by_cases hc : i / 8 < ps.length
    · simp [hc, hi]
    · rw [wd_out (by omega)]; simp
end Go.Proofs.YtadomogbakcokaaGreatDoor
end

section
/- Contract: Read. -/
namespace Go.Proofs.YtadomogbakcokaaGreatDoor
open Go.RowKit Go.PlainAid
set_option linter.unusedVariables false
set_option linter.unusedSimpArgs false
set_option maxHeartbeats 2000000

/-- The slice (a, n, cap) holds the bytes ps. -/
def Bw (w : World) (a : Option Addr) (n cap : Nat) (ps : List Nat) : Prop :=
  ps.length = n ∧ n ≤ cap ∧ cap ≤ 9223372036854775807 ∧ (∀ x ∈ ps, x < 256) ∧ (n = 0 ∨ ∃ b o, a = some ⟨b, o, none⟩ ∧ b < w.heap.size ∧ ∀ j, j < n → w.cell? ⟨b, o + j, none⟩ = some (.int .u8 (wd ps j : Nat)))
def readOK (ps : List Nat) : Prop := ps.length ≤ 512 ∧ (0 < ps.length → wd ps (ps.length - 1) ≠ 0)
def ReadPost (ps : List Nat) (w : World) (e : Ending) (w' : World) : Prop :=
  ((readOK ps ∧ ∃ a n cap, e = .returned (.tuple #[.agg #[.slice a n cap], .int .i64 0]) ∧ Bs w' a n cap (readL ps)) ∨
    (¬ readOK ps ∧ e = .returned (.tuple #[.agg #[.slice none 0 0], .int .i64 6]))) ∧ Below w.heap.size w w'

set_option maxRecDepth 20000 in
theorem read_any (a : Option Addr) (n cap : Nat) (ps : List Nat) (w : World) (h : Bw w a n cap ps) (hn : n ≤ 1000000) :
    Calls Tryz.prog 110 #[.slice a n cap] w (ReadPost ps w) := by
  obtain ⟨i0, hi, hz0, hz1, hz2⟩ := info_parts info64
  obtain ⟨h1, h2, h3, h4, h5⟩ := h
  by_cases hn5 : n ≤ 512
  · by_cases hn0 : n = 0
    · have HOK : Hid (readOK ps) := ⟨by rw [h1]; exact hn5, fun h0 => by rw [h1, hn0] at h0; exact absurd h0 (Nat.lt_irrefl 0)⟩
      obtain ⟨q, hq⟩ : ∃ q : Nat, ((n : Int) + 7) / 8 = q := ⟨(n + 7) / 8, by omega⟩
      have HQ : Hid (q = (n + 7) / 8) := by show _ = _; omega
      have hq64 : q ≤ 64 := by omega
      have hbytes : i0.bytes * q ≤ 281474976710656 := by rw [hz2]; omega
      have hqm : q ≤ maxLen := by unfold maxLen; omega
      have H4 := Lib.hid h4
      have H1 := Lib.hid h1
      have HN0 := Lib.hid hn0
      have hle : n ≤ 0 := by omega
      clear h5 h4 h1 hn0
      go_enter Tryz.func110, Tryz.ntmps110
      go_wp2_with (refine wpList_make_full _ rfl (.tmp 28) (.tmp 28) 30 rfl (w.heap.size + 1) 23 i0 (.int .u64 0) 1 Tryz.underlying30 hi hz0 hz1 .i64 .i64 (((n : Int) + 7) / 8) (((n : Int) + 7) / 8) q rfl rfl hq hq hbytes hqm (by simp) ?_)
      all_goals first | (exfalso; omega) | skip
      all_goals
        intro w1 hown hgr
        have hrow := Lib.hid (Row.new hown)
        have hbel := Lib.hid ((Below.refl (w.heap.size + 1) _).grown hgr (by simp) (fun b hb => by cases hb))
        clear hown hgr hi hz0 hz1 hz2 hbytes hqm
        generalize hgE : w.heap.size + 1 = g at hrow ⊢
        have HGE := Lib.hid hgE
        clear hgE
        go_wp2_with fail
        go_loopw [32] (fun v wr => v = .int .i64 0 ∧ Hid (Row wr g g q (List.replicate q 0)) ∧ Hid (Below (w.heap.size + 1) (w.alloc (.cells #[.slice none 0 0] 32)) wr)) (fun v _ => n - (intOf v).toNat)
        case atStart => exact ⟨rfl, hrow.out, hbel.out⟩
        case round =>
          obtain ⟨rfl, HR, HB⟩ := hrel
          have hzr : w.heap.size + 1 ≤ wr.heap.size := by have := HB.out.size; simp at this; omega
          have hBw := Lib.hid (((Below.refl w.heap.size w).alloc (Nat.le_refl _) _).trans (HB.out.mono (by omega)))
          have c0 := (HB.out.cell (p := ⟨w.heap.size, 0, none⟩) (show w.heap.size < w.heap.size + 1 by omega)).trans (new1 w _ _).1
          have f0 := (HB.out.frozen (p := ⟨w.heap.size, 0, none⟩) (show w.heap.size < w.heap.size + 1 by omega)).trans (new1 w _ _).2
          go_wp2_with fail
          all_goals first | (exfalso; omega) | skip
          all_goals
            have cs := World.cell?_setCell_same wr ⟨w.heap.size, 0, none⟩ (.slice (some ⟨g, 0, none⟩) q q) c0
            refine bodyPost_ret (v := .tuple #[.agg #[.slice (some ⟨g, 0, none⟩) q q], .int .i64 0]) (by simp [results, Tryz.results110, go_sem, cs]) rfl ?_
            have hrp : Rp (List.replicate q 0) (readL ps) := read_rp (by rw [H1.out, HN0.out]; exact ReadAt.zero _ _) (fun x hx => by rw [List.mem_replicate] at hx; rw [hx.2]; decide) (by rw [HR.out.len, H1.out]; exact HQ.out) HOK.out.1 (fun h0 => by rw [H1.out, HN0.out] at h0; exact absurd h0 (Nat.lt_irrefl 0)) H4.out
            exact ⟨.inl ⟨HOK.out, _, _, _, rfl, ⟨_, (HR.out.other (show g ≠ w.heap.size by have := HGE.out; omega) _).wd (by omega), hrp⟩⟩, hBw.out.setCell (Nat.le_refl _) _⟩
    · obtain ⟨b, o, rfl, hb, hc⟩ : ∃ b o, a = some ⟨b, o, none⟩ ∧ b < w.heap.size ∧ ∀ j, j < n → w.cell? ⟨b, o + j, none⟩ = some (.int .u8 (wd ps j : Nat)) := by
        rcases h5 with h0 | h5
        · exact absurd h0 hn0
        · exact h5
      have x0 := hc (n - 1) (by omega)
      by_cases hlast : wd ps (n - 1) = 0
      · rw [hlast] at x0
        have HN : Hid (¬ readOK ps) := by
          rintro ⟨_, hh⟩
          exact hh (by rw [h1]; exact Nat.pos_of_ne_zero hn0) (by rw [h1]; exact hlast)
        clear hc h4 h1
        go_enter Tryz.func110, Tryz.ntmps110
        go_wp2_with fail
        all_goals first | (exfalso; omega) | skip
        all_goals
          refine bodyPost_ret (v := .tuple #[.agg #[.slice none 0 0], .int .i64 6]) (by simp [results, Tryz.results110, go_sem]) rfl ?_
          exact ⟨.inr ⟨HN.out, rfl⟩, (Below.refl _ w).alloc (Nat.le_refl _) _⟩
      · have HOK : Hid (readOK ps) := ⟨by rw [h1]; exact hn5, fun _ => by rw [h1]; exact hlast⟩
        have hne : ((wd ps (n - 1) : Nat) : Int) ≠ 0 := by omega
        have hne2 : (((wd ps (n - 1) : Nat) : Int) == 0) = false := beq_eq_false_iff_ne.2 hne
        obtain ⟨q, hq⟩ : ∃ q : Nat, ((n : Int) + 7) / 8 = q := ⟨(n + 7) / 8, by omega⟩
        have HQ : Hid (q = (n + 7) / 8) := by show _ = _; omega
        have hq64 : q ≤ 64 := by omega
        have hbytes : i0.bytes * q ≤ 281474976710656 := by rw [hz2]; omega
        have hqm : q ≤ maxLen := by unfold maxLen; omega
        have H4 := Lib.hid h4
        have H1 := Lib.hid h1
        have HC := Lib.hid hc
        clear hlast h5 h4 h1 hc hne
        generalize wd ps (n - 1) = lastb at x0 hne2
        go_enter Tryz.func110, Tryz.ntmps110
        go_wp2_with (refine wpList_make_full _ rfl (.tmp 28) (.tmp 28) 30 rfl (w.heap.size + 1) 23 i0 (.int .u64 0) 1 Tryz.underlying30 hi hz0 hz1 .i64 .i64 (((n : Int) + 7) / 8) (((n : Int) + 7) / 8) q rfl rfl hq hq hbytes hqm (by simp) ?_)
        all_goals first | (exfalso; omega) | skip
        all_goals
          intro w1 hown hgr
          have hrow := Lib.hid (Row.new hown)
          have hbel := Lib.hid ((Below.refl (w.heap.size + 1) _).grown hgr (by simp) (fun b hb => by cases hb))
          clear hown hgr hi hz0 hz1 hz2 hbytes hqm
          generalize hgE : w.heap.size + 1 = g at hrow ⊢
          have HGE := Lib.hid hgE
          clear hgE
          go_wp2_with fail
          go_loopw [32] (fun v wr => ∃ (k : Nat) (us : List Nat), k ≤ n ∧ v = .int .i64 k ∧ Hid (Row wr g g q us) ∧ Hid (ReadAt ps us k) ∧ Hid (U64 us) ∧ Hid (Below (w.heap.size + 1) (w.alloc (.cells #[.slice none 0 0] 32)) wr)) (fun v _ => n - (intOf v).toNat)
          case atStart => exact ⟨0, List.replicate q 0, Nat.zero_le _, rfl, hrow.out, ReadAt.zero _ _, fun x hx => by rw [List.mem_replicate] at hx; rw [hx.2]; decide, hbel.out⟩
          case round =>
            obtain ⟨k, us, hk, rfl, HR, HA, HU, HB⟩ := hrel
            have hzr : w.heap.size + 1 ≤ wr.heap.size := by have := HB.out.size; simp at this; omega
            have hBw := Lib.hid (((Below.refl w.heap.size w).alloc (Nat.le_refl _) _).trans (HB.out.mono (by omega)))
            have c0 := (HB.out.cell (p := ⟨w.heap.size, 0, none⟩) (show w.heap.size < w.heap.size + 1 by omega)).trans (new1 w _ _).1
            have f0 := (HB.out.frozen (p := ⟨w.heap.size, 0, none⟩) (show w.heap.size < w.heap.size + 1 by omega)).trans (new1 w _ _).2
            by_cases hlt : k < n
            · have hkq : k / 8 < q := by have := HQ.out; omega
              have x1 := (hBw.out.cell (p := ⟨b, o + k, none⟩) hb).trans (HC.out k hlt)
              have x2 := HR.out.cell hkq
              have x3 := HR.out.free (k / 8)
              have hb256 : wd ps k < 256 := by rw [wd_get (by rw [H1.out]; exact hlt)]; exact H4.out _ (List.getElem_mem _)
              have hlt64 := read_lt (k := k) hb256
              have y1 : (k : Int) / 8 < (q : Int) := by omega
              have y2 : (0 : Int) ≤ (k : Int) / 8 := by omega
              have hcast : ((wd ps k : Nat) : Int) * 2 ^ (8 * (k % 8)) = ((wd ps k * 2 ^ (8 * (k % 8)) : Nat) : Int) := by rw [Int.natCast_mul]; simp
              have w1' : IntKind.u64.wrap ((wd ps k : Nat) : Int) = ((wd ps k : Nat) : Int) := by rw [IntKind.wrap_u64]; omega
              have w2' : IntKind.u64.wrap (((wd ps k : Nat) : Int) * 2 ^ (8 * (k % 8))) = ((wd ps k * 2 ^ (8 * (k % 8)) : Nat) : Int) := by rw [hcast, IntKind.wrap_u64]; omega
              have hor : bits .or .u64 ((wd us (k / 8) : Nat) : Int) ((wd ps k * 2 ^ (8 * (k % 8)) : Nat) : Int) = ((wd us (k / 8) ||| wd ps k * 2 ^ (8 * (k % 8)) : Nat) : Int) := u64_or_nat _ _ (wd_lt HU.out _) hlt64
              have HW1 := Lib.hid w1'
              have HW2 := Lib.hid w2'
              have HOR := Lib.hid hor
              have HCA := Lib.hid hcast
              have HB256 := Lib.hid hb256
              have HLT := Lib.hid hlt64
              clear w1' w2' hor hcast hb256 hlt64
              go_wp2_with fail
              go_region
              rw [HW1.out, HW2.out, HOR.out]
              go_wp2_with fail
              go_roundw
              case rel => exact ⟨k + 1, us.set (k / 8) _, by omega, by go_num, (HR.out.set (k / 8) _), HA.out.next (by rw [HR.out.len]; exact hkq) HB256.out, fun x hx => by
                rcases List.mem_or_eq_of_mem_set hx with hx | rfl
                · exact HU.out x hx
                · exact lor_lt (wd_lt HU.out _) HLT.out, (HB.out.setCell (show w.heap.size + 1 ≤ g by rw [HGE.out]; exact Nat.le_refl _) _).drew⟩
              case measure => simp [intOf]; omega
            · have HK := Lib.hid (show k = n by omega)
              go_wp2_with fail
              have cs := World.cell?_setCell_same wr ⟨w.heap.size, 0, none⟩ (.slice (some ⟨g, 0, none⟩) q q) c0
              refine bodyPost_ret (v := .tuple #[.agg #[.slice (some ⟨g, 0, none⟩) q q], .int .i64 0]) (by simp [results, Tryz.results110, go_sem, cs]) rfl ?_
              have hrp : Rp us (readL ps) := read_rp (by rw [H1.out, ← HK.out]; exact HA.out) HU.out (by rw [HR.out.len, H1.out]; exact HQ.out) HOK.out.1 (fun h0 => by
                have := HOK.out.2 h0
                rw [wd_get (by omega)] at this; exact this) H4.out
              exact ⟨.inl ⟨HOK.out, _, _, _, rfl, ⟨us, (HR.out.other (show g ≠ w.heap.size by have := HGE.out; omega) _).wd (by omega), hrp⟩⟩, hBw.out.setCell (Nat.le_refl _) _⟩
  · have HN : Hid (¬ readOK ps) := by rintro ⟨hh, _⟩; omega
    clear h4 h5 h1
    have hbig : (512 : Int) < (n : Int) := by omega
    go_enter Tryz.func110, Tryz.ntmps110
    go_wp2_with fail
    refine bodyPost_ret (v := .tuple #[.agg #[.slice none 0 0], .int .i64 6]) (by simp [results, Tryz.results110, go_sem]) rfl ?_
    exact ⟨.inr ⟨HN.out, rfl⟩, (Below.refl _ w).alloc (Nat.le_refl _) _⟩
end Go.Proofs.YtadomogbakcokaaGreatDoor
end
