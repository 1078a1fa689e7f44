/- Contract of the reference: Bytes. -/
import Derived.Test.YtaekkpoknpnnbaaDoorBtY
namespace Go.Proofs.YtaekkpoknpnnbaaDoor
open Go.RowKit Go.PlainAid
set_option linter.unusedVariables false
set_option linter.unusedSimpArgs false
set_option maxHeartbeats 2000000

theorem add_bit8 : ∀ b, b < 256 → ∀ m, m < 8 → b.testBit m = false → b + 2 ^ m = b ||| 2 ^ m := by decide +kernel
theorem or_lt8 {b m : Nat} (hb : b < 256) (hm : m < 8) : b ||| 2 ^ m < 256 := by
  have h2 : 2 ^ m < 2 ^ 8 := Nat.pow_lt_pow_right (by omega) hm
  exact Nat.or_lt_two_pow (n := 8) hb h2
theorem last_ge {l : List Nat} (h : Asc l) : ∀ x ∈ l, x ≤ l.getLastD 0 := by
  intro x hx
  have hne : l ≠ [] := List.ne_nil_of_mem hx
  rw [List.getLastD_eq_getLast?, List.getLast?_eq_some_getLast hne, Option.getD_some]
  obtain ⟨j, hj, rfl⟩ := List.getElem_of_mem hx
  rw [List.getLast_eq_getElem]
  by_cases e : j = l.length - 1
  · subst e; exact Nat.le_refl _
  · exact Nat.le_of_lt (List.pairwise_iff_getElem.1 h.1 j (l.length - 1) hj (by omega) (by omega))
theorem BytesOf.wd {bs l : List Nat} (h : BytesOf bs l) (hl : Asc l) (k : Nat) : byteOK l k (wd bs k) := by
  by_cases hk : k < bs.length
  · rw [wd_get hk]; exact h.2.2 k hk
  · rw [wd_out (by omega)]
    refine ⟨by omega, fun j hj => ⟨fun e => by simp at e, fun hm => ?_⟩⟩
    have hne : l ≠ [] := List.ne_nil_of_mem hm
    have h1 := h.2.1 hne
    have h2 := last_ge hl _ hm
    omega
theorem wd_pad (bs : List Nat) (j k : Nat) : wd (bs ++ List.replicate j 0) k = wd bs k := by
  unfold wd
  rw [List.getD_eq_getElem?_getD, List.getD_eq_getElem?_getD]
  by_cases hk : k < bs.length
  · rw [List.getElem?_append_left hk]
  · rw [List.getElem?_append_right (by omega), List.getElem?_replicate, List.getElem?_eq_none (by omega)]
    split <;> rfl
theorem asc_take {l : List Nat} (h : Asc l) (k : Nat) : Asc (l.take k) := ⟨h.1.sublist (List.take_sublist _ _), fun x hx => h.2 x (List.mem_of_mem_take hx)⟩
theorem bytes_len {bs l : List Nat} {k : Nat} (h : BytesOf bs (l.take k)) (hl : Asc l) (hk : k < l.length) : bs.length ≤ wd l k / 8 + 1 := by
  by_cases he : l.take k = []
  · rw [h.1 he]; simp
  · rw [h.2.1 he]
    have hm : (l.take k).getLastD 0 ∈ l.take k := by
      rw [List.getLastD_eq_getLast?, List.getLast?_eq_some_getLast he, Option.getD_some]; exact List.getLast_mem he
    have := take_lt hl hk _ hm
    omega
theorem bytes_len2 {bs l : List Nat} (h : BytesOf bs l) (hl : Asc l) : bs.length ≤ 512 := by
  by_cases he : l = []
  · rw [h.1 he]; simp
  · rw [h.2.1 he]
    have hm : l.getLastD 0 ∈ l := by
      rw [List.getLastD_eq_getLast?, List.getLast?_eq_some_getLast he, Option.getD_some]; exact List.getLast_mem he
    have := hl.2 _ hm
    omega
theorem bytes_next {bs cs l : List Nat} {k x : Nat} (h : BytesOf bs (l.take k)) (hl : Asc l) (hk : k < l.length) (hx : wd l k = x) (hc : cs.length = x / 8 + 1) (hw : ∀ i, wd cs i = wd bs i) :
    wd cs (x / 8) < 256 ∧ wd cs (x / 8) + 2 ^ (x % 8) < 256 ∧ BytesOf (cs.set (x / 8) (wd cs (x / 8) + 2 ^ (x % 8))) (l.take (k + 1)) := by
  have hok : ∀ i, byteOK (l.take k) i (wd cs i) := fun i => by rw [hw]; exact h.wd (asc_take hl k) i
  have h1 := (hok (x / 8)).1
  have hnb : (wd cs (x / 8)).testBit (x % 8) = false := by
    cases e : (wd cs (x / 8)).testBit (x % 8)
    · rfl
    · have h2 := ((hok (x / 8)).2 (x % 8) (by omega)).1 e
      rw [show 8 * (x / 8) + x % 8 = x by omega] at h2
      have := take_lt hl hk _ h2
      omega
  rw [add_bit8 _ h1 _ (by omega) hnb]
  have h3 := or_lt8 h1 (show x % 8 < 8 by omega)
  refine ⟨h1, h3, ?_, ?_, ?_⟩
  · intro e; rw [take_wd hk] at e; simp at e
  · intro _
    rw [List.length_set, hc, take_wd hk, hx]; simp
  · intro i hi
    rw [List.length_set] at hi
    rw [← wd_get (by rw [List.length_set]; exact hi), wd_set (by omega), take_wd hk, hx]
    by_cases e : i = x / 8
    · rw [if_pos e, e]
      refine ⟨h3, fun j hj => ?_⟩
      rw [Nat.testBit_or, Nat.testBit_two_pow, List.mem_append, List.mem_singleton, Bool.or_eq_true, (hok (x / 8)).2 j hj, decide_eq_true_eq]
      constructor
      · rintro (h4 | h4)
        · exact .inl h4
        · exact .inr (by omega)
      · rintro (h4 | h4)
        · exact .inl h4
        · exact .inr (by omega)
    · rw [if_neg e]
      refine ⟨(hok i).1, fun j hj => ?_⟩
      rw [(hok i).2 j hj, List.mem_append, List.mem_singleton]
      constructor
      · exact .inl
      · rintro (h4 | h4)
        · exact h4
        · omega

def RowY (w : World) (B : Nat) (v : Value) (bs : List Nat) : Prop := w.ownsRow B 5 1 v bs.length (bs.map u8v)
theorem RowY.nil (w : World) (B : Nat) : RowY w B (.slice none 0 0) [] := World.ownsRow_nil w B 5 1
theorem RowY.slice {w : World} {B : Nat} {v : Value} {bs : List Nat} (h : RowY w B v bs) : ∃ a cap, v = .slice a bs.length cap ∧ bs.length ≤ cap ∧ cap ≤ 9223372036854775807 := by
  rcases h.2 with ⟨e1, e2⟩ | ⟨g, cap, cur, rfl, _, _, h1, h2, _⟩
  · exact ⟨none, 0, by rw [e1, e2], by omega, by omega⟩
  · exact ⟨_, _, rfl, h1, by unfold maxLen at h2; omega⟩
theorem RowY.bw {w : World} {B : Nat} {v : Value} {bs : List Nat} (h : RowY w B v bs) (hb : ∀ x ∈ bs, x < 256) : ∃ a cap, v = .slice a bs.length cap ∧ Bw w a bs.length cap bs := by
  rcases h.2 with ⟨e1, e2⟩ | ⟨g, cap, cur, rfl, _, hg, h1, h2, _⟩
  · exact ⟨none, 0, by rw [e1, e2], rfl, by omega, by omega, hb, .inl e2⟩
  · refine ⟨_, _, rfl, rfl, h1, by unfold maxLen at h2; omega, hb, .inr ⟨g, 0, rfl, (World.ownsRow.lt h g rfl).2, fun j hj => ?_⟩⟩
    rw [Nat.zero_add, World.ownsRow.cellAt h j (by simpa using hj), List.getElem?_map, List.getElem?_eq_getElem hj, wd_get hj]; rfl
theorem RowY.addr {w : World} {B : Nat} {v : Value} {bs : List Nat} (h : RowY w B v bs) (hb : 0 < bs.length) : ∃ g cap, v = .slice (some ⟨g, 0, none⟩) bs.length cap ∧ B ≤ g ∧ g < w.heap.size ∧ bs.length ≤ cap ∧ cap ≤ 9223372036854775807 := by
  rcases h.2 with ⟨e1, e2⟩ | ⟨g, cap, cur, rfl, _, hg, h1, h2, _⟩
  · omega
  · exact ⟨g, cap, rfl, (World.ownsRow.lt h g rfl).1, (World.ownsRow.lt h g rfl).2, h1, by unfold maxLen at h2; omega⟩
theorem RowY.cell {w : World} {B g cap : Nat} {bs : List Nat} (h : RowY w B (.slice (some ⟨g, 0, none⟩) bs.length cap) bs) {j : Nat} (hj : j < bs.length) : w.cell? ⟨g, j, none⟩ = some (.int .u8 (wd bs j : Nat)) := by
  rw [World.ownsRow.cellAt h j (by simpa using hj), List.getElem?_map, List.getElem?_eq_getElem hj, wd_get hj]; rfl
theorem RowY.set {w : World} {B g cap : Nat} {bs : List Nat} (h : RowY w B (.slice (some ⟨g, 0, none⟩) bs.length cap) bs) (k x : Nat) : RowY (w.setCell ⟨g, k, none⟩ (.int .u8 (x : Nat))) B (.slice (some ⟨g, 0, none⟩) bs.length cap) (bs.set k x) := by
  have := (World.ownsRow.stored h k (.int .u8 (x : Nat))).1
  unfold RowY
  rw [List.length_set, List.map_set]
  exact this
theorem rowY_push {w : World} {B : Nat} {v : Value} {l : List Nat} {x : Nat} (h : w.ownsRow B 5 1 v (l.length + 1) (l.map u8v ++ [.int .u8 (x : Nat)])) : RowY w B v (l ++ [x]) := by
  unfold RowY
  rw [List.length_append, List.map_append]
  exact h
theorem below_pushY {w wr w1 : World} {v : Value} {l : List Nat} {o : Obj} (hb : Below w.heap.size w wr) (hr : RowY wr w.heap.size v l) (hg : (wr.alloc o).grownBy w1 v.ownBlock) : Below w.heap.size w w1 :=
  (hb.alloc hb.size _).grown hg (by have := hb.size; simp; omega) (fun b hb => (World.ownsRow.lt hr b hb).1)
def sliceLen (v : Value) : Nat := match v with | .slice _ m _ => m | _ => 0

set_option maxRecDepth 20000 in
theorem rbytes_any (a : Option Addr) (n cap : Nat) (l : List Nat) (w : World) (h : Iw w a n cap (cs l)) (hl : Asc l) :
    Calls Tryd.prog 29 #[.slice a n cap] w fun e w' => ∃ bs v, e = .returned v ∧ BytesOf bs l ∧ w'.ownsRow w.heap.size 5 1 v bs.length (bs.map u8v) ∧ Below w.heap.size w w' := by
  obtain ⟨i0, hif, hz0, hz1, hz2⟩ := info_parts infoByte
  have HI := Lib.hid h
  have hn : l.length = n := by rw [← cs_length]; exact h.1
  have HN := Lib.hid hn
  have HL := Lib.hid hl
  have h2 := h.2.1
  have h3 := h.2.2.1
  clear h hl hn
  go_enter Tryd.func29, Tryd.ntmps29
  go_wp2_with fail
  go_loopw [3, 11] (fun v3 v11 wr => ∃ (k : Nat) (bs : List Nat), k ≤ n ∧ v11 = .int .i64 k ∧ RowY wr w.heap.size v3 bs ∧ Hid (BytesOf bs (l.take k)) ∧ Below w.heap.size w wr) (fun _ v _ => n - (intOf v).toNat)
  case atStart => exact ⟨0, [], Nat.zero_le _, rfl, RowY.nil _ _, ⟨fun _ => rfl, fun h => absurd rfl h, fun k hk => absurd hk (Nat.not_lt_zero _)⟩, Below.refl _ _⟩
  case round =>
    obtain ⟨k, bs, hk, rfl, hrow, HB, hbel⟩ := hrel
    have hzr := hbel.size
    by_cases hlt : k < n
    · obtain ⟨b, o, rfl, hb, hc0⟩ := HI.out.at hlt
      have hc := (hbel.cell (p := ⟨b, o + k, none⟩) hb).trans hc0
      rw [zg_cs] at hc
      have hlk : k < l.length := by rw [HN.out]; exact hlt
      have hx4 : wd l k < 4096 := by rw [wd_get hlk]; exact HL.out.2 _ (List.getElem_mem _)
      have HLEN := bytes_len HB.out HL.out hlk
      have HNX := Lib.hid (fun (us : List Nat) => bytes_next (cs := us) HB.out HL.out hlk rfl)
      clear hc0 hlk
      generalize wd l k = x at hc hx4 HLEN HNX
      obtain ⟨a0, c0, rfl, hca, hcb⟩ := hrow.slice
      go_wp2_with fail
      go_loopw [3] (fun v3 wq => ∃ j : Nat, bs.length + j ≤ x / 8 + 1 ∧ RowY wq w.heap.size v3 (bs ++ List.replicate j 0) ∧ Below w.heap.size w wq) (fun v _ => x / 8 + 1 - sliceLen v)
      case atStart => exact ⟨0, HLEN, by simpa using hrow, hbel⟩
      case round =>
        obtain ⟨j, hj, hrow1, hbel1⟩ := hrel
        have hz1r := hbel1.size
        obtain ⟨a1, c1, hv1, hcc, hcd⟩ := hrow1.slice
        have hlen1 : (bs ++ List.replicate j 0).length = bs.length + j := by simp
        by_cases hle : bs.length + j ≤ x / 8
        · have HP : Hid (bs ++ List.replicate j 0 ++ [0] = bs ++ List.replicate (j + 1) 0) := by show _ = _; rw [List.append_assoc, ← List.replicate_succ']
          subst hv1
          have hle2 : (((bs ++ List.replicate j 0).length : Nat) : Int) ≤ (x : Int) / 8 := by omega
          have hl512 : (bs ++ List.replicate j 0).length ≤ 512 := by omega
          generalize bs ++ List.replicate j 0 = us at hrow1 HP hlen1 hl512 hle2 hcc ⊢
          have HLEN1 := Lib.hid hlen1
          clear hlen1
          go_wp2_with (at_builtin; refine wpList_append_own _ rfl _ _ 38 rfl w.heap.size 5 i0 (.int .u8 0) 1 1 Tryd.underlying38 hif hz0 hz1 hz2 rfl (by decide) _ _ _ rfl (hrow1.alloc _) ⟨wr.heap.size, 0, none⟩ 1 1 [.int .u8 ((0 : Nat) : Int)] rfl rfl (cell_one_new _ _ _) (by simp [Value.oneCell']) (by unfold maxLen; omega) (by omega) (by simp; omega) ?_)
          intro v' w1 hown' hgrow _
          have hbel' := below_pushY hbel1 hrow1 hgrow
          have hrow' := rowY_push hown'
          obtain ⟨a2, c2, rfl, _, _⟩ := hrow'.slice
          clear hgrow hrow1 hbel1 hown'
          go_wp2_with fail
          go_roundw
          case rel => exact ⟨j + 1, by omega, by rw [← HP.out]; exact hrow', hbel'⟩
          case measure => have := HLEN1.out; simp [sliceLen]; omega
        · have hje : bs.length + j = x / 8 + 1 := by omega
          have hU := HNX.out (bs ++ List.replicate j 0) (by rw [hlen1, hje]) (fun i => wd_pad bs j i)
          have hlen2 : (bs ++ List.replicate j 0).length = x / 8 + 1 := by rw [hlen1, hje]
          clear hlen1 hje hj hle hv1 hcc hcd
          generalize bs ++ List.replicate j 0 = us at hrow1 hU hlen2
          obtain ⟨g, cg, rfl, hg1, hg2, hg3, hg4⟩ := hrow1.addr (by omega)
          have x2 := hrow1.cell (j := x / 8) (by omega)
          have x3 := World.ownsRow.frozenAt hrow1 (x / 8)
          have hb256 := hU.1
          have hs256 := hU.2.1
          have HU := Lib.hid hU.2.2
          have HROW := Lib.hid (hrow1.set (x / 8) (wd us (x / 8) + 2 ^ (x % 8)))
          have hbel2 : Below w.heap.size w (wr.setCell ⟨g, x / 8, none⟩ (.int .u8 ((wd us (x / 8) + 2 ^ (x % 8) : Nat) : Int))) := hbel1.setCell hg1 _
          have HL2 : Hid (us.length = x / 8 + 1) := hlen2
          rw [hlen2] at hg3 ⊢
          have hxx : ¬ (((x / 8 + 1 : Nat) : Int) ≤ (x : Int) / 8) := by omega
          clear hU hrow1 hbel1 hrow HNX hlen2
          go_wp2_with fail
          go_loop [6, 7] (fun v6 v7 => ∃ i : Nat, i ≤ x % 8 ∧ v7 = .int .i64 i ∧ v6 = .int .u8 ((2 ^ i : Nat) : Int)) (fun _ v => x % 8 - (intOf v).toNat)
          case atStart => exact ⟨0, Nat.zero_le _, rfl, rfl⟩
          case round =>
            obtain ⟨i, hi, rfl, rfl⟩ := hrel
            by_cases hix : i < x % 8
            · have hp : 2 ^ i ≤ 2 ^ 6 := Nat.pow_le_pow_right (by omega) (by omega)
              have HP2 : Hid (2 ^ (i + 1) = 2 ^ i * 2) := Nat.pow_succ 2 i
              have hix2 : (i : Int) < (x : Int) % 8 := by omega
              generalize 2 ^ i = y at hp HP2
              have hy2 : y * 2 ≤ 255 := by omega
              go_wp2_with fail
              go_round
              case rel => exact ⟨i + 1, by omega, by go_num, by rw [HP2.out]; go_num⟩
              case measure => simp [intOf]; omega
            · have hie : i = x % 8 := by omega
              have hix2 : ¬ (i : Int) < (x : Int) % 8 := by omega
              rw [← hie] at hs256 HROW hbel2 HU
              clear hie hix hi
              generalize 2 ^ i = y at hs256 HROW hbel2 HU ⊢
              generalize wd us (x / 8) = z at *
              have hz : z + y ≤ 255 := by omega
              go_wp2_with fail
              go_roundw
              case rel => exact ⟨k + 1, _, by omega, by go_num, by have := HROW.out; rw [HL2.out] at this; exact this, HU.out, hbel2⟩
              case measure => simp [intOf]; omega
    · have HK : Hid (BytesOf bs l) := by have := HB.out; rw [List.take_of_length_le (by rw [HN.out]; omega)] at this; exact this
      go_wp2_with fail
      go_ret
      exact ⟨bs, _, rfl, HK.out, hrow, hbel⟩
end Go.Proofs.YtaekkpoknpnnbaaDoor
