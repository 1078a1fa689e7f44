/- Several of the texts below, joined: RuN RuO RuP. -/
import Derived.Test.YtfjpbkmnlmecgaaGreatDoorQgd
import Derived.Test.YtfjpbkmnlmecgaaGreatDoorQge
import Derived.Maps.OwnSet
import Derived.Maps.OwnOps
import Derived.Maps.Views
import Derived.Shelf.SlMaps.Clone
import Derived.Laws.OwnMore
import Derived.OwnWalk
import Derived.Test.YtfjpbkmnlmecgaaGreatDoorQgb
import Derived.Deep.RegionHeld3
import Derived.RegionTactic
import Derived.BigRegion
section
/- Package names: a table of names in memory; its contracts. -/
namespace Go.Proofs.YtfjpbkmnlmecgaaGreatDoor.Ru
open Go.RowKit Go.PlainAid Go.Maps
set_option linter.unusedVariables false
set_option linter.unusedSimpArgs false
set_option maxHeartbeats 4000000
set_option maxRecDepth 20000

theorem keyLaw : Keyed Tryz.prog 9 := string_keyed Tryz.underlying9
theorem zeroInt (w : World) : (zeroValue 3).run Tryz.prog w = .ok (.int .i64 0) w := by kernel_rfl
def kl (s : ByteArray) : Lit := .string s.data.toList
theorem key_of (s : ByteArray) (h : s.size ≤ 1000000) : keyOf Tryz.prog 9 (.string s) = some (kl s) := Go.WideMaps.keyOf_string_mk Tryz.underlying9 (by unfold maxLen; omega)
theorem kl_key (s : ByteArray) : WideAt.IsKeyLit (kl s) := by trivial
theorem kl_inj {a b : ByteArray} (h : kl a = kl b) : a = b := by
  unfold kl at h
  injection h with h
  exact ByteArray.ext (Array.toList_inj.1 h)
/-- The number of a name in a list: from 1 on; 0: it has none. -/
def numB : List ByteArray → ByteArray → Nat
  | [], _ => 0
  | x :: l, s => if x = s then 1 else (match numB l s with | 0 => 0 | k + 1 => k + 2)
theorem numB_zero : ∀ {l : List ByteArray} {s : ByteArray}, numB l s = 0 ↔ s ∉ l
  | [], s => by simp [numB]
  | x :: l, s => by
    have ih := numB_zero (l := l) (s := s)
    unfold numB
    by_cases h : x = s
    · simp [h]
    · rw [if_neg h]
      cases hn : numB l s with
      | zero => rw [hn] at ih; simp [Ne.symm h, ih.1 rfl]
      | succ k => rw [hn] at ih; simp [Ne.symm h]; exact Classical.not_not.1 (fun hc => by have := ih.2 hc; omega)
theorem numB_snoc_new : ∀ {l : List ByteArray} {s : ByteArray}, s ∉ l → numB (l ++ [s]) s = l.length + 1
  | [], s, _ => by simp [numB]
  | x :: l, s, h => by
    have h1 : x ≠ s := fun e => h (by simp [e])
    have h2 : s ∉ l := fun e => h (by simp [e])
    rw [List.cons_append]
    unfold numB
    rw [if_neg h1, numB_snoc_new h2]; rfl
theorem numB_snoc_old : ∀ {l : List ByteArray} {s y : ByteArray}, y ≠ s → numB (l ++ [s]) y = numB l y
  | [], s, y, h => by
    show (if s = y then 1 else _) = 0
    rw [if_neg (Ne.symm h)]; rfl
  | x :: l, s, y, h => by
    rw [List.cons_append]
    unfold numB
    rw [numB_snoc_old h]
theorem numB_le : ∀ (l : List ByteArray) (s : ByteArray), numB l s ≤ l.length
  | [], s => Nat.le_refl _
  | x :: l, s => by
    have ih := numB_le l s
    unfold numB
    split
    · simp
    · cases hn : numB l s with
      | zero => simp
      | succ k => rw [hn] at ih; simp; omega
/-- The datum of a table's map. -/
def TabD (D : DataW Unit) (ns : List ByteArray) : Prop := IsMap D ∧ ∀ s, has D (kl s) = decide (0 < numB ns s) ∧ D.atKey (kl s) (.lit (.int .i64 0)) = .lit (.int .i64 (numB ns s : Nat))
theorem tabD_nil : TabD (.map []) [] := ⟨isMap_empty, fun s => ⟨by simp [has_eq, numB], rfl⟩⟩
theorem TabD.put {D : DataW Unit} {ns : List ByteArray} (h : TabD D ns) (s : ByteArray) (hs : s ∉ ns) : TabD (D.put (kl s) (.lit (.int .i64 ((ns.length + 1 : Nat) : Int)))) (ns ++ [s]) := by
  refine ⟨h.1.put _ _, fun y => ?_⟩
  by_cases e : y = s
  · subst e
    refine ⟨?_, ?_⟩
    · rw [has_put_same h.1 (kl_key _), numB_snoc_new hs]; simp
    · rw [atKey_put_same h.1 (kl_key _), numB_snoc_new hs]
  · have hne : kl y ≠ kl s := fun h => e (kl_inj h)
    refine ⟨?_, ?_⟩
    · rw [has_put_other hne, (h.2 y).1, numB_snoc_old e]
    · rw [atKey_put_other hne, (h.2 y).2, numB_snoc_old e]
/-- A slice of strings. -/
def Sn (w : World) (a : Option Addr) (n c : Nat) (ns : List ByteArray) : Prop :=
  ns.length = n ∧ n ≤ c ∧ c ≤ 9223372036854775807 ∧ (a = none ∧ n = 0 ∧ c = 0 ∨ 0 < n ∧ ∃ b o, a = some ⟨b, o, none⟩ ∧ b < w.heap.size ∧ ∀ j, j < n → w.cell? ⟨b, o + j, none⟩ = some (.string (ns.getD j ByteArray.empty)))
theorem Sn.below {w w' : World} {a : Option Addr} {n c : Nat} {ns : List ByteArray} (h : Sn w a n c ns) (hb : Below w.heap.size w w') : Sn w' a n c ns := by
  obtain ⟨h1, h2, h3, h4⟩ := h
  refine ⟨h1, h2, h3, ?_⟩
  rcases h4 with h4 | ⟨h0, b, o, rfl, hlt, hc⟩
  · exact .inl h4
  · exact .inr ⟨h0, b, o, rfl, Nat.lt_of_lt_of_le hlt hb.size, fun j hj => (hb.cell (p := ⟨b, o + j, none⟩) hlt).trans (hc j hj)⟩
/-- The map of a table. -/
def Mp (w : World) (m : Option Nat) (ns : List ByteArray) : Prop :=
  (m = none ∧ ns = []) ∨ ns ≠ [] ∧ ∃ b D, m = some b ∧ w.ownsMap Tryz.prog 9 (plainElem Tryz.prog 3) b ns.length D ∧ TabD D ns
theorem Mp.below {w w' : World} {m : Option Nat} {ns : List ByteArray} (h : Mp w m ns) (hb : Below w.heap.size w w') : Mp w' m ns := by
  rcases h with h | ⟨h0, b, D, rfl, h1, h2⟩
  · exact .inl h
  · exact .inr ⟨h0, b, D, rfl, h1.kept ⟨hb.os, hb.tape, hb.output, hb.size, fun k hk _ => hb.block k hk⟩ (row := none) (by simp), h2⟩
/-- The table at block t. -/
def Tb (w : World) (t : Nat) (ns : List ByteArray) : Prop :=
  ∃ a c m, w.heap[t]? = some (.cells #[.slice a ns.length c, .map m] 264 (0, 0)) ∧ Sn w a ns.length c ns ∧ Mp w m ns
theorem Tb.lt {w : World} {t : Nat} {ns : List ByteArray} (h : Tb w t ns) : t < w.heap.size := by
  obtain ⟨a, c, m, h, _⟩ := h
  exact (Array.getElem?_eq_some_iff.1 h).1
theorem Tb.below {w w' : World} {t : Nat} {ns : List ByteArray} (h : Tb w t ns) (hb : Below w.heap.size w w') : Tb w' t ns := by
  have hlt := h.lt
  obtain ⟨a, c, m, h1, h2, h3⟩ := h
  exact ⟨a, c, m, (hb.block t hlt).trans h1, h2.below hb, h3.below hb⟩
theorem cell2 {w : World} {t : Nat} {x y : Value} {T : TypeId} (h : w.heap[t]? = some (.cells #[x, y] T (0, 0))) : w.cell? ⟨t, 0, none⟩ = some x ∧ w.cell? ⟨t, 1, none⟩ = some y ∧ ∀ j, w.frozen? ⟨t, j, none⟩ = false :=
  ⟨by rw [cell_of_row _ _ 0 _ _ _ h]; rfl, by rw [cell_of_row _ _ 1 _ _ _ h]; rfl, fun j => by unfold World.frozen?; dsimp only; rw [h]; simp⟩
theorem tlen_any (t : Nat) (ns : List ByteArray) (w : World) (h : Tb w t ns) :
    Calls Tryz.prog 212 #[.pointer (some ⟨t, 0, none⟩)] w fun e w' => e = .returned (.int .i64 (ns.length : Nat)) ∧ w' = w := by
  obtain ⟨a, c, m, h1, h2, h3⟩ := h
  have q0 := (cell2 h1).1
  clear h1 h2 h3
  go_enter Tryz.func212, Tryz.ntmps212
  go_wp2_with fail
  go_ret
  exact ⟨rfl, rfl⟩
theorem number_any (t : Nat) (ns : List ByteArray) (s : ByteArray) (w : World) (h : Tb w t ns) (hs : s.size ≤ 1000000) :
    Calls Tryz.prog 216 #[.pointer (some ⟨t, 0, none⟩), .string s] w fun e w' => e = .returned (.tuple #[.int .i64 (numB ns s : Nat), .bool (decide (0 < numB ns s))]) ∧ Below w.heap.size w w' := by
  obtain ⟨a, c, m, h1, h2, h3⟩ := h
  have q1 := (cell2 h1).2.1
  clear h1 h2
  rcases h3 with ⟨rfl, rfl⟩ | ⟨-, b, D, rfl, hown, hD⟩
  · have hlk := fun w => Maps.look_nil (P := Tryz.prog) (w := w) true keyLaw Tryz.underlying262 (zeroInt w) (key_of s hs)
    go_enter Tryz.func216, Tryz.ntmps216
    go_wp2_with fail
    go_ret2
    exact ⟨by simp [numB], Below.refl _ _⟩
  · have HD := Lib.hid hD
    have HO := Lib.hid hown
    clear hD hown
    go_enter Tryz.func216, Tryz.ntmps216
    go_wp2_with (at_lookup; refine wpList_lookup_own_ok_int _ rfl _ _ 262 rfl 9 3 .i64 keyLaw Tryz.underlying262 Tryz.underlying3 (zeroInt _) b ns.length D rfl HO.out _ _ rfl (key_of s hs) ?_; intro c hat hwc)
    go_ret2
    have e1 := (HD.out.2 s).2
    rw [hat] at e1
    injection e1 with e1
    injection e1 with _ e1
    exact ⟨by rw [e1, (HD.out.2 s).1]; rfl, Below.refl _ _⟩
end Go.Proofs.YtfjpbkmnlmecgaaGreatDoor.Ru
end

section
/- Package names: Name, New, Add, Of; maps.Clone. -/
namespace Go.Proofs.YtfjpbkmnlmecgaaGreatDoor.Ru
open Go.RowKit Go.PlainAid Go.Maps
set_option linter.unusedVariables false
set_option linter.unusedSimpArgs false
set_option maxHeartbeats 4000000
set_option maxRecDepth 20000

def nmB (ns : List ByteArray) (n : Int) : Bool := decide (1 ≤ n) && decide (n ≤ (ns.length : Nat))
def nmS (ns : List ByteArray) (n : Int) : ByteArray := if nmB ns n = true then ns.getD (n.toNat - 1) ByteArray.empty else ⟨#[]⟩
theorem tname_any (t : Nat) (ns : List ByteArray) (n : Int) (w : World) (h : Tb w t ns) (hl : ns.length ≤ 1000) :
    Calls Tryz.prog 131 #[.pointer (some ⟨t, 0, none⟩), .int .i64 n] w fun e w' => e = .returned (.tuple #[.string (nmS ns n), .bool (nmB ns n)]) ∧ Below w.heap.size w w' := by
  have HL := Lib.hid (tlen_any t ns w h)
  obtain ⟨a, c, m, h1, h2, h3⟩ := h
  have q0 := (cell2 h1).1
  clear h1 h3
  by_cases hn1 : n < 1
  · have e1 : nmB ns n = false := by unfold nmB; simp; omega
    have e2 : nmS ns n = ⟨#[]⟩ := by unfold nmS; rw [e1]; rfl
    rw [e1, e2]
    clear e1 e2 h2
    go_enter Tryz.func131, Tryz.ntmps131
    go_wp2_with fail
    go_ret2
    exact ⟨rfl, Below.refl _ _⟩
  · obtain ⟨L, hL⟩ : ∃ L, ns.length = L := ⟨_, rfl⟩
    rw [hL] at HL q0 hl
    by_cases hn2 : (L : Int) < n
    · have e1 : nmB ns n = false := by unfold nmB; rw [hL]; simp; omega
      have e2 : nmS ns n = ⟨#[]⟩ := by unfold nmS; rw [e1]; rfl
      rw [e1, e2]
      clear e1 e2 h2 hL
      go_enter Tryz.func131, Tryz.ntmps131
      go_wp2_with (go_at_call 212; refine HL.out.mono ?_; rintro e w' ⟨rfl, rfl⟩)
      go_ret2
      exact ⟨rfl, Below.refl _ _⟩
    · have e1 : nmB ns n = true := by unfold nmB; rw [hL]; simp; omega
      have e2 : nmS ns n = ns.getD (n.toNat - 1) ByteArray.empty := by unfold nmS; rw [e1]; rfl
      rw [e1, e2]
      clear e1 e2
      obtain ⟨k, rfl⟩ : ∃ k : Nat, n = (k : Int) + 1 := ⟨(n - 1).toNat, by omega⟩
      have hk : k < L := by omega
      obtain ⟨_, _, _, h4⟩ := h2
      rcases h4 with ⟨_, h0, _⟩ | ⟨_, b, o, rfl, hb, hc⟩
      · omega
      · have hck := hc k (by omega)
        have e3 : ((k : Int) + 1).toNat - 1 = k := by omega
        rw [e3]
        have hw : IntKind.i64.wrap ((k : Int) + 1 - 1) = (k : Int) := by rw [show (k : Int) + 1 - 1 = (k : Int) by omega]; exact IntWalk.i64_in _ (by omega)
        have hs : (k : Int) + 1 - 1 = (k : Int) := by omega
        have hk0 : (0 : Int) ≤ (k : Int) := Int.natCast_nonneg _
        have hk1 : (k : Int) < (L : Int) := by omega
        clear hc hL e3
        go_enter Tryz.func131, Tryz.ntmps131
        go_wp2_with (go_at_call 212; refine HL.out.mono ?_; rintro e w' ⟨rfl, rfl⟩)
        go_ret2
        exact ⟨rfl, Below.refl _ _⟩
theorem mclone_any (b : Nat) (es : Array MapEntry) (clock : Nat) (w : World) (hb : w.heap[b]? = some (.map es clock)) :
    Calls Tryz.prog 209 #[.map (some b)] w fun e w' => e = .returned (.map (some w.heap.size)) ∧ w' = w.alloc (.map es clock) := by
  have hq := fun w => run_eql_map_nil_sl (P := Tryz.prog) w 262 _ _ (some b) Tryz.underlying262
  go_enter Tryz.func209, Tryz.ntmps209
  go_wp2_with fail
  rw [run_callFunc_extern Tryz.func249 (by kernel_rfl) (by kernel_rfl) (by kernel_rfl) (e := Extern.MapsClone.clone) (by kernel_rfl), run_maps_clone_sl w 262 hb]
  simp only [Result.andThen]
  rw [Oper.upon_value]
  go_wp2_with fail
  rw [run_typeAssert_map_sl _ 262 20 _ _ _ Tryz.underlying262]
  simp only [Result.andThen]
  rw [Oper.upon_value]
  go_wp2_with fail
  go_ret
  exact ⟨rfl, rfl⟩
theorem mclone_nil (w : World) :
    Calls Tryz.prog 209 #[.map none] w fun e w' => e = .returned (.map none) ∧ w' = w := by
  have hq := fun w => run_eql_map_nil_sl (P := Tryz.prog) w 262 _ _ none Tryz.underlying262
  go_enter Tryz.func209, Tryz.ntmps209
  go_wp2_with fail
  go_ret
  exact ⟨rfl, rfl⟩
theorem nnew_any (w : World) : Calls Tryz.prog 127 #[] w fun e w' => e = .returned (.pointer (some ⟨w.heap.size, 0, none⟩)) ∧ w' = w.alloc (.cells #[.slice none 0 0, .map none] 264) := by
  go_enter Tryz.func127, Tryz.ntmps127
  go_wp2_with fail
  go_ret
  exact ⟨rfl, rfl⟩
end Go.Proofs.YtfjpbkmnlmecgaaGreatDoor.Ru
end

section
/- Package names: Add. -/
namespace Go.Proofs.YtfjpbkmnlmecgaaGreatDoor.Ru
open Go.RowKit Go.PlainAid Go.Maps Go.Proofs.YtfjpbkmnlmecgaaGreatDoor
set_option linter.unusedVariables false
set_option linter.unusedSimpArgs false
set_option maxHeartbeats 4000000
set_option maxRecDepth 20000

theorem infoStr : (Tryz.prog.info? 9).map (fun i => (i.zero, i.size, i.bytes)) = some (some (.string ByteArray.empty), 1, 16) := by kernel_rfl
/-- What stays while a region makes blocks and lays one more name behind a row of strings. -/
def Tad (base n : Nat) (ys : List Value) (w w' : World) : Prop :=
  Below base w w' ∧ ∀ k, k < w.heap.size → w'.heap[k]? = w.heap[k]? ∨ ∃ cur cur', w.heap[k]? = some (.cells cur 9 (0, 0)) ∧ w'.heap[k]? = some (.cells cur' 9 (0, 0)) ∧ cur'.size = cur.size ∧ 2 ≤ cur.size ∧ cur'.toList.take n = cur.toList.take n ∧ cur'.toList.take (n + 1) = ys
theorem Tad.of {base n : Nat} {ys : List Value} {w w' : World} (h : Below w.heap.size w w') (hB : base ≤ w.heap.size) : Tad base n ys w w' := ⟨h.mono hB, fun k hk => .inl (h.block k hk)⟩
theorem Tad.map {base n : Nat} {ys : List Value} {w w' : World} (h : Tad base n ys w w') {b m : Nat} {D : DataW Unit} (hm : w.ownsMap Tryz.prog 9 (plainElem Tryz.prog 3) b m D) : w'.ownsMap Tryz.prog 9 (plainElem Tryz.prog 3) b m D := by
  obtain ⟨es, clock, hb, F, hs, rfl⟩ := hm
  refine ⟨es, clock, ?_, F, hs, rfl⟩
  rcases h.2 b (Array.getElem?_eq_some_iff.1 hb).1 with e | ⟨cur, cur', e1, _⟩
  · exact e.trans hb
  · rw [e1] at hb; cases hb
theorem Tad.one {base n : Nat} {ys : List Value} {w w' : World} (h : Tad base n ys w w') {b : Nat} {s : Value} (hm : w.heap[b]? = some (.cells #[s] 9 (0, 0))) : w'.heap[b]? = some (.cells #[s] 9 (0, 0)) := by
  rcases h.2 b (Array.getElem?_eq_some_iff.1 hm).1 with e | ⟨cur, cur', e1, _, _, e2, _⟩
  · exact e.trans hm
  · rw [e1] at hm; cases hm; simp at e2
theorem Tad.two {base n : Nat} {ys : List Value} {w w' : World} (h : Tad base n ys w w') {b : Nat} {x y : Value} (hm : w.heap[b]? = some (.cells #[x, y] 264 (0, 0))) : w'.heap[b]? = some (.cells #[x, y] 264 (0, 0)) := by
  rcases h.2 b (Array.getElem?_eq_some_iff.1 hm).1 with e | ⟨cur, cur', e1, _⟩
  · exact e.trans hm
  · rw [e1] at hm; cases hm
theorem Tad.row {base n : Nat} {xs ys : List Value} {w w' : World} {v : Value} (h : Tad base n ys w w') (hm : w.ownsRow base 9 1 v n xs) : w'.ownsRow base 9 1 v n xs := by
  refine ⟨hm.1, ?_⟩
  rcases hm.2 with hn | ⟨g, cap, cur, rfl, hb, hg, hc, hcm, hcs, ht⟩
  · exact .inl hn
  · rcases h.2 g (Array.getElem?_eq_some_iff.1 hg).1 with e | ⟨cur1, cur', e1, e2, e3, _, e4, _⟩
    · exact .inr ⟨g, cap, cur, rfl, hb, e.trans hg, hc, hcm, hcs, ht⟩
    · rw [e1] at hg; injection hg with hg; injection hg with hg; subst hg
      exact .inr ⟨g, cap, cur', rfl, hb, e2, hc, hcm, e3.trans hcs, by rw [Nat.mul_one] at ht ⊢; rw [e4]; exact ht⟩
theorem Tad.more {base n : Nat} {ys : List Value} {w w' : World} {v : Value} (h : Tad base n ys w w') (hm : w.ownsRow base 9 1 v (n + 1) ys) : w'.ownsRow base 9 1 v (n + 1) ys := by
  refine ⟨hm.1, ?_⟩
  rcases hm.2 with hn | ⟨g, cap, cur, rfl, hb, hg, hc, hcm, hcs, ht⟩
  · exact .inl hn
  · rcases h.2 g (Array.getElem?_eq_some_iff.1 hg).1 with e | ⟨cur1, cur', e1, e2, e3, _, _, e4⟩
    · exact .inr ⟨g, cap, cur, rfl, hb, e.trans hg, hc, hcm, hcs, ht⟩
    · rw [e1] at hg; injection hg with hg; injection hg with hg; subst hg
      exact .inr ⟨g, cap, cur', rfl, hb, e2, hc, hcm, e3.trans hcs, by rw [Nat.mul_one]; exact e4⟩
theorem append_tad {w : World} {base n : Nat} {v : Value} {xs : List Value} {s : Value} {g : Nat} (hs1 : s.oneCell' = true) (hown : w.ownsRow base 9 1 v n xs) (hz : v = .slice none 0 0 ∨ 0 < n) (hg : w.heap[g]? = some (.cells #[s] 9 (0, 0))) (hn : n ≤ 1000) (hb : base ≤ w.heap.size) :
    ∃ v' w', (Builtin.append_ #[52, 52] 52 #[v, .slice (some ⟨g, 0, none⟩) 1 1]).run Tryz.prog w = .ok v' w' ∧ w'.ownsRow base 9 1 v' (n + 1) (xs ++ [s]) ∧ Tad base n (xs ++ [s]) w w' := by
  obtain ⟨i, hi, hz0, hz1, hz2⟩ := info_parts infoStr
  have hnews : ∀ j u, [s][j]? = some u → w.cell? ((⟨g, 0, none⟩ : Addr).add j) = some u := by
    intro j u hu
    match j, hu with
    | 0, hu =>
      simp at hu; subst hu
      show w.cell? ⟨g, 0, none⟩ = some s
      rw [cell_of_row _ _ 0 _ _ _ hg]; rfl
    | j + 1, hu => simp at hu
  have h1 : ∀ u ∈ [s], u.oneCell' = true := by intro u hu; simp at hu; subst hu; exact hs1
  have hmod : ∀ (w' : World) (o : Obj), w' = w.drew.alloc o → Tad base n (xs ++ [s]) w w' := fun w' o e => by subst e; exact Tad.of ((Below.refl _ _).drew.alloc (Nat.le_refl _) _) hb
  rcases hown.2 with ⟨rfl, rfl⟩ | ⟨g1, cap, cur, rfl, hb1, hg1, hc, hcm, hcs, ht⟩
  · obtain ⟨v', w', hr, h2, h3, _⟩ := run_append_own (P := Tryz.prog) w base 52 52 9 i _ 1 16 Tryz.underlying52 hi hz0 hz1 hz2 rfl (by decide) (.slice none 0 0) 0 xs hown ⟨g, 0, none⟩ 1 1 [s] rfl hnews h1 (by unfold maxLen; omega) (by omega) hb
    exact ⟨v', w', hr, h2, Tad.of ⟨h3.os, h3.tape, h3.output, h3.size, fun k hk => h3.block k hk (by simp [Value.ownBlock])⟩ hb⟩
  · have hn0 : 0 < n := by rcases hz with h | h; · cases h
                           · exact h
    rw [Nat.mul_one] at hcs ht
    by_cases hroom : n + 1 ≤ cap
    · have hfit : n * i.size + [s].length ≤ cur.size := by rw [hz1, Nat.mul_one, hcs]; exact hroom
      have hr := run_append_room (P := Tryz.prog) w 52 52 9 i Tryz.underlying52 hi g1 n cap cur hg1 ⟨g, 0, none⟩ 1 1 [s] (by rw [hz1]; rfl) hnews h1 hroom hfit
      rw [hz1, Nat.mul_one] at hr
      have hxl : xs.length = n := by have := hown.1; omega
      have hcl : cur.toList.length = cap := by rw [Array.length_toList]; exact hcs
      have ht2 : (cur.toList.take n ++ [s] ++ cur.toList.drop (n + [s].length)).take (n + 1) = xs ++ [s] := by
        rw [ht, List.append_assoc, ← List.append_assoc]
        exact (by rw [show n + 1 = (xs ++ [s]).length by simp [hxl]]; exact List.take_left)
      have hsz : (cur.toList.take n ++ [s] ++ cur.toList.drop (n + [s].length)).toArray.size = cur.size := by
        simp only [List.size_toArray, List.length_append, List.length_take, List.length_drop, List.length_cons, List.length_nil, hcl, hcs]
        omega
      refine ⟨_, _, hr, ⟨by simp [hxl], .inr ⟨g1, cap, _, rfl, hb1, setRow_heap w g1 cur _ _ _ hg1, hroom, hcm, by rw [hsz, Nat.mul_one]; exact hcs, by rw [Nat.mul_one]; exact ht2⟩⟩, ⟨⟨rfl, rfl, rfl, by simp, fun k hk => setRow_other w g1 k _ (by omega)⟩, fun k hk => ?_⟩⟩
      by_cases hk1 : k = g1
      · subst hk1
        refine .inr ⟨cur, _, hg1, setRow_heap w k cur _ _ _ hg1, hsz, by omega, ?_, ht2⟩
        show (cur.toList.take n ++ [s] ++ cur.toList.drop (n + [s].length)).take n = cur.toList.take n
        rw [ht, List.append_assoc]
        exact (by rw [show n = xs.length from hxl.symm]; exact List.take_left)
      · exact .inl (setRow_other w g1 k _ hk1)
    · have holds : ∀ j u, xs[j]? = some u → w.cell? ((⟨g1, 0, none⟩ : Addr).add j) = some u := hown.cells (g := g1) rfl
      have hr := run_append_grow (P := Tryz.prog) w 52 52 9 i _ Tryz.underlying52 hi hz0 ⟨g1, 0, none⟩ n cap xs (by rw [hz1]; exact hown.1) holds ⟨g, 0, none⟩ 1 1 [s] (by rw [hz1]; rfl) hnews (by omega) (by omega) (growslice_fits (by omega) (by rw [hz2]; omega))
      obtain ⟨v', w', hr2, h2, h3, _⟩ := run_append_own (P := Tryz.prog) w base 52 52 9 i _ 1 16 Tryz.underlying52 hi hz0 hz1 hz2 rfl (by decide) _ n xs hown ⟨g, 0, none⟩ 1 1 [s] rfl hnews h1 (by unfold maxLen; omega) (by omega) hb
      have e := hr2.symm.trans hr
      injection e with e1 e2
      exact ⟨v', w', hr2, h2, hmod _ _ e2⟩
theorem wp_append_tad {w : World} {o : Oper} {a : Act} {K : Act → World → Prop} {Q : Exit → Act → World → Prop} (s x : Operand)
    (ho : o.op = .call { callee := .builtin .append, args := #[s, x], argTypes := #[52, 52] }) (hty : o.type = 52)
    {base n : Nat} {v : Value} {xs : List Value} {y : Value} {g : Nat} (hs : a.eval s = v) (hx : a.eval x = .slice (some ⟨g, 0, none⟩) 1 1) (hs1 : y.oneCell' = true) (hown : w.ownsRow base 9 1 v n xs) (hz : v = .slice none 0 0 ∨ 0 < n) (hg : w.heap[g]? = some (.cells #[y] 9 (0, 0))) (hn : n ≤ 1000) (hb : base ≤ w.heap.size)
    (h : ∀ v' w', w'.ownsRow base 9 1 v' (n + 1) (xs ++ [y]) → Tad base n (xs ++ [y]) w w' → K (a.put o.dst v') w') : o.wp Tryz.prog a w K Q := by
  obtain ⟨v', w', hr, h2, h3⟩ := append_tad hs1 hown hz hg hn hb
  unfold Oper.wp execOp
  simp only [ho, hty, resolve, invoke, builtin, Sem.run_bind, Sem.run_pure, Result.andThen_ok, List.map_toArray, List.map_cons, List.map_nil, hs, hx, hr]
  exact h v' w' h2 h3
theorem wpList_append_tad {w : World} {ops : Array Oper} {rest : List Oper} {o : Oper} {a : Act} {Q : Exit → Act → World → Prop} (hgd : o.guard = none) (s x : Operand)
    (ho : o.op = .call { callee := .builtin .append, args := #[s, x], argTypes := #[52, 52] }) (hty : o.type = 52)
    {base n : Nat} {v : Value} {xs : List Value} {y : Value} {g : Nat} (hs : a.eval s = v) (hx : a.eval x = .slice (some ⟨g, 0, none⟩) 1 1) (hs1 : y.oneCell' = true) (hown : w.ownsRow base 9 1 v n xs) (hz : v = .slice none 0 0 ∨ 0 < n) (hg : w.heap[g]? = some (.cells #[y] 9 (0, 0))) (hn : n ≤ 1000) (hb : base ≤ w.heap.size)
    (h : ∀ v' w', w'.ownsRow base 9 1 v' (n + 1) (xs ++ [y]) → Tad base n (xs ++ [y]) w w' → wpList Tryz.prog ops Q rest (a.put o.dst v') w') : wpList Tryz.prog ops Q (o :: rest) a w :=
  wpList_plain hgd fun _ hK => wp_append_tad s x ho hty hs hx hs1 hown hz hg hn hb fun v' w' h2 h3 => hK _ _ (h v' w' h2 h3)
end Go.Proofs.YtfjpbkmnlmecgaaGreatDoor.Ru
end
