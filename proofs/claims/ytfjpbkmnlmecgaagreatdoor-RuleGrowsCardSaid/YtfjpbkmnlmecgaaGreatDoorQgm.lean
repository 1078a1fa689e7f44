/- Several of the texts below, joined: Srt DaI DaG DaJ. -/
import Derived.Shelf.SlSortCmp.WholeK
import Derived.Ground.SlsfProg
import Derived.Test.YtfjpbkmnlmecgaaGreatDoorProg
import Derived.Test.YtfjpbkmnlmecgaaGreatDoorQgl
import Derived.Test.YtfjpbkmnlmecgaaGreatDoorQgk
import Derived.Test.YtfjpbkmnlmecgaaGreatDoorQgb
import Derived.Test.YtfjpbkmnlmecgaaGreatDoorQge
import Derived.BigRegion
section
/- The shelf's laying of slices.SortFunc at this seat, by the kit's lay-plain.mjs; remarks struck. -/
namespace Go.Proofs
open Go.Shelf
def Tryz.sortSpan_ren : Go.Shelf.Ren := ⟨fun | 6 => 250 | 15 => 257 | 14 => 269 | 28 => 280 | 29 => 239 | 20 => 289 | 21 => 290 | 22 => 291 | 23 => 292 | 24 => 293 | 25 => 294 | 26 => 295 | 27 => 296 | 46 => 309 | 47 => 298 | 48 => 299 | 49 => 310 | 50 => 311 | 57 => 314 | n => n, fun | 22 => 42 | 24 => 158 | 25 => 284 | 3 => 3 | 39 => 106 | 0 => 0 | 53 => 231 | 55 => 29 | 4 => 4 | 46 => 303 | 45 => 302 | 50 => 75 | 5 => 5 | 9 => 9 | 66 => 326 | 70 => 330 | 76 => 341 | 77 => 342 | n => n, fun | n => n⟩
theorem Tryz.sortSpan : Go.Proofs.SlLaysF0.n6 Tryz.prog Tryz.sortSpan_ren := {
  mixed := by kernel_rfl
  f6 := ⟨Tryz.f250.name, by decide, Tryz.func250.trans (congrArg some (by kernel_rfl))⟩
  f14 := ⟨Tryz.f269.name, by decide, Tryz.func269.trans (congrArg some (by kernel_rfl))⟩
  f15 := Tryz.func257.trans (congrArg some (by kernel_rfl))
  f20 := ⟨Tryz.f289.name, by decide, Tryz.func289.trans (congrArg some (by kernel_rfl))⟩
  f21 := ⟨Tryz.f290.name, by decide, Tryz.func290.trans (congrArg some (by kernel_rfl))⟩
  f22 := ⟨Tryz.f291.name, by decide, Tryz.func291.trans (congrArg some (by kernel_rfl))⟩
  f23 := ⟨Tryz.f292.name, by decide, Tryz.func292.trans (congrArg some (by kernel_rfl))⟩
  f24 := ⟨Tryz.f293.name, by decide, Tryz.func293.trans (congrArg some (by kernel_rfl))⟩
  f25 := ⟨Tryz.f294.name, by decide, Tryz.func294.trans (congrArg some (by kernel_rfl))⟩
  f26 := ⟨Tryz.f295.name, by decide, Tryz.func295.trans (congrArg some (by kernel_rfl))⟩
  f27 := ⟨Tryz.f296.name, by decide, Tryz.func296.trans (congrArg some (by kernel_rfl))⟩
  f28 := Tryz.func280.trans (congrArg some (by kernel_rfl))
  f29 := Tryz.func239.trans (congrArg some (by kernel_rfl))
  f46 := ⟨Tryz.f309.name, by decide, Tryz.func309.trans (congrArg some (by kernel_rfl))⟩
  f47 := Tryz.func298.trans (congrArg some (by kernel_rfl))
  f48 := Tryz.func299.trans (congrArg some (by kernel_rfl))
  f49 := ⟨Tryz.f310.name, by decide, Tryz.func310.trans (congrArg some (by kernel_rfl))⟩
  f50 := ⟨Tryz.f311.name, by decide, Tryz.func311.trans (congrArg some (by kernel_rfl))⟩
  f57 := ⟨Tryz.f314.name, by decide, Tryz.func314.trans (congrArg some (by kernel_rfl))⟩
  t0 := Tryz.underlying0
  a0 := Tryz.isAgg0
  z0 := Tryz.sizeOf0
  v0 := Tryz.zeroValue0
  t3 := Tryz.underlying3
  a3 := Tryz.isAgg3
  z3 := Tryz.sizeOf3
  v3 := Tryz.zeroValue3
  t4 := Tryz.underlying4
  a4 := Tryz.isAgg4
  z4 := Tryz.sizeOf4
  v4 := Tryz.zeroValue4
  t5 := Tryz.underlying5
  a5 := Tryz.isAgg5
  z5 := Tryz.sizeOf5
  v5 := Tryz.zeroValue5
  t9 := Tryz.underlying9
  a9 := Tryz.isAgg9
  z9 := Tryz.sizeOf9
  v9 := Tryz.zeroValue9
  t22 := Tryz.underlying42
  a22 := Tryz.isAgg42
  z22 := Tryz.sizeOf42
  v22 := Tryz.zeroValue42
  t25 := Tryz.underlying284
  a25 := Tryz.isAgg284
  z25 := Tryz.sizeOf284
  v25 := Tryz.zeroValue284
  t39 := Tryz.underlying106
  a39 := Tryz.isAgg106
  z39 := Tryz.sizeOf106
  v39 := Tryz.zeroValue106
  t45 := Tryz.underlying302
  a45 := Tryz.isAgg302
  z45 := Tryz.sizeOf302
  v45 := Tryz.zeroValue302
  t46 := Tryz.underlying303
  a46 := Tryz.isAgg303
  z46 := Tryz.sizeOf303
  v46 := Tryz.zeroValue303
  t50 := Tryz.underlying75
  a50 := Tryz.isAgg75
  z50 := Tryz.sizeOf75
  v50 := Tryz.zeroValue75
  t53 := Tryz.underlying231
  a53 := Tryz.isAgg231
  z53 := Tryz.sizeOf231
  v53 := Tryz.zeroValue231
  t55 := Tryz.underlying29
  a55 := Tryz.isAgg29
  z55 := Tryz.sizeOf29
  v55 := Tryz.zeroValue29
  t66 := Tryz.underlying326
  a66 := Tryz.isAgg326
  z66 := Tryz.sizeOf326
  v66 := Tryz.zeroValue326
  t70 := Tryz.underlying330
  a70 := Tryz.isAgg330
  z70 := Tryz.sizeOf330
  v70 := Tryz.zeroValue330
  t76 := Tryz.underlying341
  a76 := Tryz.isAgg341
  z76 := Tryz.sizeOf341
  v76 := Tryz.zeroValue341
  t77 := Tryz.underlying342
  a77 := Tryz.isAgg342
  z77 := Tryz.sizeOf342
  v77 := Tryz.zeroValue342 }
end Go.Proofs
end

section
/- slices.SortFunc of spans, walked from its caller's side; contracts of join, Of, Or. -/
namespace Go.Proofs.YtfjpbkmnlmecgaaGreatDoor.Dy
open Go.Shelf Go.RowKit Go.PlainAid Go.Sort
set_option linter.unusedVariables false
set_option linter.unusedSimpArgs false
set_option maxHeartbeats 2000000

theorem closure_any (x y : Int × Int) (W : World) : Calls Tryz.prog 251 #[.agg #[.int .i64 x.1, .int .i64 x.2], .agg #[.int .i64 y.1, .int .i64 y.2]] W fun e w' => e = .returned (.int .i64 (Lib.compareInt x.1 y.1)) ∧ ∃ q os', w' = grow (W.drewN q) os' := by
  have hcon := fun W' => Tryz.cmp_Compare_int x.1 y.1 W'
  generalize Lib.compareInt x.1 y.1 = r at hcon ⊢
  go_enter Tryz.func251, Tryz.ntmps251
  go_wp2_with (go_at_call 252; refine (hcon _).mono ?_; rintro e w' ⟨rfl, rfl⟩)
  go_ret
  exact ⟨rfl, 0, _, by rw [alloc_eq_grow, alloc_eq_grow, grow_grow]; rfl⟩

set_option maxRecDepth 100000 in
theorem sort_any (B : Nat) (v : Value) (l : List (Int × Int)) (w : World) (hown : Os 158 w B v l) (hB : B ≤ w.heap.size) (hn : l.length ≤ 1000000) :
    Calls Tryz.prog 250 #[v, .func (.func 251) #[] #[]] w fun e w' => e = .returned (.tuple #[]) ∧ (∃ a n cap l', v = .slice a n cap ∧ Ds w' a n cap l' ∧ l'.Perm l ∧ l'.Pairwise fun p q => p.1 ≤ q.1) ∧ RowKit.Below B w w' := by
  by_cases h0 : l.length = 0
  · obtain ⟨a, cap, rfl, hd⟩ := hown.ds
    obtain rfl : l = [] := List.eq_nil_of_length_eq_zero h0
    refine (AnyF.slices_SortFunc_none { Tryz.sortSpan with } a cap (.func (.func 251) #[] #[]) w).mono ?_
    rintro e w' ⟨rfl, rfl⟩
    exact ⟨rfl, ⟨_, _, _, [], rfl, hd, List.Perm.refl _, List.Pairwise.nil⟩, RowKit.Below.refl _ _⟩
  · obtain ⟨a, cap, hv, hd⟩ := hown.ds
    obtain ⟨hx, ⟨hn1, hn2⟩ | ⟨g, cap2, cur, hv2, hg, hh, hc, hm, hs, ht⟩⟩ := hown
    · exact absurd hn2 h0
    · rw [hv2] at hv
      cases hv
      subst hv2
      have hgl : g < w.heap.size := (Array.getElem?_eq_some_iff.1 hh).1
      have hH : HoldsK spV 2 w g 0 l.toArray := holds_of_ds hd (fun j => Lib.frozen_of_heap hh j)
      have eg : ∀ args w, (callFunc 251 args).run Tryz.prog w = .ok (.enter 251 args) w := enters_of Tryz.func251 (by kernel_rfl) rfl
      have hcon := AnyQ.slices_SortFunc Tryz.sortSpan 2 Tryz.isAgg158 Tryz.sizeOf158 spV (fun _ => rfl) (fun x v hv => by simp [spV] at hv; rcases hv with rfl | rfl <;> rfl) (fun x y => Lib.compareInt x.1 y.1) swoLo 251 #[] g 0 cap l.toArray w eg (fun _ _ _ _ x y => closure_any x y _) hH hgl (by rw [List.size_toArray]; omega)
      rw [List.size_toArray] at hcon
      refine Calls.mono hcon ?_
      rintro e w' ⟨rfl, d', n, os, hp, hso, rfl⟩
      have hsz : d'.size = l.length := by rw [hp.1, List.size_toArray]
      refine ⟨rfl, ⟨_, _, _, d'.toList, rfl, ds_of_holds (holdsK_sortWorldK spV 2 w g 0 n l.toArray d' os hgl hH (by rw [hsz, List.size_toArray])) hsz hc hm (lt_sortWorldK spV 2 w g 0 n d' os hgl), perm_list (List.size_toArray ..) hp, sorted_list hsz hso⟩, below_sort (RowKit.Below.refl _ _) hg hB⟩

theorem Os.last {T : TypeId} {w : World} {base : Nat} {v : Value} {acc : List (Int × Int)} {q : Int × Int} {m : Nat} (h : Os T w base v (acc ++ [q])) (hm : acc.length = m) : ∃ g cap, v = .slice (some ⟨g, 0, none⟩) (m + 1) cap ∧ base ≤ g ∧ g < w.heap.size ∧ m + 1 ≤ cap ∧ cap ≤ maxLen ∧
    w.cell? ⟨g, m * 2, none⟩ = some (.int .i64 q.1) ∧ w.cell? ⟨g, m * 2 + 1, none⟩ = some (.int .i64 q.2) ∧ ∀ j : Nat, w.frozen? ⟨g, j, none⟩ = false := by
  obtain ⟨a, n, c, hv, hn, hd⟩ := h.dn
  rw [List.length_append, hm] at hn
  have hn : n = m + 1 := hn
  obtain ⟨hx, ⟨hn1, hn2⟩ | ⟨g, cap2, cur, hv2, hg, hh, hc, hmx, hs, ht⟩⟩ := h
  · simp at hn2
  · rw [hv2] at hv
    injection hv with e1 e2 e3
    subst e1 e3
    rw [e2, hn] at hv2
    rw [hn] at hd
    obtain ⟨d1, d2, d3, d4 | ⟨b, o, ha, hb, hcell⟩⟩ := hd
    · omega
    · cases ha
      have := hcell m q (by rw [List.getElem?_append_right (by omega), hm]; simp)
      exact ⟨g, _, hv2, hg, hb, d2, d3, by simpa using this.1, by simpa using this.2, fun j => Lib.frozen_of_heap hh j⟩
theorem Os.stored' {T : TypeId} {w : World} {base g cap m : Nat} {acc : List (Int × Int)} {p : Int × Int} (h : Os T w base (.slice (some ⟨g, 0, none⟩) (m + 1) cap) (acc ++ [p])) (hm : acc.length = m) (y : Int) :
    Os T (w.setCell ⟨g, m * 2 + 1, none⟩ (.int .i64 y)) base (.slice (some ⟨g, 0, none⟩) (m + 1) cap) (acc ++ [(p.1, y)]) := by
  subst hm; exact h.stored y

/-- A set whose spans lie in a block of spans behind N. -/
def Dn (N : Nat) (w : World) (a : Option Addr) (n cap : Nat) (l : List (Int × Int)) : Prop :=
  Ds w a n cap l ∧ ∀ p, a = some p → N ≤ p.block ∧ p.block < w.heap.size ∧ ∃ cs fz, w.heap[p.block]? = some (.cells cs 158 fz)
theorem Dn.nil (N : Nat) (w : World) : Dn N w none 0 0 [] := ⟨Ds.nil w _ _ (by unfold maxLen; omega), fun p h => by cases h⟩
theorem Dn.below {N : Nat} {w w' : World} {a : Option Addr} {n cap : Nat} {l : List (Int × Int)} (h : Dn N w a n cap l) (hb : RowKit.Below w.heap.size w w') : Dn N w' a n cap l :=
  ⟨h.1.below hb (Nat.le_refl _), fun p hp => by
    obtain ⟨h1, h2, cs, fz, h3⟩ := h.2 p hp
    exact ⟨h1, Nat.lt_of_lt_of_le h2 hb.size, cs, fz, (hb.block _ h2).trans h3⟩⟩
theorem Dn.mono {N M : Nat} {w : World} {a : Option Addr} {n cap : Nat} {l : List (Int × Int)} (h : Dn N w a n cap l) (hn : M ≤ N) : Dn M w a n cap l :=
  ⟨h.1, fun p hp => ⟨Nat.le_trans hn (h.2 p hp).1, (h.2 p hp).2⟩⟩
theorem Dn.set {N : Nat} {w : World} {a : Option Addr} {n cap : Nat} {l : List (Int × Int)} {p : Addr} {v u : Value} (h : Dn N w a n cap l) (hp : w.cell? p = some v) (hv : ∀ x : Int, v ≠ .int .i64 x) : Dn N (w.setCell p u) a n cap l :=
  ⟨h.1.set hp hv, fun q hq => by
    obtain ⟨h1, h2, cs, fz, h3⟩ := h.2 q hq
    refine ⟨h1, by simpa using h2, ?_⟩
    show ∃ cs' fz', (w.heap.modify p.block _)[q.block]? = some (.cells cs' 158 fz')
    rw [Array.getElem?_modify]
    split
    · rw [h3]; exact ⟨_, _, rfl⟩
    · exact ⟨cs, fz, h3⟩⟩
theorem Dn.grown {N : Nat} {w w' : World} {a : Option Addr} {n cap : Nat} {l : List (Int × Int)} {row : Option Nat} (h : Dn N w a n cap l) (hg : w.grownBy w' row) (hr : ∀ p, a = some p → some p.block ≠ row) : Dn N w' a n cap l := by
  obtain ⟨⟨h1, h2, h3, h4⟩, h5⟩ := h
  refine ⟨⟨h1, h2, h3, ?_⟩, fun p hp => ?_⟩
  · rcases h4 with h4 | ⟨b, o, ha, hlt, hc⟩
    · exact .inl h4
    · have hbk := hg.block b hlt (hr _ ha)
      refine .inr ⟨b, o, ha, Nat.lt_of_lt_of_le hlt hg.size, fun j q hq => ?_⟩
      constructor
      · rw [World.cell?_of_block (w := w) hbk]; exact (hc j q hq).1
      · rw [World.cell?_of_block (w := w) hbk]; exact (hc j q hq).2
  · obtain ⟨k1, k2, cs, fz, k3⟩ := h5 p hp
    exact ⟨k1, Nat.lt_of_lt_of_le k2 hg.size, cs, fz, (hg.block _ k2 (hr _ hp)).trans k3⟩
theorem Os.dnF {w : World} {base : Nat} {v : Value} {l : List (Int × Int)} (h : Os 158 w base v l) : ∃ a n cap, v = .slice a n cap ∧ n = l.length ∧ Dn base w a n cap l := by
  obtain ⟨a, n, c, hv, hn, hd⟩ := h.dn
  refine ⟨a, n, c, hv, hn, hd, fun p hp => ?_⟩
  rcases h.2 with ⟨e, _⟩ | ⟨g, cap, cur, e, hg, hh, _⟩
  · rw [hv] at e; injection e with e1; rw [e1] at hp; cases hp
  · rw [hv] at e; injection e with e1; rw [e1] at hp; injection hp with hp; subst hp
    exact ⟨hg, (Array.getElem?_eq_some_iff.1 hh).1, _, _, hh⟩
def SetF (w : World) (f : Int → Bool) (e : Ending) (w' : World) : Prop :=
  ∃ a n cap l, e = .returned (.agg #[.slice a n cap]) ∧ Dn w.heap.size w' a n cap l ∧ Can l ∧ (∀ d, Dm l d = f d) ∧ RowKit.Below w.heap.size w w'
theorem SetF.weak {w w' : World} {f : Int → Bool} {e : Ending} (h : SetF w f e w') : SetP w f e w' := by
  obtain ⟨a, n, c, l, h1, h2, h3⟩ := h
  exact ⟨a, n, c, l, h1, h2.1, h3⟩
theorem all_anyF (w : World) :
    Calls Tryz.prog 132 #[] w fun e w' => ∃ a n cap, e = .returned (.agg #[.slice a n cap]) ∧ Dn w.heap.size w' a n cap [(0, 30000)] ∧ RowKit.Below w.heap.size w w' := by
  go_enter Tryz.func132, Tryz.ntmps132
  go_wp2_with fail
  refine bodyPost_ret (v := .agg #[.slice (some ⟨w.heap.size + 1, 0, none⟩) 1 1]) (by simp [results, Tryz.results132, go_sem]) rfl ?_
  refine ⟨_, 1, 1, rfl, ⟨Ds.one _ 0 30000 _ _ (by simp), fun p hp => ?_⟩, ((RowKit.Below.refl _ w).alloc (Nat.le_refl _) _).alloc (by simp) _⟩
  injection hp with hp
  subst hp
  refine ⟨by dsimp only; omega, by simp, ?_⟩
  have hh := heap_alloc_new (w.alloc (.cells #[.slice (some ⟨w.heap.size + 1, 0, none⟩) 1 1] 44)) (.cells #[.int .i64 0, .int .i64 30000] 158)
  rw [World.size_alloc] at hh
  exact ⟨_, _, hh⟩

set_option maxRecDepth 100000 in
theorem join_anyF (a : Option Addr) (n cap : Nat) (l : List (Int × Int)) (w : World) (h : Ds w a n cap l) (hok : ∀ x ∈ l, Okp x) (hn : n ≤ 100000) :
    Calls Tryz.prog 210 #[.slice a n cap] w (SetF w (Dm l)) := by
  obtain ⟨i0, hi, hz0, hz1, hz2⟩ := info_parts infoSpan
  have HCL := Lib.hid (fun W (hw : RowKit.Below w.heap.size w W) => clone_any a n cap l W (h.below hw (Nat.le_refl _)) hn)
  have HL := Lib.hid h.1
  have HO := Lib.hid hok
  clear h hok
  go_enter Tryz.func210, Tryz.ntmps210
  go_wp2_with (first
    | (go_at_call 168; refine (HCL.out _ ((RowKit.Below.refl _ w).alloc (Nat.le_refl _) _)).mono ?_; rintro e w1 ⟨v1, rfl, hb1, hown1⟩)
    | (go_at_call 250; refine (sort_any _ _ _ _ hown1 hb1.size (by rw [HL.out]; omega)).mono ?_; rintro e w2 ⟨rfl, ⟨a2, n2, c2, ys, rfl, hd2, hp, hs⟩, hb2⟩))
  have hbw : RowKit.Below (w.heap.size + 1) (w.alloc (.cells #[.slice none 0 0] 44)) w2 := (by simpa using hb1 : RowKit.Below (w.heap.size + 1) _ w1).trans (by simpa using hb2)
  obtain ⟨k0, hbw1⟩ := box1 hbw
  have f0 : w2.frozen? ⟨w.heap.size, 0, none⟩ = false := (hbw.frozen (p := ⟨w.heap.size, 0, none⟩) (Nat.lt_succ_self _)).trans (new1 _ _ _).2
  have hz : w.heap.size + 1 ≤ w2.heap.size := by have := hbw.size; simpa using this
  have hyl : ys.length = n2 := hd2.1
  have hn2 : n2 ≤ 100000 := by rw [← hyl, hp.length_eq, HL.out]; exact hn
  have HY := Lib.hid hyl
  have HS := Lib.hid (JoinI.start (fun x hx => HO.out x (hp.mem_iff.1 hx)) hs)
  have HF := Lib.hid (fun d => dm_perm hp d)
  have hc2 : n2 ≤ c2 := hd2.2.1
  have hm2 := hd2.2.2.1
  unfold maxLen at hm2
  have H4 := Lib.hid hd2.2.2.2
  clear hb1 hb2 hown1 hp hs hd2 hyl hbw
  go_wp2_with fail
  go_loopw [3, 13] (fun v3 v13 wr => ∃ (j : Nat) (acc : List (Int × Int)), j ≤ n2 ∧ v13 = .int .i64 j ∧ acc.length ≤ j ∧ Os 158 wr w2.heap.size v3 acc ∧ Hid (JoinI ys acc (ys.drop j)) ∧ RowKit.Below w2.heap.size w2 wr) (fun _ v _ => n2 - (intOf v).toNat)
  case atStart => exact ⟨0, [], by omega, rfl, by simp, Os.nil _ _ _, HS.out, RowKit.Below.refl _ _⟩
  case round =>
    obtain ⟨j, acc, hj, rfl, hacc, hown, hpre, hbel⟩ := hrel
    have hzr := hbel.size
    by_cases hjn : j < n2
    · rcases H4.out with h0 | ⟨b, o, rfl, hb, hcell⟩
      · omega
      obtain ⟨⟨p1, p2⟩, hp⟩ : ∃ p, ys[j]? = some p := ⟨_, List.getElem?_eq_getElem (by rw [HY.out]; exact hjn)⟩
      obtain ⟨x1, x2⟩ := hcell j _ hp
      have x1 := (hbel.cell (p := ⟨b, _, none⟩) hb).trans x1
      have x2 := (hbel.cell (p := ⟨b, _, none⟩) hb).trans x2
      dsimp only at x1 x2
      have hpre2 := hpre.out
      rw [drop_at hp] at hpre2
      have hokx := hpre2.ok _ (List.mem_cons_self ..)
      unfold Okp at hokx
      dsimp only at hokx
      have hj0 : (0 : Int) ≤ (j : Int) := Int.natCast_nonneg _
      have hj1 : (j : Int) < (n2 : Int) := by omega
      have hbx := hbel.alloc hzr (.cells #[.int .i64 p1, .int .i64 p2] 158)
      rcases List.eq_nil_or_concat acc with rfl | ⟨acc', ⟨q1, q2⟩, hac⟩
      · have HST := Lib.hid hpre2.first
        obtain ⟨a3, n3, c3, rfl, hn3, hd3⟩ := hown.dn
        obtain rfl : n3 = 0 := hn3
        have hown1 := (hown.alloc (.cells #[.int .i64 p1, .int .i64 p2] 158)).alloc (.cells #[.int .i64 p1, .int .i64 p2] 158)
        have hb3 := hbx.alloc (by simp; omega) (.cells #[.int .i64 p1, .int .i64 p2] 158)
        clear hcell hp hpre hpre2 hd3
        have hown1 := (hown.alloc (.cells #[.int .i64 p1, .int .i64 p2] 158)).alloc (.cells #[.int .i64 p1, .int .i64 p2] 158)
        have hb3 := hbx.alloc (by simp; omega) (.cells #[.int .i64 p1, .int .i64 p2] 158)
        go_wp2_with fail
        go_quiet (fail)
        go_wp2_with (at_builtin; refine wpList_append_ds rfl (.tmp 47) (.tmp 49) 42 158 rfl Tryz.underlying42 w2.heap.size i0 hi hz0 hz1 hz2 _ _ rfl hown1 _ 1 1 [(p1, p2)] rfl (Ds.one _ _ _ _ _ (by simp)) (by first | (simp only [List.length_append, List.length_cons, List.length_nil] at hacc ⊢; omega) | simp) (by simp; omega) ?_)
        intro v4 w4 hown4 hgr4
        have hb4 := (bdr hb3 _).grown hgr4 (by simp; omega) (fun b hb => (hown.lt b hb).1)
        clear hgr4 hown1 hown hbel hb3 hbx x1 x2
        go_wp2_with fail
        go_roundw
        case rel => exact ⟨j + 1, [(p1, p2)], by omega, by go_num, by simp at hacc ⊢ <;> omega, hown4, HST.out, hb4⟩
        case measure => simp [intOf]; omega
      · rw [List.concat_eq_append] at hac
        subst hac
        obtain ⟨m, hm⟩ : ∃ m, acc'.length = m := ⟨_, rfl⟩
        obtain ⟨g, c3, rfl, hgb, hgl, hgc, hgm, y1, y2, hfz⟩ := hown.last hm
        have HM := Lib.hid hm
        have hmj : m + 1 ≤ j := by rw [List.length_append, hm] at hacc; exact hacc
        have hokq := (can_init hpre2.ca).2.1
        unfold Okp at hokq
        unfold maxLen at hgm
        dsimp only at y1 y2 hokq
        have e2 : IntKind.i64.wrap (q2 + 1) = q2 + 1 := by rw [IntKind.wrap_i64]; omega
        have hm0 : (0 : Int) ≤ (m : Int) := Int.natCast_nonneg _
        have hf1 := hfz (m * 2 + 1)
        by_cases hle : p1 ≤ q2 + 1
        · have HST := Lib.hid (hpre2.merge hle)
          dsimp only at HST
          clear hcell hp hpre hpre2 hm
          rcases Int.lt_or_le q2 p2 with hlt | hlt
          · have e1 : max q2 p2 = p2 := by omega
            rw [e1] at HST
            have hb5 := hbx.setCell (p := ⟨g, m * 2 + 1, none⟩) hgb (.int .i64 p2)
            have hown5 := (hown.alloc (.cells #[.int .i64 p1, .int .i64 p2] 158)).stored' HM.out p2
            dsimp only at hown5
            go_wp2_with fail
            go_quiet (fail)
            go_wp2_with fail
            go_region
            go_wp2_with fail
            go_roundw
            case rel => exact ⟨j + 1, acc' ++ [(q1, p2)], by omega, by go_num, by simp at hacc ⊢ <;> omega, hown5, HST.out, bdr hb5 _⟩
            case measure => simp [intOf]; omega
          · have e1 : max q2 p2 = q2 := by omega
            rw [e1] at HST
            have hb5 := hbx.setCell (p := ⟨g, m * 2 + 1, none⟩) hgb (.int .i64 q2)
            have hown5 := (hown.alloc (.cells #[.int .i64 p1, .int .i64 p2] 158)).stored' HM.out q2
            dsimp only at hown5
            go_wp2_with fail
            go_quiet (fail)
            go_wp2_with fail
            go_region
            go_wp2_with fail
            go_roundw
            case rel => exact ⟨j + 1, acc' ++ [(q1, q2)], by omega, by go_num, by simp at hacc ⊢ <;> omega, hown5, HST.out, bdr hb5 _⟩
            case measure => simp [intOf]; omega
        · have HST := Lib.hid (hpre2.next hle)
          clear hcell hp hpre hpre2 hm
          have hown1 := (hown.alloc (.cells #[.int .i64 p1, .int .i64 p2] 158)).alloc (.cells #[.int .i64 p1, .int .i64 p2] 158)
          have hb3 := hbx.alloc (by simp; omega) (.cells #[.int .i64 p1, .int .i64 p2] 158)
          go_wp2_with fail
          go_quiet (fail)
          go_wp2_with (at_builtin; refine wpList_append_ds rfl (.tmp 47) (.tmp 49) 42 158 rfl Tryz.underlying42 w2.heap.size i0 hi hz0 hz1 hz2 _ _ rfl hown1 _ 1 1 [(p1, p2)] rfl (Ds.one _ _ _ _ _ (by simp)) (by first | (simp only [List.length_append, List.length_cons, List.length_nil] at hacc ⊢; omega) | simp) (by simp; omega) ?_)
          intro v4 w4 hown4 hgr4
          have hb4 := (bdr hb3 _).grown hgr4 (by simp; omega) (fun b hb => (hown.lt b hb).1)
          clear hgr4 hown1 hown hbel hb3 hbx x1 x2
          go_wp2_with fail
          go_roundw
          case rel => exact ⟨j + 1, (acc' ++ [(q1, q2)]) ++ [(p1, p2)], by omega, by go_num, by simp at hacc ⊢ <;> omega, by rw [List.append_assoc]; exact hown4, HST.out, hb4⟩
          case measure => simp [intOf]; omega
    · obtain rfl : j = n2 := by omega
      have hst : JoinI ys acc [] := by
        have := hpre.out
        rwa [List.drop_of_length_le (by rw [HY.out]; exact Nat.le_refl _)] at this
      have HE := Lib.hid hst.stop
      obtain ⟨a3, n3, c3, rfl, hn3, hs3⟩ := hown.dnF
      have HS3 := Lib.hid hs3
      have r0 := (hbel.cell (p := ⟨w.heap.size, 0, none⟩) (show w.heap.size < w2.heap.size by omega)).trans k0
      have rf := (hbel.frozen (p := ⟨w.heap.size, 0, none⟩) (show w.heap.size < w2.heap.size by omega)).trans f0
      have hbw2 : RowKit.Below w.heap.size w wr := hbw1.trans (hbel.mono (by omega))
      clear hpre hst hs3 hown hn3
      go_wp2_with fail
      have cs := World.cell?_setCell_same wr ⟨w.heap.size, 0, none⟩ (.slice a3 n3 c3) r0
      refine bodyPost_ret (v := .agg #[.slice a3 n3 c3]) (by simp [results, Tryz.results210, go_sem, cs]) rfl ?_
      exact ⟨a3, n3, c3, acc, rfl, (HS3.out.set r0 (by intro x e; cases e)).mono (by omega), HE.out.1, fun d => (HE.out.2 d).trans (HF.out d), hbw2.setCell (Nat.le_refl _) _⟩

theorem join_any (a : Option Addr) (n cap : Nat) (l : List (Int × Int)) (w : World) (h : Ds w a n cap l) (hok : ∀ x ∈ l, Okp x) (hn : n ≤ 100000) :
    Calls Tryz.prog 210 #[.slice a n cap] w (SetP w (Dm l)) := (join_anyF a n cap l w h hok hn).mono fun _ _ h => h.weak
/-- The result of Of. -/
def OfP (w : World) (l : List (Int × Int)) (e : Ending) (w' : World) : Prop :=
  ∃ a n cap r, e = .returned (.tuple #[.agg #[.slice a n cap], .int .i64 (errL l)]) ∧ Dn w.heap.size w' a n cap r ∧ Can r ∧ (∀ d, Dm r d = match decide (errL l = 0) with | true => Dm l d | false => false) ∧ RowKit.Below w.heap.size w w'
end Go.Proofs.YtfjpbkmnlmecgaaGreatDoor.Dy
end

section
/- Contracts: And, Minus, Within. -/
namespace Go.Proofs.YtfjpbkmnlmecgaaGreatDoor.Dy
open Go.RowKit Go.PlainAid
set_option linter.unusedVariables false
set_option linter.unusedSimpArgs false
set_option maxHeartbeats 10000000

def slN : Value → Nat | .slice _ n _ => n | _ => 0
/-- The slice without its first element. -/
theorem Ds.tail {w : World} {b o n cap : Nat} {p : Int × Int} {l : List (Int × Int)} (h : Ds w (some ⟨b, o, none⟩) (n + 1) cap (p :: l)) (a : Option Addr) (ha : n = 0 ∨ a = some ⟨b, o + 2, none⟩) (m c : Nat) (hm : m = n) (hc : c = cap - 1) : Ds w a m c l := by
  obtain ⟨h1, h2, h3, h4⟩ := h
  subst hm hc
  refine ⟨by simpa using h1, by omega, by omega, ?_⟩
  rcases ha with ha | ha
  · exact .inl ha
  · rcases h4 with h4 | ⟨b', o', h4, hb, hcell⟩
    · omega
    · cases h4
      refine .inr ⟨_, _, ha, hb, fun j q hq => ?_⟩
      have := hcell (j + 1) q (by simpa using hq)
      rw [show o + 2 + j * 2 = o + (j + 1) * 2 from by omega]
      exact this
theorem Ds.tail' {w : World} {b o n cap : Nat} {p : Int × Int} {l : List (Int × Int)} (h : Ds w (some ⟨b, o, none⟩) (n + 1) cap (p :: l)) : Ds w (if cap = 1 then some ⟨b, o, none⟩ else some ⟨b, o + 2, none⟩) n (cap - 1) l := by
  refine h.tail _ ?_ _ _ rfl rfl
  have := h.2.1
  by_cases h0 : n = 0
  · exact .inl h0
  · exact .inr (if_neg (by omega))
theorem Ds.head {w : World} {a : Option Addr} {n cap : Nat} {p : Int × Int} {l : List (Int × Int)} (h : Ds w a n cap (p :: l)) : ∃ b o m, a = some ⟨b, o, none⟩ ∧ n = m + 1 ∧ m + 1 ≤ cap ∧ b < w.heap.size ∧ w.cell? ⟨b, o, none⟩ = some (.int .i64 p.1) ∧ w.cell? ⟨b, o + 1, none⟩ = some (.int .i64 p.2) := by
  obtain ⟨h1, h2, h3, h4⟩ := h
  rw [List.length_cons] at h1
  rcases h4 with h4 | ⟨b, o, ha, hb, hcell⟩
  · omega
  · have := hcell 0 p rfl
    exact ⟨b, o, l.length, ha, h1.symm, by omega, hb, by simpa using this.1, by simpa using this.2⟩

theorem kp {w : World} {g o : Nat} {v : Value} (h : g < w.heap.size) (hc : w.cell? ⟨g, o, none⟩ = some v) (ob : Obj) : (w.drew.alloc ob).cell? ⟨g, o, none⟩ = some v := by
  rw [World.cell?_alloc_lt _ _ _ h]; exact hc
end Go.Proofs.YtfjpbkmnlmecgaaGreatDoor.Dy
end

section
/- Contracts: Of, Or, Minus, Within. -/
namespace Go.Proofs.YtfjpbkmnlmecgaaGreatDoor.Dy
open Go.RowKit Go.PlainAid
set_option linter.unusedVariables false
set_option linter.unusedSimpArgs false
set_option maxHeartbeats 2000000

theorem new2 (w : World) (v1 v2 : Value) (T : TypeId) : (w.alloc (.cells #[v1, v2] T)).cell? ⟨w.heap.size, 0, none⟩ = some v1 ∧ (w.alloc (.cells #[v1, v2] T)).cell? ⟨w.heap.size, 1, none⟩ = some v2 := by constructor <;> simp
theorem ofP_err {w w' : World} {l : List (Int × Int)} {x : Int} (h : errL l = x) (hx : x ≠ 0) (hb : RowKit.Below w.heap.size w w') : OfP w l (.returned (.tuple #[.agg #[.slice none 0 0], .int .i64 x])) w' := by
  refine ⟨none, 0, 0, [], by rw [h], Dn.nil _ _, can_nil, fun d => ?_, hb⟩
  rw [decide_eq_false (by rw [h]; exact hx)]; rfl
theorem ofP_ok {w w' : World} {l r : List (Int × Int)} {a : Option Addr} {n cap : Nat} (h : errL l = 0) (hd : Dn w.heap.size w' a n cap r) (hc : Can r) (hm : ∀ d, Dm r d = Dm l d) (hb : RowKit.Below w.heap.size w w') : OfP w l (.returned (.tuple #[.agg #[.slice a n cap], .int .i64 0])) w' := by
  refine ⟨a, n, cap, r, by rw [h], hd, hc, fun d => ?_, hb⟩
  rw [decide_eq_true h]; exact hm d
set_option maxRecDepth 100000 in
theorem of_any (a : Option Addr) (n cap : Nat) (l : List (Int × Int)) (w : World) (h : Ds w a n cap l) (hn : n ≤ 100000) :
    Calls Tryz.prog 129 #[.slice a n cap] w (OfP w l) := by
  have HJ : Hid (errL l = 0 → ∀ W, RowKit.Below w.heap.size w W → Calls Tryz.prog 210 #[.slice a n cap] W (SetF W (Dm l))) :=
    fun he W hb => join_anyF a n cap l W (h.below hb (Nat.le_refl _)) (errL_ok he) hn
  obtain ⟨hl, hc, hm, h4⟩ := h
  unfold maxLen at hm
  have H4 := Lib.hid h4
  have HL := Lib.hid hl
  clear h4 hl
  go_enter Tryz.func129, Tryz.ntmps129
  go_wp2_with fail
  go_loopw [8] (fun v wr => ∃ j : Nat, j ≤ n ∧ v = .int .i64 j ∧ Hid (errL l = errL (l.drop j)) ∧ RowKit.Below (w.heap.size + 1) (w.alloc (.cells #[.slice none 0 0] 44)) wr) (fun v _ => n - (intOf v).toNat)
  case atStart => exact ⟨0, by omega, rfl, rfl, RowKit.Below.refl _ _⟩
  case round =>
    obtain ⟨j, hj, rfl, hpre, hbel⟩ := hrel
    obtain ⟨k0, hbw⟩ := box1 hbel
    have hz := hbel.size
    have f0 : wr.frozen? ⟨w.heap.size, 0, none⟩ = false := (hbel.frozen (p := ⟨w.heap.size, 0, none⟩) (Nat.lt_succ_self _)).trans (new1 _ _ _).2
    simp only [World.size_alloc] at hz
    by_cases hjn : j < n
    · rcases H4.out with h0 | ⟨b, o, rfl, hb, hcell⟩
      · omega
      obtain ⟨⟨p1, p2⟩, hp⟩ : ∃ p, l[j]? = some p := ⟨_, List.getElem?_eq_getElem (by rw [HL.out]; exact hjn)⟩
      obtain ⟨c1, c2⟩ := hcell j _ hp
      have c1 := (hbw.cell (p := ⟨b, _, none⟩) hb).trans c1
      have c2 := (hbw.cell (p := ⟨b, _, none⟩) hb).trans c2
      dsimp only at c1 c2
      have hj0 : (0 : Int) ≤ (j : Int) := Int.natCast_nonneg _
      have hj1 : (j : Int) < (n : Int) := by omega
      have hb2 := hbel.alloc hz (.cells #[.int .i64 p1, .int .i64 p2] 158)
      have hbw2 := (hbw.alloc (by omega) (.cells #[.int .i64 p1, .int .i64 p2] 158)).setCell (p := ⟨w.heap.size, 0, none⟩) (Nat.le_refl _) (.slice none 0 0)
      have k1 : (wr.alloc (.cells #[.int .i64 p1, .int .i64 p2] 158)).cell? ⟨w.heap.size, 0, none⟩ = some (.slice none 0 0) := by
        rw [World.cell?_alloc_lt _ _ _ (show w.heap.size < wr.heap.size by omega)]; exact k0
      have f1 : (wr.alloc (.cells #[.int .i64 p1, .int .i64 p2] 158)).frozen? ⟨w.heap.size, 0, none⟩ = false := ((RowKit.Below.refl wr.heap.size wr).alloc (Nat.le_refl _) _).frozen (p := ⟨w.heap.size, 0, none⟩) (show w.heap.size < wr.heap.size by omega) |>.trans f0
      have cs := World.cell?_setCell_same _ _ (.slice none 0 0) k1
      have hcase : p1 < 0 ∨ (0 ≤ p1 ∧ 30000 < p1) ∨ (0 ≤ p1 ∧ p1 ≤ 30000 ∧ p2 < 0) ∨ (0 ≤ p1 ∧ p1 ≤ 30000 ∧ 0 ≤ p2 ∧ 30000 < p2) ∨ (0 ≤ p1 ∧ p1 ≤ 30000 ∧ 0 ≤ p2 ∧ p2 ≤ 30000 ∧ p2 < p1) ∨ (0 ≤ p1 ∧ p1 ≤ 30000 ∧ 0 ≤ p2 ∧ p2 ≤ 30000 ∧ p1 ≤ p2) := by omega
      have e2 : (p1 < 0 ∨ 30000 < p1 ∨ p2 < 0 ∨ 30000 < p2) → Hid (errL l = 2) := fun hh => by
        have e : errP (p1, p2) = 2 := by unfold errP; rw [if_pos (by dsimp only; omega)]
        exact (errL_here hpre.out hp (by rw [e]; omega)).trans e
      have e1 : (0 ≤ p1 ∧ p1 ≤ 30000 ∧ 0 ≤ p2 ∧ p2 ≤ 30000 ∧ p2 < p1) → Hid (errL l = 1) := fun hh => by
        have e : errP (p1, p2) = 1 := by unfold errP; rw [if_neg (by dsimp only; omega), if_pos (by dsimp only; omega)]
        exact (errL_here hpre.out hp (by rw [e]; omega)).trans e
      have e0 : (0 ≤ p1 ∧ p1 ≤ 30000 ∧ 0 ≤ p2 ∧ p2 ≤ 30000 ∧ p1 ≤ p2) → Hid (errL l = errL (l.drop (j + 1))) := fun hh => by
        have e : errP (p1, p2) = 0 := by unfold errP; rw [if_neg (by dsimp only; omega), if_neg (by dsimp only; omega)]
        show errL l = _
        rw [hpre.out, errL_step hp, if_pos e]
      clear hcell hp hpre
      rcases hcase with g | ⟨g1, g⟩ | ⟨g1, g2, g⟩ | ⟨g1, g2, g3, g⟩ | ⟨g1, g2, g3, g4, g⟩ | ⟨g1, g2, g3, g4, g⟩
      · have HE := e2 (by omega)
        clear e0 e1 e2
        go_wp2_with fail
        all_goals first | (exfalso; omega) | exact bodyPost_ret (v := .tuple #[.agg #[.slice none 0 0], .int .i64 2]) (by simp [results, Tryz.results129, go_sem, cs]) rfl (ofP_err HE.out (by omega) hbw2)
      · have HE := e2 (by omega)
        clear e0 e1 e2
        go_wp2_with fail
        all_goals first | (exfalso; omega) | exact bodyPost_ret (v := .tuple #[.agg #[.slice none 0 0], .int .i64 2]) (by simp [results, Tryz.results129, go_sem, cs]) rfl (ofP_err HE.out (by omega) hbw2)
      · have HE := e2 (by omega)
        clear e0 e1 e2
        go_wp2_with fail
        all_goals first | (exfalso; omega) | exact bodyPost_ret (v := .tuple #[.agg #[.slice none 0 0], .int .i64 2]) (by simp [results, Tryz.results129, go_sem, cs]) rfl (ofP_err HE.out (by omega) hbw2)
      · have HE := e2 (by omega)
        clear e0 e1 e2
        go_wp2_with fail
        all_goals first | (exfalso; omega) | exact bodyPost_ret (v := .tuple #[.agg #[.slice none 0 0], .int .i64 2]) (by simp [results, Tryz.results129, go_sem, cs]) rfl (ofP_err HE.out (by omega) hbw2)
      · have HE := e1 (by omega)
        clear e0 e1 e2
        go_wp2_with fail
        all_goals first | (exfalso; omega) | exact bodyPost_ret (v := .tuple #[.agg #[.slice none 0 0], .int .i64 1]) (by simp [results, Tryz.results129, go_sem, cs]) rfl (ofP_err HE.out (by omega) hbw2)
      · have HE := e0 (by omega)
        clear e0 e1 e2 cs hbw2 k1 f1
        go_wp2_with fail
        all_goals first | (exfalso; omega) | skip
        go_roundw
        case rel => exact ⟨j + 1, by omega, by go_num, HE.out, hb2⟩
        case measure => simp [intOf]; omega
    · obtain rfl : j = n := by omega
      have HE : Hid (errL l = 0) := by
        have := hpre.out
        rw [List.drop_of_length_le (by rw [HL.out]; exact Nat.le_refl _)] at this
        exact this
      clear hpre
      go_wp2_with (go_at_call 210; refine (HJ.out HE.out _ hbw).mono ?_; rintro e w2 ⟨a2, n2, c2, us, rfl, hs2, hc2, hm2, hb2⟩; have HS2 := Lib.hid hs2; have HC2 := Lib.hid hc2; have HM2 := Lib.hid hm2; clear hs2 hc2 hm2; have k2 := (hb2.cell (p := ⟨w.heap.size, 0, none⟩) (show w.heap.size < wr.heap.size by omega)).trans k0; have f2 := (hb2.frozen (p := ⟨w.heap.size, 0, none⟩) (show w.heap.size < wr.heap.size by omega)).trans f0)
      have cs := World.cell?_setCell_same w2 ⟨w.heap.size, 0, none⟩ (.slice a2 n2 c2) k2
      refine bodyPost_ret (v := .tuple #[.agg #[.slice a2 n2 c2], .int .i64 0]) (by simp [results, Tryz.results129, go_sem, cs]) rfl ?_
      exact ofP_ok HE.out ((HS2.out.set k2 (by intro x e; cases e)).mono hbw.size) HC2.out HM2.out ((hbw.trans (hb2.mono (by omega))).setCell (Nat.le_refl _) _)

theorem or_anyF (a b : Option Addr) (n m ca cb : Nat) (l r : List (Int × Int)) (w : World) (ha : Ds w a n ca l) (hb : Ds w b m cb r) (hl : Can l) (hr : Can r) :
    Calls Tryz.prog 130 #[.agg #[.slice a n ca], .agg #[.slice b m cb]] w (SetF w fun d => Dm l d || Dm r d) := by
  have hn : n ≤ 15001 := by rw [← ha.1]; exact can_len hl
  have hm : m ≤ 15001 := by rw [← hb.1]; exact can_len hr
  have HA := Lib.hid ha
  have HB := Lib.hid hb
  have HO : Hid (∀ x ∈ l ++ r, Okp x) := fun x hx => by
    rcases List.mem_append.1 hx with hx | hx
    · exact hl.1 x hx
    · exact hr.1 x hx
  have HL : Hid ((l ++ r).length ≤ 100000) := by
    show _ ≤ _
    rw [List.length_append, ha.1, hb.1]; omega
  have HD : Hid (∀ d, Dm (l ++ r) d = (Dm l d || Dm r d)) := fun d => dm_append l r d
  clear ha hb hl hr
  generalize hlr : l ++ r = lr at HO HL HD
  have HLR := Lib.hid hlr
  clear hlr
  have hB0 := ((((RowKit.Below.refl w.heap.size w).alloc (Nat.le_refl _) (.cells #[.slice a n ca] 44)).alloc (by simp) (.cells #[.slice b m cb] 44)).alloc (by simp; omega) (.cells #[.slice none 0 0] 44)).alloc (by simp; omega) (.cells #[.slice a n ca, .slice b m cb] 42)
  have z3 : (((w.alloc (.cells #[.slice a n ca] 44)).alloc (.cells #[.slice b m cb] 44)).alloc (.cells #[.slice none 0 0] 44)).heap.size = w.heap.size + 1 + 1 + 1 := by simp
  have c3 : ∀ v1 v2 T, ((((w.alloc (.cells #[.slice a n ca] 44)).alloc (.cells #[.slice b m cb] 44)).alloc (.cells #[.slice none 0 0] 44)).alloc (.cells #[v1, v2] T)).cell? ⟨w.heap.size + 1 + 1 + 1, 0, none⟩ = some v1 ∧ ((((w.alloc (.cells #[.slice a n ca] 44)).alloc (.cells #[.slice b m cb] 44)).alloc (.cells #[.slice none 0 0] 44)).alloc (.cells #[v1, v2] T)).cell? ⟨w.heap.size + 1 + 1 + 1, 1, none⟩ = some v2 := fun v1 v2 T => by rw [← z3]; exact new2 _ v1 v2 T
  have hCC := concat_any (w.heap.size + 1 + 1 + 1) a b n m ca cb l r _ (by rw [World.size_alloc, z3]; omega) (c3 (.slice a n ca) (.slice b m cb) 42).1 (c3 (.slice a n ca) (.slice b m cb) 42).2 (HA.out.below hB0 (Nat.le_refl _)) (HB.out.below hB0 (Nat.le_refl _)) (by omega) (by omega)
  rw [HLR.out] at hCC
  have HCC := Lib.hid hCC
  clear hCC c3 z3
  go_enter Tryz.func130, Tryz.ntmps130
  go_wp2_with (first
    | (go_at_call 211; (with_reducible refine HCC.out.mono ?_); rintro e w1 ⟨v1, rfl, hb1, hown1⟩; obtain ⟨a1, n1, c1, rfl, hn1, hd1⟩ := hown1.dn; have HD1 := Lib.hid hd1; have HN1 := Lib.hid hn1; clear hd1 hown1 hn1)
    | (go_at_call 210; refine (join_anyF _ _ _ _ _ HD1.out HO.out (by rw [HN1.out]; exact HL.out)).mono ?_; rintro e w2 ⟨a2, n2, c2, us, rfl, hs2, hc2, hm2, hb2⟩; have hW1 : w.heap.size ≤ w1.heap.size := (by have := hb1.size; simp at this; omega); have HS2 := Lib.hid hs2; have HC2 := Lib.hid hc2; have HM2 := Lib.hid hm2; clear hs2 hc2 hm2; have hB := box3 (((bel1 hb1).mono (by simp)).trans (hb2.mono (by have := hb1.size; simp at this; omega))); obtain ⟨-, -, k2, f2, -, hbw⟩ := hB))
  have cs := World.cell?_setCell_same w2 ⟨w.heap.size + 1 + 1, 0, none⟩ (.slice a2 n2 c2) k2
  refine bodyPost_ret (v := .agg #[.slice a2 n2 c2]) (by simp [results, Tryz.results130, go_sem, cs]) rfl ?_
  exact ⟨a2, n2, c2, us, rfl, (HS2.out.set k2 (by intro x e; cases e)).mono hW1, HC2.out, fun d => (HM2.out d).trans (HD.out d), hbw.setCell (by simp; omega) _⟩

theorem or_any (a b : Option Addr) (n m ca cb : Nat) (l r : List (Int × Int)) (w : World) (ha : Ds w a n ca l) (hb : Ds w b m cb r) (hl : Can l) (hr : Can r) :
    Calls Tryz.prog 130 #[.agg #[.slice a n ca], .agg #[.slice b m cb]] w (SetP w fun d => Dm l d || Dm r d) := (or_anyF a b n m ca cb l r w ha hb hl hr).mono fun _ _ h => h.weak

end Go.Proofs.YtfjpbkmnlmecgaaGreatDoor.Dy
end
