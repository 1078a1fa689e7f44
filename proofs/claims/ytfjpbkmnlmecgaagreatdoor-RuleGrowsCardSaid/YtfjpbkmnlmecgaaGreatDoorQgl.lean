/- Several of the texts below, joined: DaC DaD DaE DaF. -/
import Derived.Test.YtfjpbkmnlmecgaaGreatDoorQgk
import Derived.Laws.AppendOwnNone
import Derived.Shelf.SlSortCmp.WholeK
import Derived.Shelf.SlSortCmp.NoneTotal
import Derived.Shelf.SlicesG.Cmp
import Derived.Lib.AppendZeros
import Derived.Test.YtfjpbkmnlmecgaaGreatDoorQge
section
/- Own rows of spans; appends to them; contracts of slices.Clone, Equal, Grow, Concat of spans. -/
namespace Go.Proofs.YtfjpbkmnlmecgaaGreatDoor.Dy
open Go.RowKit Go.PlainAid
set_option linter.unusedVariables false
set_option linter.unusedSimpArgs false
set_option maxHeartbeats 1000000

theorem infoSpan : (Tryz.prog.info? 158).map (fun i => (i.zero, i.size, i.bytes)) = some (some (.agg #[.int .i64 0, .int .i64 0]), 2, 16) := by kernel_rfl

/-- v is an own row of spans (T: the element's type) that holds l. -/
def Os (T : TypeId) (w : World) (base : Nat) (v : Value) (l : List (Int × Int)) : Prop := w.ownsRow base T 2 v l.length (flatS l)
theorem Os.ds {T : TypeId} {w : World} {base : Nat} {v : Value} {l : List (Int × Int)} (h : Os T w base v l) : ∃ a cap, v = .slice a l.length cap ∧ Ds w a l.length cap l := Ds.owned h rfl
theorem Os.dn {T : TypeId} {w : World} {base : Nat} {v : Value} {l : List (Int × Int)} (h : Os T w base v l) : ∃ a n cap, v = .slice a n cap ∧ n = l.length ∧ Ds w a n cap l := by
  obtain ⟨a, cap, h1, h2⟩ := h.ds
  exact ⟨a, _, cap, h1, rfl, h2⟩
theorem Os.nil (T : TypeId) (w : World) (base : Nat) : Os T w base (.slice none 0 0) [] := World.ownsRow_nil _ _ _ _
theorem Os.below {T : TypeId} {w w' : World} {base N : Nat} {v : Value} {l : List (Int × Int)} (h : Os T w base v l) (hN : w.heap.size ≤ N) (hb : Below N w w') : Os T w' base v l := owns_below h hN hb
theorem Os.alloc {T : TypeId} {w : World} {base : Nat} {v : Value} {l : List (Int × Int)} (h : Os T w base v l) (o : Obj) : Os T (w.alloc o) base v l := World.ownsRow.alloc h o
theorem Os.drew {T : TypeId} {w : World} {base : Nat} {v : Value} {l : List (Int × Int)} (h : Os T w base v l) : Os T w.drew base v l := h
theorem Os.lt {T : TypeId} {w : World} {base : Nat} {v : Value} {l : List (Int × Int)} (h : Os T w base v l) : ∀ b, v.ownBlock = some b → base ≤ b ∧ b < w.heap.size := fun b hb => World.ownsRow.lt h b hb
theorem Os.lower {T : TypeId} {w : World} {base base' : Nat} {v : Value} {l : List (Int × Int)} (h : Os T w base v l) (hb : base' ≤ base) : Os T w base' v l := by
  refine ⟨h.1, ?_⟩
  rcases h.2 with hn | ⟨g, cap, cur, rfl, hg, r⟩
  · exact .inl hn
  · exact .inr ⟨g, cap, cur, rfl, Nat.le_trans hb hg, r⟩

theorem Ds.hnews {w : World} {a : Addr} {n cap : Nat} {l : List (Int × Int)} (h : Ds w (some a) n cap l) : ∀ j u, (flatS l)[j]? = some u → w.cell? (a.add j) = some u := by
  intro j u hu
  obtain ⟨h1, h2, h3, h4⟩ := h
  have hlt : j < (flatS l).length := (List.getElem?_eq_some_iff.1 hu).1
  rw [flatS_length, h1] at hlt
  rcases h4 with h4 | ⟨b, o, ha, hb, hc⟩
  · omega
  · cases ha
    obtain ⟨p, hp⟩ : ∃ p, l[j / 2]? = some p := ⟨_, List.getElem?_eq_getElem (by omega)⟩
    obtain ⟨c1, c2⟩ := hc _ p hp
    have hg := fun c hc => flat_get2 l (j / 2) c p hp hc
    rw [Addr.add_lit, ← hu]
    rcases Nat.mod_two_eq_zero_or_one j with h | h
    · rw [show j = j / 2 * 2 + 0 from by omega, hg 0 (by omega)]; simpa [spV] using c1
    · rw [show j = j / 2 * 2 + 1 from by omega, hg 1 (by omega)]; simpa [spV, Nat.add_assoc] using c2

theorem run_append_ds (w : World) (base : Nat) (S T ty : TypeId) (hS : Tryz.prog.underlying S = some (.slice T)) (i : TypeInfo) (hi : Tryz.prog.info? T = some i) (hz0 : i.zero = some (.agg #[.int .i64 0, .int .i64 0])) (hz1 : i.size = 2) (hz2 : i.bytes = 16)
    (v : Value) (l : List (Int × Int)) (hown : Os T w base v l) (a : Option Addr) (m c : Nat) (r : List (Int × Int)) (h : Ds w a m c r) (hb : l.length + m ≤ 1000000) (hbase : base ≤ w.heap.size) :
    ∃ v' w', (Builtin.append_ #[S, S] ty #[v, .slice a m c]).run Tryz.prog w = .ok v' w' ∧ Os T w' base v' (l ++ r) ∧ w.grownBy w' v.ownBlock := by
  have hm := h.1
  cases a with
  | none =>
    obtain ⟨h1, h2, h3, rfl | ⟨b, o, h4, _⟩⟩ := h
    · have : r = [] := List.eq_nil_of_length_eq_zero h1
      subst this
      refine ⟨v, w, ?_, by simpa using hown, rfl, rfl, rfl, Nat.le_refl _, fun _ _ _ => rfl⟩
      rcases hown.2 with ⟨rfl, h0⟩ | ⟨g, cap, cur, rfl, _, _, hnc, _⟩
      · simp [Builtin.append_, run_underlying hS, sizeOf, typeInfo, hi, Builtin.lenOf, Builtin.firstCells]
      · simp [Builtin.append_, run_underlying hS, sizeOf, typeInfo, hi, Builtin.lenOf, Builtin.firstCells, hnc, storeCells]
    · cases h4
  | some ad =>
    obtain ⟨v', w', r1, r2, r3, _⟩ := run_append_own w base S ty T i (.agg #[.int .i64 0, .int .i64 0]) 2 16 hS hi hz0 hz1 hz2 rfl (by decide) v l.length (flatS l) hown ad m c (flatS r) (by rw [flatS_length, hm]) h.hnews (flatS_one r) (by unfold maxLen; omega) (by omega) hbase
    refine ⟨v', w', r1, ?_, r3⟩
    unfold Os
    rw [flatS_append, List.length_append, hm]
    exact r2
theorem wpList_append_ds {w : World} {ops : Array Oper} {rest : List Oper} {o : Oper} {a : Act} {Q : Exit → Act → World → Prop} (hgd : o.guard = none) (s x : Operand) (S T : TypeId)
    (ho : o.op = .call { callee := .builtin .append, args := #[s, x], argTypes := #[S, S] }) (hS : Tryz.prog.underlying S = some (.slice T)) (base : Nat) (i : TypeInfo) (hi : Tryz.prog.info? T = some i) (hz0 : i.zero = some (.agg #[.int .i64 0, .int .i64 0])) (hz1 : i.size = 2) (hz2 : i.bytes = 16)
    (v : Value) (l : List (Int × Int)) (hs : a.eval s = v) (hown : Os T w base v l) (ad : Option Addr) (m c : Nat) (r : List (Int × Int)) (hx : a.eval x = .slice ad m c) (h : Ds w ad m c r) (hb : l.length + m ≤ 1000000) (hbase : base ≤ w.heap.size)
    (hK : ∀ v' w', Os T w' base v' (l ++ r) → w.grownBy w' v.ownBlock → wpList Tryz.prog ops Q rest (a.put o.dst v') w') : wpList Tryz.prog ops Q (o :: rest) a w := by
  refine wpList_plain hgd fun K hK' => ?_
  obtain ⟨v', w', hr, h2, h3⟩ := run_append_ds w base S T o.type hS i hi hz0 hz1 hz2 v l hown ad m c r h hb hbase
  unfold Oper.wp
  simp [execOp, ho, resolve, invoke, builtin, hs, hx, hr, Result.andThen]
  exact hK' _ _ (hK v' w' h2 h3)
/-- One span, laid in a block of its own. -/
theorem Ds.one (w : World) (x y : Int) (T : TypeId) (n : Nat) (hn : n = w.heap.size) : Ds (w.alloc (.cells #[.int .i64 x, .int .i64 y] T)) (some ⟨n, 0, none⟩) 1 1 [(x, y)] := by
  subst hn
  refine ⟨rfl, Nat.le_refl _, by unfold maxLen; omega, .inr ⟨_, _, rfl, by simp, fun j p hp => ?_⟩⟩
  match j, hp with
  | 0, hp =>
    cases hp
    constructor <;> simp
  | j + 1, hp => simp at hp

theorem clone_any (a : Option Addr) (n cap : Nat) (l : List (Int × Int)) (w : World) (h : Ds w a n cap l) (hn : n ≤ 100000) :
    Calls Tryz.prog 168 #[.slice a n cap] w fun e w' => ∃ v', e = .returned v' ∧ Below w.heap.size w w' ∧ Os 158 w' w.heap.size v' l := by
  obtain ⟨i0, hi, hz0, hz1, hz2⟩ := info_parts infoSpan
  have hm := h.2.2.1
  unfold maxLen at hm
  have hc := h.2.1
  have hl := h.1
  have hnil := fun (w : World) (a : Option Addr) (n c : Nat) => Lib.run_eql_slice_nil (P := Tryz.prog) w 42 158 a n c 0 0 Tryz.underlying42
  cases a with
  | none =>
    have hx : l = [] := by
      rcases h.2.2.2 with h2 | ⟨b, o, h2, _⟩
      · exact List.eq_nil_of_length_eq_zero (by omega)
      · cases h2
    subst hx
    obtain rfl : n = 0 := hl.symm
    clear h hl
    go_enter Tryz.func168, Tryz.ntmps168
    go_wp2_with fail
    go_ret
    exact ⟨_, rfl, Below.refl _ _, Os.nil _ _ _⟩
  | some ad =>
    have hown0 : Os 158 (w.alloc (.cells #[] 158)) w.heap.size (.slice (some ⟨w.heap.size, 0, none⟩) 0 0) [] := World.ownsRow_made w #[] 0 (Nat.le_refl _) (by decide) rfl
    have HD : Hid (Ds (w.alloc (.cells #[] 158)) (some ad) n cap l) := h.below ((Below.refl w.heap.size w).alloc (Nat.le_refl _) _) (Nat.le_refl _)
    clear h hl
    go_enter Tryz.func168, Tryz.ntmps168
    go_wp2_with (at_builtin; refine wpList_append_ds rfl (.tmp 5) (.tmp 6) 42 158 rfl Tryz.underlying42 w.heap.size i0 hi hz0 hz1 hz2 _ _ rfl hown0 (some ad) n cap l rfl HD.out (by simp; omega) (by simp) ?_)
    intro v' w1 hown' hgrow
    have hbel : Below w.heap.size w w1 := ((Below.refl _ _).alloc (Nat.le_refl _) _).grown hgrow (by simp) (fun b hb => by cases hb; exact Nat.le_refl _)
    try simp only [List.nil_append] at hown'
    clear hgrow hown0
    go_wp2_with fail
    go_ret
    exact ⟨_, rfl, hbel, hown'⟩

theorem take_step' {α : Type} {ts us : List α} {j : Nat} {t u : α} (h : ts.take j = us.take j) (ht : ts[j]? = some t) (hu : us[j]? = some u) (e : t = u) : ts.take (j + 1) = us.take (j + 1) := by
  rw [take_snoc' ht, take_snoc' hu, h, e]
theorem sp_split (p q : Int × Int) : (p = q) ∨ p.1 ≠ q.1 ∨ (p.1 = q.1 ∧ p.2 ≠ q.2) := by
  by_cases h : p.1 = q.1
  · by_cases h2 : p.2 = q.2
    · exact .inl (Prod.ext h h2)
    · exact .inr (.inr ⟨h, h2⟩)
  · exact .inr (.inl h)
theorem equal_any (a b : Option Addr) (n m ca cb : Nat) (l r : List (Int × Int)) (w : World) (ha : Ds w a n ca l) (hb : Ds w b m cb r) :
    Calls Tryz.prog 75 #[.slice a n ca, .slice b m cb] w fun e w' => e = .returned (.bool (decide (l = r))) ∧ Below w.heap.size w w' := by
  obtain ⟨hn, hac, ham, ha2⟩ := ha
  obtain ⟨hm, hbc, hbm, hb2⟩ := hb
  unfold maxLen at ham hbm
  by_cases hnm : n = m
  · subst hnm
    by_cases h0 : n = 0
    · subst h0
      have e1 : l = [] := List.eq_nil_of_length_eq_zero hn
      have e2 : r = [] := List.eq_nil_of_length_eq_zero hm
      have HE : Hid (decide (l = r) = true) := by rw [e1, e2]; rfl
      clear e1 e2 ha2 hb2 hn hm
      go_enter Tryz.func75, Tryz.ntmps75
      go_wp2_with fail
      go_loop [13] (fun v => v = .int .i64 0) (fun _ => 0)
      case atStart => rfl
      case round =>
        obtain rfl := hrel
        go_wp2_with fail
        go_ret
        exact ⟨retB HE.out.symm, Below.refl _ _⟩
    · rcases ha2 with ha2 | ⟨ba, oa, rfl, hba, hca⟩
      · exact absurd ha2 h0
      rcases hb2 with hb2 | ⟨bb, ob, rfl, hbb, hcb⟩
      · exact absurd hb2 h0
      have HA := Lib.hid hca
      have HB := Lib.hid hcb
      have HN := Lib.hid hn
      have HM := Lib.hid hm
      clear hca hcb hn hm
      go_enter Tryz.func75, Tryz.ntmps75
      go_wp2_with fail
      go_loopw [13] (fun v wr => ∃ j : Nat, j ≤ n ∧ v = .int .i64 j ∧ Below w.heap.size w wr ∧ Hid (l.take j = r.take j)) (fun v _ => n - (intOf v).toNat)
      case atStart => exact ⟨0, by omega, rfl, Below.refl _ _, rfl⟩
      case round =>
        obtain ⟨j, hj, rfl, hbel, htk⟩ := hrel
        by_cases hjn : j < n
        · obtain ⟨t, ht⟩ : ∃ t, l[j]? = some t := ⟨_, List.getElem?_eq_getElem (by rw [HN.out]; exact hjn)⟩
          obtain ⟨u, hu⟩ : ∃ u, r[j]? = some u := ⟨_, List.getElem?_eq_getElem (by rw [HM.out]; exact hjn)⟩
          obtain ⟨p0, p1⟩ := HA.out j t ht
          obtain ⟨q0, q1⟩ := HB.out j u hu
          have p0 := (hbel.cell (p := ⟨ba, _, none⟩) hba).trans p0
          have p1 := (hbel.cell (p := ⟨ba, _, none⟩) hba).trans p1
          have q0 := (hbel.cell (p := ⟨bb, _, none⟩) hbb).trans q0
          have q1 := (hbel.cell (p := ⟨bb, _, none⟩) hbb).trans q1
          have htt := Lib.hid ht
          have huu := Lib.hid hu
          have hj0 : (0 : Int) ≤ (j : Int) := Int.natCast_nonneg _
          have hj1 : (j : Int) < (n : Int) := by omega
          clear ht hu
          have hsp := sp_split t u
          have hne : t ≠ u → Hid (decide (l = r) = false) := fun hne => decide_eq_false (fun e => by
            have h1 := htt.out; have h2 := huu.out; rw [e, h2] at h1; exact hne (Option.some.inj h1).symm)
          have hst : t = u → Hid (l.take (j + 1) = r.take (j + 1)) := fun e => take_step' htk.out htt.out huu.out e
          obtain ⟨t1, t2⟩ := t
          obtain ⟨u1, u2⟩ := u
          dsimp only at p0 p1 q0 q1 hsp
          rcases hsp with h | h | ⟨rfl, h⟩
          · have HST := hst h
            injection h with e1 e2
            subst e1 e2
            clear hst hne htt huu
            go_wp2_with fail
            go_quiet (fail)
            go_wp2_with fail
            go_roundw
            case rel => exact ⟨j + 1, by omega, by go_num, below_drewN hbel _, HST.out⟩
            case measure => simp [intOf]; omega
          · have HNE := hne (fun e => by injection e with e1 e2; exact h e1)
            clear hst hne htt huu
            go_wp2_with fail
            go_quiet (fail)
            go_wp2_with fail
            go_ret
            exact ⟨retB HNE.out.symm, below_drewN hbel _⟩
          · have HNE := hne (fun e => by injection e with e1 e2; exact h e2)
            clear hst hne htt huu
            go_wp2_with fail
            go_quiet (fail)
            go_wp2_with fail
            go_ret
            exact ⟨retB HNE.out.symm, below_drewN hbel _⟩
        · obtain rfl : j = n := by omega
          have HE : Hid (decide (l = r) = true) := decide_eq_true (by have := htk.out; rwa [List.take_of_length_le (by rw [HN.out]; exact Nat.le_refl _), List.take_of_length_le (by rw [HM.out]; exact Nat.le_refl _)] at this)
          go_wp2_with fail
          go_ret
          exact ⟨retB HE.out.symm, hbel⟩
  · have HNE : Hid (decide (l = r) = false) := decide_eq_false (fun e => hnm (by rw [← hn, ← hm, e]))
    have hnm2 : ((n : Int) == m) = false := by simp; omega
    have hnm3 : ((n : Int) != m) = true := by simp; omega
    clear ha2 hb2 hn hm hnm
    go_enter Tryz.func75, Tryz.ntmps75
    go_wp2_with fail
    go_ret
    exact ⟨retB HNE.out.symm, Below.refl _ _⟩
end Go.Proofs.YtfjpbkmnlmecgaaGreatDoor.Dy
end

section
/- slices.SortFunc of spans at this seat: what the caller has after it. -/
namespace Go.Proofs.YtfjpbkmnlmecgaaGreatDoor.Dy
open Go.Shelf Go.RowKit Go.PlainAid Go.Sort
set_option linter.unusedVariables false
set_option linter.unusedSimpArgs false
set_option maxHeartbeats 1000000

theorem Os.stored {T : TypeId} {w : World} {base g cap : Nat} {acc : List (Int × Int)} {p : Int × Int} (h : Os T w base (.slice (some ⟨g, 0, none⟩) (acc.length + 1) cap) (acc ++ [p])) (y : Int) :
    Os T (w.setCell ⟨g, acc.length * 2 + 1, none⟩ (.int .i64 y)) base (.slice (some ⟨g, 0, none⟩) (acc.length + 1) cap) (acc ++ [(p.1, y)]) := by
  have hl : (acc ++ [p]).length = acc.length + 1 := by simp
  have hl2 : (acc ++ [(p.1, y)]).length = acc.length + 1 := by simp
  unfold Os at h ⊢
  rw [hl] at h
  rw [hl2]
  have := (World.ownsRow.stored h (acc.length * 2 + 1) (.int .i64 y)).1
  rw [flatS_append] at this ⊢
  rw [List.set_append_right _ _ (by rw [flatS_length]; omega), flatS_length] at this
  rw [show acc.length * 2 + 1 - acc.length * 2 = 1 from by omega] at this
  exact this

theorem holds_of_ds {w : World} {g n cap : Nat} {l : List (Int × Int)} (h : Ds w (some ⟨g, 0, none⟩) n cap l) (hf : ∀ j, w.frozen? ⟨g, j, none⟩ = false) : HoldsK spV 2 w g 0 l.toArray := by
  intro j hj
  rw [size_flatK, List.size_toArray] at hj
  refine ⟨?_, hf _⟩
  rw [get_flatK _ _ _ _ (by rw [List.size_toArray]; exact hj)]
  obtain ⟨h1, h2, h3, h4⟩ := h
  rcases h4 with h4 | ⟨b, o, ha, hb, hc⟩
  · omega
  · cases ha
    obtain ⟨p, hp⟩ : ∃ p, l[j / 2]? = some p := ⟨_, List.getElem?_eq_getElem (by omega)⟩
    obtain ⟨c1, c2⟩ := hc _ p hp
    have hp2 : l.toArray[j / 2]! = p := by
      rw [getElem!_def, List.getElem?_toArray, hp]
    rw [hp2]
    rcases Nat.mod_two_eq_zero_or_one j with h | h
    · rw [h, show 0 + j = 0 + j / 2 * 2 from by omega, c1]; rfl
    · rw [h, show 0 + j = 0 + j / 2 * 2 + 1 from by omega, c2]; rfl
theorem ds_of_holds {w : World} {g n cap : Nat} {d : Array (Int × Int)} (h : HoldsK spV 2 w g 0 d) (hn : d.size = n) (hc : n ≤ cap) (hm : cap ≤ maxLen) (hg : g < w.heap.size) : Ds w (some ⟨g, 0, none⟩) n cap d.toList := by
  refine ⟨by rw [Array.length_toList, hn], hc, hm, .inr ⟨g, 0, rfl, hg, fun j p hp => ?_⟩⟩
  have hj : j < d.size := by have := (List.getElem?_eq_some_iff.1 hp).1; rwa [Array.length_toList] at this
  have hp2 : d[j]! = p := by
    rw [getElem!_def]
    rw [Array.getElem?_toList] at hp
    rw [hp]
  have c0 := (h.cell (i := j) (c := 0) hj (by omega)).1
  have c1 := (h.cell (i := j) (c := 1) hj (by omega)).1
  rw [hp2] at c0 c1
  exact ⟨c0, c1⟩
theorem below_sort {N : Nat} {w w1 : World} {g n : Nat} {d : Array (Int × Int)} {os : Array Obj} (h : RowKit.Below N w w1) (hg : N ≤ g) (hN : N ≤ w1.heap.size) : RowKit.Below N w (sortWorldK spV 2 w1 g 0 n d os) := by
  refine h.trans ⟨rfl, rfl, rfl, ?_, fun k hk => ?_⟩
  · unfold sortWorldK
    rw [size_grow]
    simp [putRowK, putRow, mapBlock, Sort.ahead]
  · unfold sortWorldK grow putRowK putRow mapBlock Sort.ahead
    dsimp only
    rw [Array.getElem?_append_left (by simp; omega), Array.getElem?_modify]
    rw [if_neg (by omega)]

/-- The closure's order. -/
theorem ltLo (x y : Int × Int) : ltOf (fun x y : Int × Int => Lib.compareInt x.1 y.1) x y = decide (x.1 < y.1) := by
  unfold ltOf Lib.compareInt
  by_cases h1 : x.1 < y.1
  · simp [h1]
  · by_cases h2 : y.1 < x.1 <;> simp [h1, h2]
theorem swoLo : SWO (ltOf fun x y : Int × Int => Lib.compareInt x.1 y.1) where
  irrefl x := by rw [ltLo]; simp
  trans x y z h1 h2 := by rw [ltLo] at *; simp at *; omega
  ntrans x y z h1 h2 := by rw [ltLo] at *; simp at *; omega
theorem sorted_list {d : Array (Int × Int)} {n : Nat} (hn : d.size = n) (h : SortedIn (ltOf fun x y : Int × Int => Lib.compareInt x.1 y.1) 0 n d) : d.toList.Pairwise fun p q => p.1 ≤ q.1 := by
  rw [List.pairwise_iff_getElem]
  intro i j hi hj hij
  rw [Array.length_toList] at hi hj
  have := h i j (Nat.zero_le _) hij (by omega)
  rw [ltLo, decide_eq_false_iff_not, getElem!_pos d j hj, getElem!_pos d i hi] at this
  simp only [Array.getElem_toList]
  omega
theorem perm_list {d d' : Array (Int × Int)} {n : Nat} (hn : d.size = n) (h : PermIn 0 n d d') : d'.toList.Perm d.toList := by
  have h3 := h.2.2
  rw [show d'.extract 0 n = d' from by rw [← hn, ← h.1]; exact Array.extract_size, show d.extract 0 n = d from by rw [← hn]; exact Array.extract_size] at h3
  exact h3
end Go.Proofs.YtfjpbkmnlmecgaaGreatDoor.Dy
end

section
/- Contracts of slices.Grow (of nil) and slices.Concat (of two) of spans. -/
namespace Go.Proofs.YtfjpbkmnlmecgaaGreatDoor.Dy
open Go.RowKit Go.PlainAid
set_option linter.unusedVariables false
set_option linter.unusedSimpArgs false
set_option maxHeartbeats 1000000

set_option maxRecDepth 100000 in
theorem grow_any (n : Nat) (w : World) (hn : n ≤ 1000000) :
    Calls Tryz.prog 253 #[.slice none 0 0, .int .i64 n] w fun e w' => ∃ v', e = .returned v' ∧ Os 158 w' w.heap.size v' [] ∧ Below w.heap.size w w' := by
  by_cases h0 : n = 0
  · subst h0
    go_enter Tryz.func253, Tryz.ntmps253
    go_wp2_with fail
    go_ret
    exact ⟨_, rfl, Os.nil _ _ _, Below.refl _ _⟩
  · obtain ⟨i0, hi, hz0, hz1, hz2⟩ := info_parts infoSpan
    have happ := Lib.run_append_nil_zeros (P := Tryz.prog) w 42 3 42 158 i0 _ .i64 .i64 Tryz.underlying42 Tryz.underlying3 hi hz0 n (by omega) (by omega) (by omega) (by rw [hz2]; omega)
    generalize hcap : grownCap w n 0 158 = cap2 at happ
    have hcapge : n ≤ cap2 := by rw [← hcap]; exact grownCap_ge w _ 0 _
    have hcaple : cap2 ≤ maxLen := by rw [← hcap]; exact grownCap_le_maxLen w _ 0 _ (by unfold maxLen; omega)
    generalize hZ : (Builtin.zeroCells (Value.agg #[.int .i64 0, .int .i64 0]).cells n ++ Builtin.zeroCells (Value.agg #[.int .i64 0, .int .i64 0]).cells (cap2 - n)) = Z at happ
    have hZs : Z.size = cap2 * 2 := by rw [← hZ]; simp [size_zeroCells, Value.cells]; omega
    have HOWN : Hid (Os 158 (w.alloc (.cells Z 158)).drew w.heap.size (.slice (some ⟨w.heap.size, 0, none⟩) 0 cap2) []) :=
      ⟨rfl, .inr ⟨w.heap.size, cap2, Z, rfl, Nat.le_refl _, heap_alloc_new w _, Nat.zero_le _, hcaple, hZs, by rfl⟩⟩
    have HB : Hid (Below w.heap.size w (w.alloc (.cells Z 158)).drew) := ((Below.refl _ w).alloc (Nat.le_refl _) _).drew
    have hn0 : 0 < (n : Int) := by omega
    clear hcap hZ hZs hi hz0 hz1 hz2
    unfold maxLen at hcaple
    go_enter Tryz.func253, Tryz.ntmps253
    go_wp2_with (at_builtin; refine Lib.wpList_append_run _ rfl _ _ _ _ rfl _ _ rfl rfl _ _ happ ?_)
    go_ret
    exact ⟨_, rfl, HOWN.out, HB.out⟩

set_option maxRecDepth 100000 in
theorem concat_any (g : Nat) (a b : Option Addr) (n m ca cb : Nat) (l r : List (Int × Int)) (w : World) (hg : g < w.heap.size) (h0 : w.cell? ⟨g, 0, none⟩ = some (.slice a n ca)) (h1 : w.cell? ⟨g, 1, none⟩ = some (.slice b m cb))
    (ha : Ds w a n ca l) (hb : Ds w b m cb r) (hn : n ≤ 100000) (hm : m ≤ 100000) :
    Calls Tryz.prog 211 #[.slice (some ⟨g, 0, none⟩) 2 2] w fun e w' => ∃ v', e = .returned v' ∧ Below w.heap.size w w' ∧ Os 158 w' w.heap.size v' (l ++ r) := by
  obtain ⟨i0, hi, hz0, hz1, hz2⟩ := info_parts infoSpan
  have HA := Lib.hid ha
  have HB := Lib.hid hb
  have hla := ha.1
  have hlb := hb.1
  have HLA := Lib.hid hla
  have HLB := Lib.hid hlb
  clear ha hb hla hlb
  go_enter Tryz.func211, Tryz.ntmps211
  go_wp2_with fail
  refine wp_loop_rounds 3 ?_
  rw [rounds_succ]
  go_wp2_with fail
  rw [rounds_succ]
  go_wp2_with fail
  rw [rounds_succ]
  go_wp2_with (go_at_call 253; refine (grow_any (n + m) _ (by omega)).mono ?_; rintro e w1 ⟨v1, rfl, hown1, hb1⟩; have c0 := (hb1.cell (p := ⟨g, 0, none⟩) hg).trans h0; have c1 := (hb1.cell (p := ⟨g, 1, none⟩) hg).trans h1)
  refine wp_loop_rounds 3 ?_
  rw [rounds_succ]
  have ha1 := HA.out.below hb1 (Nat.le_refl _)
  have hz := hb1.size
  go_wp2_with (at_builtin; refine wpList_append_ds rfl (.tmp 31) (.tmp 32) 42 158 rfl Tryz.underlying42 w.heap.size i0 hi hz0 hz1 hz2 _ _ rfl hown1 a n ca l rfl ha1 (by simp; omega) hz ?_)
  intro v2 w2 hown2 hgr2
  have hb2 := hb1.grown hgr2 hz (fun b hb => (hown1.lt b hb).1)
  have d0 := (hb2.cell (p := ⟨g, 0, none⟩) hg).trans h0
  have d1 := (hb2.cell (p := ⟨g, 1, none⟩) hg).trans h1
  have ha2 := HB.out.below hb2 (Nat.le_refl _)
  have hz2' := hb2.size
  have hown2 : Os 158 w2 w.heap.size v2 l := hown2
  clear hgr2 c0 c1 ha1 hown1 hz hb1
  go_wp2_with fail
  rw [rounds_succ]
  go_wp2_with (at_builtin; refine wpList_append_ds rfl (.tmp 31) (.tmp 32) 42 158 rfl Tryz.underlying42 w.heap.size i0 hi hz0 hz1 hz2 _ _ rfl hown2 b m cb r rfl ha2 (by rw [HLA.out]; omega) hz2' ?_)
  intro v3 w3 hown3 hgr3
  have hb3 := hb2.grown hgr3 hz2' (fun b hb => (hown2.lt b hb).1)
  clear hgr3 d0 d1 ha2 hown2 hz2' hb2
  go_wp2_with fail
  rw [rounds_succ]
  go_wp2_with fail
  go_ret
  exact ⟨_, rfl, hb3, hown3⟩
end Go.Proofs.YtfjpbkmnlmecgaaGreatDoor.Dy
end

section
/- Contracts: Has, All, Spans, Equal, Not. -/
namespace Go.Proofs.YtfjpbkmnlmecgaaGreatDoor.Dy
open Go.RowKit Go.PlainAid
set_option linter.unusedVariables false
set_option linter.unusedSimpArgs false
set_option maxHeartbeats 1000000

theorem Ds.set {w : World} {a : Option Addr} {n cap : Nat} {l : List (Int × Int)} {p : Addr} {v u : Value} (h : Ds w a n cap l) (hp : w.cell? p = some v) (hv : ∀ x : Int, v ≠ .int .i64 x) : Ds (w.setCell p u) a n cap l := by
  obtain ⟨h1, h2, h3, h4⟩ := h
  refine ⟨h1, h2, h3, ?_⟩
  rcases h4 with h4 | ⟨b, o, h4, hb, hc⟩
  · exact .inl h4
  · refine .inr ⟨b, o, h4, by simpa using hb, fun j q hq => ?_⟩
    obtain ⟨c1, c2⟩ := hc j q hq
    constructor
    · rw [World.cell?_setCell_other]
      · exact c1
      · intro e
        rw [e, c1] at hp
        exact hv _ (Option.some.inj hp).symm
    · rw [World.cell?_setCell_other]
      · exact c2
      · intro e
        rw [e, c2] at hp
        exact hv _ (Option.some.inj hp).symm

/-- The result is the set of the days of f. -/
def SetP (w : World) (f : Int → Bool) (e : Ending) (w' : World) : Prop :=
  ∃ a n cap l, e = .returned (.agg #[.slice a n cap]) ∧ Ds w' a n cap l ∧ Can l ∧ (∀ d, Dm l d = f d) ∧ Below w.heap.size w w'

theorem nextP_find {l : List (Int × Int)} (h : Can l) (d : Int) : ((nextP l d).2 && decide ((nextP l d).1 = d)) = Dm l d := by
  induction l with
  | nil => rfl
  | cons p l ih =>
    obtain ⟨p1, p2⟩ := p
    by_cases hd : d ≤ p2
    · rw [nextP_yes hd, dm_cons]
      have : Dm l d = false := by
        rw [← Bool.not_eq_true]
        exact dm_not fun q hq => by have := h.after q hq; dsimp only at this; omega
      rw [this]
      dsimp only
      have e : decide (max d p1 = d) = decide (p1 ≤ d) := decide_eq_decide.2 (by omega)
      rw [e, decide_eq_true hd]; simp
    · rw [nextP_no hd, ih h.tail, dm_cons, decide_eq_false hd]; simp
theorem has_any (a : Option Addr) (n cap : Nat) (l : List (Int × Int)) (d : Int) (w : World) (h : Ds w a n cap l) (hcan : Can l) :
    Calls Tryz.prog 60 #[.agg #[.slice a n cap], .int .i64 d] w fun e w' => e = .returned (.bool (Dm l d)) ∧ Below w.heap.size w w' := by
  have HN := Lib.hid (fun W (hw : Below w.heap.size w W) => next_any a n cap l d W (h.below hw (Nat.le_refl _)))
  have HF := Lib.hid (nextP_find hcan d)
  clear h hcan
  generalize nextP l d = r at HN HF
  obtain ⟨r1, r2⟩ := r
  dsimp only at HN HF
  cases r2
  · have HR : Hid (Dm l d = false) := HF.out.symm
    clear HF
    go_enter Tryz.func60, Tryz.ntmps60
    go_wp2_with (go_at_call 137; refine (HN.out _ ((Below.refl _ w).alloc (Nat.le_refl _) _)).mono ?_; rintro e w1 ⟨rfl, hb1⟩)
    go_ret
    exact ⟨retB HR.out.symm, bel1 hb1⟩
  · have HR : Hid (Dm l d = (r1 == d)) := by have := HF.out; rw [← this]; simp; rfl
    clear HF
    go_enter Tryz.func60, Tryz.ntmps60
    go_wp2_with (go_at_call 137; refine (HN.out _ ((Below.refl _ w).alloc (Nat.le_refl _) _)).mono ?_; rintro e w1 ⟨rfl, hb1⟩)
    go_ret
    exact ⟨retB HR.out.symm, bel1 hb1⟩

theorem spans_any (a : Option Addr) (n cap : Nat) (l : List (Int × Int)) (w : World) (h : Ds w a n cap l) (hn : n ≤ 100000) :
    Calls Tryz.prog 76 #[.agg #[.slice a n cap]] w fun e w' => ∃ v', e = .returned v' ∧ Below w.heap.size w w' ∧ Os 158 w' w.heap.size v' l := by
  have HN := Lib.hid (fun W (hw : Below w.heap.size w W) => clone_any a n cap l W (h.below hw (Nat.le_refl _)) hn)
  clear h
  go_enter Tryz.func76, Tryz.ntmps76
  go_wp2_with (go_at_call 168; refine (HN.out _ ((Below.refl _ w).alloc (Nat.le_refl _) _)).mono ?_; rintro e w1 ⟨v1, rfl, hb1, hown⟩)
  go_ret
  exact ⟨_, rfl, bel1 hb1, hown.lower (by simp)⟩

theorem setEqual_any (a b : Option Addr) (n m ca cb : Nat) (l r : List (Int × Int)) (w : World) (ha : Ds w a n ca l) (hb : Ds w b m cb r) :
    Calls Tryz.prog 87 #[.agg #[.slice a n ca], .agg #[.slice b m cb]] w fun e w' => e = .returned (.bool (decide (l = r))) ∧ Below w.heap.size w w' := by
  have HN := Lib.hid (fun W (hw : Below w.heap.size w W) => equal_any a b n m ca cb l r W (ha.below hw (Nat.le_refl _)) (hb.below hw (Nat.le_refl _)))
  clear ha hb
  go_enter Tryz.func87, Tryz.ntmps87
  go_wp2_with (go_at_call 75; refine (HN.out _ (((Below.refl _ w).alloc (Nat.le_refl _) _).alloc (by simp) _)).mono ?_; rintro e w1 ⟨rfl, hb1⟩)
  go_ret
  exact ⟨rfl, bel2 hb1⟩

theorem can_all : Can [((0 : Int), (30000 : Int))] := can_cons (by unfold Okp; dsimp only; omega) can_nil (fun q hq => by cases hq)
theorem all_any (w : World) :
    Calls Tryz.prog 132 #[] w (SetP w inD) := by
  go_enter Tryz.func132, Tryz.ntmps132
  go_wp2_with fail
  refine bodyPost_ret (v := .agg #[.slice (some ⟨w.heap.size + 1, 0, none⟩) 1 1]) (by simp [results, Tryz.results132, go_sem]) rfl ?_
  refine ⟨_, 1, 1, [(0, 30000)], rfl, Ds.one _ 0 30000 _ _ (by simp), can_all, fun d => ?_, ((Below.refl _ w).alloc (Nat.le_refl _) _).alloc (by simp) _⟩
  apply bool_ext
  rw [inD_iff, dm_cons_iff, dm_nil]
  simp

theorem fit_can {l : List (Int × Int)} (h : Can l) : ∀ x ∈ l, Okp x := h.1

end Go.Proofs.YtfjpbkmnlmecgaaGreatDoor.Dy
end
