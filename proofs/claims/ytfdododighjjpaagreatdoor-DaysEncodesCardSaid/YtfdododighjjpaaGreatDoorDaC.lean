/- Own rows of spans; appends to them; contracts of slices.Clone, Equal, Grow, Concat of spans. -/
import Derived.Test.YtfdododighjjpaaGreatDoorDaA
import Derived.Laws.AppendOwnNone
namespace Go.Proofs.YtfdododighjjpaaGreatDoor.Dy
open Go.RowKit Go.PlainAid
set_option linter.unusedVariables false
set_option linter.unusedSimpArgs false
set_option maxHeartbeats 1000000

theorem infoSpan : (Tryz.prog.info? 48).map (fun i => (i.zero, i.size, i.bytes)) = some (some (.agg #[.int .i64 0, .int .i64 0]), 2, 16) := by kernel_rfl

/-- v is an own row of spans (T: the element's type) that holds l. -/
def Os (T : TypeId) (w : World) (base : Nat) (v : Value) (l : List (Int × Int)) : Prop := w.ownsRow base T 2 v l.length (flatS l)
theorem Os.ds {T : TypeId} {w : World} {base : Nat} {v : Value} {l : List (Int × Int)} (h : Os T w base v l) : ∃ a cap, v = .slice a l.length cap ∧ Ds w a l.length cap l := Ds.owned h rfl
theorem Os.dn {T : TypeId} {w : World} {base : Nat} {v : Value} {l : List (Int × Int)} (h : Os T w base v l) : ∃ a n cap, v = .slice a n cap ∧ n = l.length ∧ Ds w a n cap l := by
  obtain ⟨a, cap, h1, h2⟩ := h.ds
  exact ⟨a, _, cap, h1, rfl, h2⟩
theorem Os.nil (T : TypeId) (w : World) (base : Nat) : Os T w base (.slice none 0 0) [] := World.ownsRow_nil _ _ _ _
theorem Os.below {T : TypeId} {w w' : World} {base N : Nat} {v : Value} {l : List (Int × Int)} (h : Os T w base v l) (hN : w.heap.size ≤ N) (hb : Below N w w') : Os T w' base v l := owns_below h hN hb
theorem Os.alloc {T : TypeId} {w : World} {base : Nat} {v : Value} {l : List (Int × Int)} (h : Os T w base v l) (o : Obj) : Os T (w.alloc o) base v l := World.ownsRow.alloc h o
theorem Os.drew {T : TypeId} {w : World} {base : Nat} {v : Value} {l : List (Int × Int)} (h : Os T w base v l) : Os T w.drew base v l := h
theorem Os.lt {T : TypeId} {w : World} {base : Nat} {v : Value} {l : List (Int × Int)} (h : Os T w base v l) : ∀ b, v.ownBlock = some b → base ≤ b ∧ b < w.heap.size := fun b hb => World.ownsRow.lt h b hb
theorem Os.lower {T : TypeId} {w : World} {base base' : Nat} {v : Value} {l : List (Int × Int)} (h : Os T w base v l) (hb : base' ≤ base) : Os T w base' v l := by
  refine ⟨h.1, ?_⟩
  rcases h.2 with hn | ⟨g, cap, cur, rfl, hg, r⟩
  · exact .inl hn
  · exact .inr ⟨g, cap, cur, rfl, Nat.le_trans hb hg, r⟩

theorem Ds.hnews {w : World} {a : Addr} {n cap : Nat} {l : List (Int × Int)} (h : Ds w (some a) n cap l) : ∀ j u, (flatS l)[j]? = some u → w.cell? (a.add j) = some u := by
  intro j u hu
  obtain ⟨h1, h2, h3, h4⟩ := h
  have hlt : j < (flatS l).length := (List.getElem?_eq_some_iff.1 hu).1
  rw [flatS_length, h1] at hlt
  rcases h4 with h4 | ⟨b, o, ha, hb, hc⟩
  · omega
  · cases ha
    obtain ⟨p, hp⟩ : ∃ p, l[j / 2]? = some p := ⟨_, List.getElem?_eq_getElem (by omega)⟩
    obtain ⟨c1, c2⟩ := hc _ p hp
    have hg := fun c hc => flat_get2 l (j / 2) c p hp hc
    rw [Addr.add_lit, ← hu]
    rcases Nat.mod_two_eq_zero_or_one j with h | h
    · rw [show j = j / 2 * 2 + 0 from by omega, hg 0 (by omega)]; simpa [spV] using c1
    · rw [show j = j / 2 * 2 + 1 from by omega, hg 1 (by omega)]; simpa [spV, Nat.add_assoc] using c2

theorem run_append_ds (w : World) (base : Nat) (S T ty : TypeId) (hS : Tryz.prog.underlying S = some (.slice T)) (i : TypeInfo) (hi : Tryz.prog.info? T = some i) (hz0 : i.zero = some (.agg #[.int .i64 0, .int .i64 0])) (hz1 : i.size = 2) (hz2 : i.bytes = 16)
    (v : Value) (l : List (Int × Int)) (hown : Os T w base v l) (a : Option Addr) (m c : Nat) (r : List (Int × Int)) (h : Ds w a m c r) (hb : l.length + m ≤ 1000000) (hbase : base ≤ w.heap.size) :
    ∃ v' w', (Builtin.append_ #[S, S] ty #[v, .slice a m c]).run Tryz.prog w = .ok v' w' ∧ Os T w' base v' (l ++ r) ∧ w.grownBy w' v.ownBlock := by
  have hm := h.1
  cases a with
  | none =>
    obtain ⟨h1, h2, h3, rfl | ⟨b, o, h4, _⟩⟩ := h
    · have : r = [] := List.eq_nil_of_length_eq_zero h1
      subst this
      refine ⟨v, w, ?_, by simpa using hown, rfl, rfl, rfl, Nat.le_refl _, fun _ _ _ => rfl⟩
      rcases hown.2 with ⟨rfl, h0⟩ | ⟨g, cap, cur, rfl, _, _, hnc, _⟩
      · simp [Builtin.append_, run_underlying hS, sizeOf, typeInfo, hi, Builtin.lenOf, Builtin.firstCells]
      · simp [Builtin.append_, run_underlying hS, sizeOf, typeInfo, hi, Builtin.lenOf, Builtin.firstCells, hnc, storeCells]
    · cases h4
  | some ad =>
    obtain ⟨v', w', r1, r2, r3, _⟩ := run_append_own w base S ty T i (.agg #[.int .i64 0, .int .i64 0]) 2 16 hS hi hz0 hz1 hz2 rfl (by decide) v l.length (flatS l) hown ad m c (flatS r) (by rw [flatS_length, hm]) h.hnews (flatS_one r) (by unfold maxLen; omega) (by omega) hbase
    refine ⟨v', w', r1, ?_, r3⟩
    unfold Os
    rw [flatS_append, List.length_append, hm]
    exact r2
theorem wpList_append_ds {w : World} {ops : Array Oper} {rest : List Oper} {o : Oper} {a : Act} {Q : Exit → Act → World → Prop} (hgd : o.guard = none) (s x : Operand) (S T : TypeId)
    (ho : o.op = .call { callee := .builtin .append, args := #[s, x], argTypes := #[S, S] }) (hS : Tryz.prog.underlying S = some (.slice T)) (base : Nat) (i : TypeInfo) (hi : Tryz.prog.info? T = some i) (hz0 : i.zero = some (.agg #[.int .i64 0, .int .i64 0])) (hz1 : i.size = 2) (hz2 : i.bytes = 16)
    (v : Value) (l : List (Int × Int)) (hs : a.eval s = v) (hown : Os T w base v l) (ad : Option Addr) (m c : Nat) (r : List (Int × Int)) (hx : a.eval x = .slice ad m c) (h : Ds w ad m c r) (hb : l.length + m ≤ 1000000) (hbase : base ≤ w.heap.size)
    (hK : ∀ v' w', Os T w' base v' (l ++ r) → w.grownBy w' v.ownBlock → wpList Tryz.prog ops Q rest (a.put o.dst v') w') : wpList Tryz.prog ops Q (o :: rest) a w := by
  refine wpList_plain hgd fun K hK' => ?_
  obtain ⟨v', w', hr, h2, h3⟩ := run_append_ds w base S T o.type hS i hi hz0 hz1 hz2 v l hown ad m c r h hb hbase
  unfold Oper.wp
  simp [execOp, ho, resolve, invoke, builtin, hs, hx, hr, Result.andThen]
  exact hK' _ _ (hK v' w' h2 h3)
/-- One span, laid in a block of its own. -/
theorem Ds.one (w : World) (x y : Int) (T : TypeId) (n : Nat) (hn : n = w.heap.size) : Ds (w.alloc (.cells #[.int .i64 x, .int .i64 y] T)) (some ⟨n, 0, none⟩) 1 1 [(x, y)] := by
  subst hn
  refine ⟨rfl, Nat.le_refl _, by unfold maxLen; omega, .inr ⟨_, _, rfl, by simp, fun j p hp => ?_⟩⟩
  match j, hp with
  | 0, hp =>
    cases hp
    constructor <;> simp
  | j + 1, hp => simp at hp

theorem clone_any (a : Option Addr) (n cap : Nat) (l : List (Int × Int)) (w : World) (h : Ds w a n cap l) (hn : n ≤ 100000) :
    Calls Tryz.prog 49 #[.slice a n cap] w fun e w' => ∃ v', e = .returned v' ∧ Below w.heap.size w w' ∧ Os 48 w' w.heap.size v' l := by
  obtain ⟨i0, hi, hz0, hz1, hz2⟩ := info_parts infoSpan
  have hm := h.2.2.1
  unfold maxLen at hm
  have hc := h.2.1
  have hl := h.1
  have hnil := fun (w : World) (a : Option Addr) (n c : Nat) => Lib.run_eql_slice_nil (P := Tryz.prog) w 23 48 a n c 0 0 Tryz.underlying23
  cases a with
  | none =>
    have hx : l = [] := by
      rcases h.2.2.2 with h2 | ⟨b, o, h2, _⟩
      · exact List.eq_nil_of_length_eq_zero (by omega)
      · cases h2
    subst hx
    obtain rfl : n = 0 := hl.symm
    clear h hl
    go_enter Tryz.func49, Tryz.ntmps49
    go_wp2_with fail
    go_ret
    exact ⟨_, rfl, Below.refl _ _, Os.nil _ _ _⟩
  | some ad =>
    have hown0 : Os 48 (w.alloc (.cells #[] 48)) w.heap.size (.slice (some ⟨w.heap.size, 0, none⟩) 0 0) [] := World.ownsRow_made w #[] 0 (Nat.le_refl _) (by decide) rfl
    have HD : Hid (Ds (w.alloc (.cells #[] 48)) (some ad) n cap l) := h.below ((Below.refl w.heap.size w).alloc (Nat.le_refl _) _) (Nat.le_refl _)
    clear h hl
    go_enter Tryz.func49, Tryz.ntmps49
    go_wp2_with (at_builtin; refine wpList_append_ds rfl (.tmp 5) (.tmp 6) 23 48 rfl Tryz.underlying23 w.heap.size i0 hi hz0 hz1 hz2 _ _ rfl hown0 (some ad) n cap l rfl HD.out (by simp; omega) (by simp) ?_)
    intro v' w1 hown' hgrow
    have hbel : Below w.heap.size w w1 := ((Below.refl _ _).alloc (Nat.le_refl _) _).grown hgrow (by simp) (fun b hb => by cases hb; exact Nat.le_refl _)
    try simp only [List.nil_append] at hown'
    clear hgrow hown0
    go_wp2_with fail
    go_ret
    exact ⟨_, rfl, hbel, hown'⟩

theorem take_step' {α : Type} {ts us : List α} {j : Nat} {t u : α} (h : ts.take j = us.take j) (ht : ts[j]? = some t) (hu : us[j]? = some u) (e : t = u) : ts.take (j + 1) = us.take (j + 1) := by
  rw [take_snoc' ht, take_snoc' hu, h, e]
theorem sp_split (p q : Int × Int) : (p = q) ∨ p.1 ≠ q.1 ∨ (p.1 = q.1 ∧ p.2 ≠ q.2) := by
  by_cases h : p.1 = q.1
  · by_cases h2 : p.2 = q.2
    · exact .inl (Prod.ext h h2)
    · exact .inr (.inr ⟨h, h2⟩)
  · exact .inr (.inl h)
theorem equal_any (a b : Option Addr) (n m ca cb : Nat) (l r : List (Int × Int)) (w : World) (ha : Ds w a n ca l) (hb : Ds w b m cb r) :
    Calls Tryz.prog 45 #[.slice a n ca, .slice b m cb] w fun e w' => e = .returned (.bool (decide (l = r))) ∧ Below w.heap.size w w' := by
  obtain ⟨hn, hac, ham, ha2⟩ := ha
  obtain ⟨hm, hbc, hbm, hb2⟩ := hb
  unfold maxLen at ham hbm
  by_cases hnm : n = m
  · subst hnm
    by_cases h0 : n = 0
    · subst h0
      have e1 : l = [] := List.eq_nil_of_length_eq_zero hn
      have e2 : r = [] := List.eq_nil_of_length_eq_zero hm
      have HE : Hid (decide (l = r) = true) := by rw [e1, e2]; rfl
      clear e1 e2 ha2 hb2 hn hm
      go_enter Tryz.func45, Tryz.ntmps45
      go_wp2_with fail
      go_loop [13] (fun v => v = .int .i64 0) (fun _ => 0)
      case atStart => rfl
      case round =>
        obtain rfl := hrel
        go_wp2_with fail
        go_ret
        exact ⟨retB HE.out.symm, Below.refl _ _⟩
    · rcases ha2 with ha2 | ⟨ba, oa, rfl, hba, hca⟩
      · exact absurd ha2 h0
      rcases hb2 with hb2 | ⟨bb, ob, rfl, hbb, hcb⟩
      · exact absurd hb2 h0
      have HA := Lib.hid hca
      have HB := Lib.hid hcb
      have HN := Lib.hid hn
      have HM := Lib.hid hm
      clear hca hcb hn hm
      go_enter Tryz.func45, Tryz.ntmps45
      go_wp2_with fail
      go_loopw [13] (fun v wr => ∃ j : Nat, j ≤ n ∧ v = .int .i64 j ∧ Below w.heap.size w wr ∧ Hid (l.take j = r.take j)) (fun v _ => n - (intOf v).toNat)
      case atStart => exact ⟨0, by omega, rfl, Below.refl _ _, rfl⟩
      case round =>
        obtain ⟨j, hj, rfl, hbel, htk⟩ := hrel
        by_cases hjn : j < n
        · obtain ⟨t, ht⟩ : ∃ t, l[j]? = some t := ⟨_, List.getElem?_eq_getElem (by rw [HN.out]; exact hjn)⟩
          obtain ⟨u, hu⟩ : ∃ u, r[j]? = some u := ⟨_, List.getElem?_eq_getElem (by rw [HM.out]; exact hjn)⟩
          obtain ⟨p0, p1⟩ := HA.out j t ht
          obtain ⟨q0, q1⟩ := HB.out j u hu
          have p0 := (hbel.cell (p := ⟨ba, _, none⟩) hba).trans p0
          have p1 := (hbel.cell (p := ⟨ba, _, none⟩) hba).trans p1
          have q0 := (hbel.cell (p := ⟨bb, _, none⟩) hbb).trans q0
          have q1 := (hbel.cell (p := ⟨bb, _, none⟩) hbb).trans q1
          have htt := Lib.hid ht
          have huu := Lib.hid hu
          have hj0 : (0 : Int) ≤ (j : Int) := Int.natCast_nonneg _
          have hj1 : (j : Int) < (n : Int) := by omega
          clear ht hu
          have hsp := sp_split t u
          have hne : t ≠ u → Hid (decide (l = r) = false) := fun hne => decide_eq_false (fun e => by
            have h1 := htt.out; have h2 := huu.out; rw [e, h2] at h1; exact hne (Option.some.inj h1).symm)
          have hst : t = u → Hid (l.take (j + 1) = r.take (j + 1)) := fun e => take_step' htk.out htt.out huu.out e
          obtain ⟨t1, t2⟩ := t
          obtain ⟨u1, u2⟩ := u
          dsimp only at p0 p1 q0 q1 hsp
          rcases hsp with h | h | ⟨rfl, h⟩
          · have HST := hst h
            injection h with e1 e2
            subst e1 e2
            clear hst hne htt huu
            go_wp2_with fail
            go_quiet (fail)
            go_wp2_with fail
            go_roundw
            case rel => exact ⟨j + 1, by omega, by go_num, below_drewN hbel _, HST.out⟩
            case measure => simp [intOf]; omega
          · have HNE := hne (fun e => by injection e with e1 e2; exact h e1)
            clear hst hne htt huu
            go_wp2_with fail
            go_quiet (fail)
            go_wp2_with fail
            go_ret
            exact ⟨retB HNE.out.symm, below_drewN hbel _⟩
          · have HNE := hne (fun e => by injection e with e1 e2; exact h e2)
            clear hst hne htt huu
            go_wp2_with fail
            go_quiet (fail)
            go_wp2_with fail
            go_ret
            exact ⟨retB HNE.out.symm, below_drewN hbel _⟩
        · obtain rfl : j = n := by omega
          have HE : Hid (decide (l = r) = true) := decide_eq_true (by have := htk.out; rwa [List.take_of_length_le (by rw [HN.out]; exact Nat.le_refl _), List.take_of_length_le (by rw [HM.out]; exact Nat.le_refl _)] at this)
          go_wp2_with fail
          go_ret
          exact ⟨retB HE.out.symm, hbel⟩
  · have HNE : Hid (decide (l = r) = false) := decide_eq_false (fun e => hnm (by rw [← hn, ← hm, e]))
    have hnm2 : ((n : Int) == m) = false := by simp; omega
    have hnm3 : ((n : Int) != m) = true := by simp; omega
    clear ha2 hb2 hn hm hnm
    go_enter Tryz.func45, Tryz.ntmps45
    go_wp2_with fail
    go_ret
    exact ⟨retB HNE.out.symm, Below.refl _ _⟩
end Go.Proofs.YtfdododighjjpaaGreatDoor.Dy
