/- Own rows of pairs of 16 bits; appends to them. -/
import Derived.Test.YtgbonpmakahibaaDoorDaR
namespace Go.Proofs.YtgbonpmakahibaaDoor.Dy
open Go.RowKit Go.PlainAid
set_option linter.unusedVariables false
set_option linter.unusedSimpArgs false
set_option maxHeartbeats 1000000

def uV (p : Nat × Nat) : List Value := [.int .u16 (p.1 : Nat), .int .u16 (p.2 : Nat)]
def flatU (l : List (Nat × Nat)) : List Value := l.flatMap uV
theorem flatU_length (l : List (Nat × Nat)) : (flatU l).length = l.length * 2 := by
  induction l with
  | nil => rfl
  | cons t l ih => simp [flatU, uV] at ih ⊢; omega
theorem flatU_append (l r : List (Nat × Nat)) : flatU (l ++ r) = flatU l ++ flatU r := by simp [flatU]
theorem flatU_one (l : List (Nat × Nat)) : ∀ u ∈ flatU l, u.oneCell' = true := by
  intro u hu
  simp only [flatU, List.mem_flatMap] at hu
  obtain ⟨p, -, hp⟩ := hu
  simp [uV] at hp
  rcases hp with rfl | rfl <;> rfl
theorem flatU_get2 : ∀ (l : List (Nat × Nat)) (j c : Nat) (p : Nat × Nat), l[j]? = some p → c < 2 → (flatU l)[j * 2 + c]? = (uV p)[c]?
  | [], j, c, p, h, _ => by simp at h
  | x :: l, 0, c, p, h, hc => by
    simp at h
    subst h
    rw [flatU, List.flatMap_cons, List.getElem?_append_left (by show _ < 2; omega)]
    simp
  | x :: l, j + 1, c, p, h, hc => by
    rw [flatU, List.flatMap_cons, List.getElem?_append_right (by show 2 ≤ _; omega)]
    show (flatU l)[(j + 1) * 2 + c - 2]? = _
    rw [show (j + 1) * 2 + c - 2 = j * 2 + c from by omega]
    exact flatU_get2 l j c p (by simpa using h) hc
theorem Us.hnews {w : World} {a : Addr} {n cap : Nat} {l : List (Nat × Nat)} (h : Us w (some a) n cap l) : ∀ j u, (flatU l)[j]? = some u → w.cell? (a.add j) = some u := by
  intro j u hu
  obtain ⟨h1, h2, h3, h4⟩ := h
  have hlt : j < (flatU l).length := (List.getElem?_eq_some_iff.1 hu).1
  rw [flatU_length, h1] at hlt
  rcases h4 with ⟨h4, _⟩ | ⟨b, o, ha, hb, hc⟩
  · cases h4
  · cases ha
    obtain ⟨p, hp⟩ : ∃ p, l[j / 2]? = some p := ⟨_, List.getElem?_eq_getElem (by omega)⟩
    obtain ⟨-, c1, c2⟩ := hc _ p hp
    have hg := fun c hc => flatU_get2 l (j / 2) c p hp hc
    rw [Addr.add_lit, ← hu]
    rcases Nat.mod_two_eq_zero_or_one j with h | h
    · rw [show j = j / 2 * 2 + 0 from by omega, hg 0 (by omega)]; simpa [uV] using c1
    · rw [show j = j / 2 * 2 + 1 from by omega, hg 1 (by omega)]; simpa [uV, Nat.add_assoc] using c2
def U16s (l : List (Nat × Nat)) : Prop := ∀ p ∈ l, p.1 < 65536 ∧ p.2 < 65536
theorem Us.u16s {w : World} {a : Option Addr} {n cap : Nat} {l : List (Nat × Nat)} (h : Us w a n cap l) : U16s l := by
  intro p hp
  obtain ⟨h1, h2, h3, h4⟩ := h
  obtain ⟨j, hj, rfl⟩ := List.getElem_of_mem hp
  rcases h4 with ⟨_, h4, _⟩ | ⟨b, o, ha, hb, hc⟩
  · omega
  · exact (hc j _ (List.getElem?_eq_getElem hj)).1
theorem Us.take {w : World} {a : Option Addr} {n cap : Nat} {l : List (Nat × Nat)} (h : Us w a n cap l) (k : Nat) (hk : k ≤ n) : Us w a k cap (l.take k) := by
  obtain ⟨h1, h2, h3, h4⟩ := h
  refine ⟨by rw [List.length_take, h1]; omega, by omega, h3, ?_⟩
  rcases h4 with ⟨h4, h5, h6⟩ | ⟨b, o, h4, hb, hc⟩
  · exact .inl ⟨h4, by omega, h6⟩
  · exact .inr ⟨b, o, h4, hb, fun j p hp => hc j p (by
      rw [List.getElem?_take] at hp
      split at hp
      · exact hp
      · cases hp)⟩
theorem us_owned {w : World} {base : Nat} {e : TypeId} {v : Value} {n : Nat} {l : List (Nat × Nat)} (h : w.ownsRow base e 2 v n (flatU l)) (hl : l.length = n) (hu : U16s l) : ∃ a cap, v = .slice a n cap ∧ Us w a n cap l := by
  have hs := Sl.owned h
  obtain ⟨h1, ⟨hv, h0⟩ | ⟨g, cap, cur, hv, hg, hh, hc, hm, hz, ht⟩⟩ := h
  · subst h0
    exact ⟨none, 0, hv, hl, Nat.le_refl _, Nat.zero_le _, .inl ⟨rfl, rfl, rfl⟩⟩
  · obtain ⟨_, a, cap', hv', hc', hm', h2⟩ := hs
    rw [hv] at hv'
    cases hv'
    unfold maxLen at hm'
    refine ⟨_, _, hv, hl, hc', by omega, .inr ⟨g, 0, rfl, (Array.getElem?_eq_some_iff.1 hh).1, fun j p hp => ?_⟩⟩
    have hj : j < n := by rw [← hl]; exact (List.getElem?_eq_some_iff.1 hp).1
    rcases h2 with h2 | ⟨b, o, ha, hlt, h3⟩
    · omega
    cases ha
    have g0 := flatU_get2 l j 0 p hp (by omega)
    have g1 := flatU_get2 l j 1 p hp (by omega)
    refine ⟨hu p (List.mem_of_getElem? hp), ?_, ?_⟩
    · rw [h3 (j * 2) (by omega), List.getD_eq_getElem?_getD, show j * 2 = j * 2 + 0 from rfl, g0]; rfl
    · rw [Nat.add_assoc, h3 (j * 2 + 1) (by omega), List.getD_eq_getElem?_getD, g1]; rfl
def Ou (T : TypeId) (w : World) (base : Nat) (v : Value) (l : List (Nat × Nat)) : Prop := w.ownsRow base T 2 v l.length (flatU l)
theorem infoU2 : (Tryd.prog.info? 58).map (fun i => (i.zero, i.size, i.bytes)) = some (some (.agg #[.int .u16 0, .int .u16 0]), 2, 4) := by kernel_rfl
theorem run_append_us (w : World) (base : Nat) (S T ty : TypeId) (hS : Tryd.prog.underlying S = some (.slice T)) (i : TypeInfo) (hi : Tryd.prog.info? T = some i) (hz0 : i.zero = some (.agg #[.int .u16 0, .int .u16 0])) (hz1 : i.size = 2) (hz2 : i.bytes = 4)
    (v : Value) (l : List (Nat × Nat)) (hown : Ou T w base v l) (a : Option Addr) (m c : Nat) (r : List (Nat × Nat)) (h : Us w a m c r) (hb : (l.length + m) * 4 ≤ 140737488355328) (hbase : base ≤ w.heap.size) :
    ∃ v' w', (Builtin.append_ #[S, S] ty #[v, .slice a m c]).run Tryd.prog w = .ok v' w' ∧ Ou T w' base v' (l ++ r) ∧ w.grownBy w' v.ownBlock := by
  have hm := h.1
  cases a with
  | none =>
    obtain ⟨h1, h2, h3, ⟨-, rfl, rfl⟩ | ⟨b, o, h4, _⟩⟩ := h
    · have : r = [] := List.eq_nil_of_length_eq_zero h1
      subst this
      refine ⟨v, w, ?_, by simpa using hown, rfl, rfl, rfl, Nat.le_refl _, fun _ _ _ => rfl⟩
      rcases hown.2 with ⟨rfl, h0⟩ | ⟨g, cap, cur, rfl, _, _, hnc, _⟩
      · simp [Builtin.append_, run_underlying hS, sizeOf, typeInfo, hi, Builtin.lenOf, Builtin.firstCells]
      · simp [Builtin.append_, run_underlying hS, sizeOf, typeInfo, hi, Builtin.lenOf, Builtin.firstCells, hnc, storeCells]
    · cases h4
  | some ad =>
    obtain ⟨v', w', r1, r2, r3, _⟩ := run_append_own w base S ty T i (.agg #[.int .u16 0, .int .u16 0]) 2 4 hS hi hz0 hz1 hz2 rfl (by decide) v l.length (flatU l) hown ad m c (flatU r) (by rw [flatU_length, hm]) h.hnews (flatU_one r) (by unfold maxLen; omega) hb hbase
    refine ⟨v', w', r1, ?_, r3⟩
    unfold Ou
    rw [flatU_append, List.length_append, hm]
    exact r2
theorem wpList_append_us {w : World} {ops : Array Oper} {rest : List Oper} {o : Oper} {a : Act} {Q : Exit → Act → World → Prop} (hgd : o.guard = none) (s x : Operand) (S T : TypeId)
    (ho : o.op = .call { callee := .builtin .append, args := #[s, x], argTypes := #[S, S] }) (hS : Tryd.prog.underlying S = some (.slice T)) (base : Nat) (i : TypeInfo) (hi : Tryd.prog.info? T = some i) (hz0 : i.zero = some (.agg #[.int .u16 0, .int .u16 0])) (hz1 : i.size = 2) (hz2 : i.bytes = 4)
    (v : Value) (l : List (Nat × Nat)) (hs : a.eval s = v) (hown : Ou T w base v l) (ad : Option Addr) (m c : Nat) (r : List (Nat × Nat)) (hx : a.eval x = .slice ad m c) (h : Us w ad m c r) (hb : (l.length + m) * 4 ≤ 140737488355328) (hbase : base ≤ w.heap.size)
    (hK : ∀ v' w', Ou T w' base v' (l ++ r) → w.grownBy w' v.ownBlock → wpList Tryd.prog ops Q rest (a.put o.dst v') w') : wpList Tryd.prog ops Q (o :: rest) a w := by
  refine wpList_plain hgd fun K hK' => ?_
  obtain ⟨v', w', hr, h2, h3⟩ := run_append_us w base S T o.type hS i hi hz0 hz1 hz2 v l hown ad m c r h hb hbase
  unfold Oper.wp
  simp [execOp, ho, resolve, invoke, builtin, hs, hx, hr, Result.andThen]
  exact hK' _ _ (hK v' w' h2 h3)
end Go.Proofs.YtgbonpmakahibaaDoor.Dy
