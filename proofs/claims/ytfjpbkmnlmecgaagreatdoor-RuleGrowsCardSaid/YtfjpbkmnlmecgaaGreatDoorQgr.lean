/- Several of the texts below, joined: Gm RvA CuSpec CuA CuI. -/
import Derived.Test.YtfjpbkmnlmecgaaGreatDoorQga
import Derived.Test.YtfjpbkmnlmecgaaGreatDoorProg
import Derived.Laws.AppendOwnNone
import Derived.WalkSpells
import Derived.WalkLawsBesides
import Derived.Deep.RegionHeld3
import Derived.Deep.QuietTactic
import Derived.BigQuiet
import Derived.Lib.SliceRun
import Derived.Test.YtfjpbkmnlmecgaaGreatDoorQgp
import Derived.Test.YtfjpbkmnlmecgaaGreatDoorQgm
import Derived.Test.YtfjpbkmnlmecgaaGreatDoorQgi
import Derived.Test.YtfjpbkmnlmecgaaGreatDoorQge
import Derived.RangeFuncNested
import Derived.RangeFuncBound
import Derived.RangeFuncCalls
import Derived.RangeFuncLeaves
import Derived.RangeFuncBox
import Derived.RangeFuncWrites
import Derived.Shelf.Abstract
import Derived.Shelf.RegionOpen
import Derived.WalkKit
import Derived.OwnWalkIn
import Derived.TacticsInMore
import Derived.LoopNIn
import Derived.LoopIn
import Derived.Maps.AppendAt
import Derived.Test.YtfjpbkmnlmecgaaGreatDoorQgj
section
/- Memory of rows of elements of k cells each, whatever they are; appends to own rows. -/
namespace Go.Proofs.YtfjpbkmnlmecgaaGreatDoor
open Go.RowKit Go.PlainAid
set_option linter.unusedVariables false
set_option linter.unusedSimpArgs false
set_option maxHeartbeats 1000000

/-- How an element is laid in k cells. -/
structure Enc (α : Type) (k : Nat) where
  enc : α → List Value
  len : ∀ x, (enc x).length = k
  one : ∀ x, ∀ u ∈ enc x, u.oneCell' = true
variable {α : Type} {k : Nat} {E : Enc α k}
def flatE (E : Enc α k) (l : List α) : List Value := l.flatMap E.enc
theorem flatE_length (l : List α) : (flatE E l).length = l.length * k := by
  induction l with
  | nil => simp [flatE]
  | cons t l ih =>
    have : flatE E (t :: l) = E.enc t ++ flatE E l := by simp [flatE]
    rw [this, List.length_append, E.len, ih, List.length_cons, Nat.succ_mul]; omega
theorem flatE_append (l r : List α) : flatE E (l ++ r) = flatE E l ++ flatE E r := by simp [flatE]
theorem flatE_one (l : List α) : ∀ u ∈ flatE E l, u.oneCell' = true := by
  intro u hu
  simp only [flatE, List.mem_flatMap] at hu
  obtain ⟨p, -, hp⟩ := hu
  exact E.one p u hp
theorem flatE_get : ∀ (l : List α) (j c : Nat) (p : α), l[j]? = some p → c < k → (flatE E l)[j * k + c]? = (E.enc p)[c]?
  | [], j, c, p, h, _ => by simp at h
  | x :: l, 0, c, p, h, hc => by
    simp at h
    subst h
    rw [flatE, List.flatMap_cons, List.getElem?_append_left (by rw [E.len]; omega)]
    simp
  | x :: l, j + 1, c, p, h, hc => by
    rw [flatE, List.flatMap_cons, List.getElem?_append_right (by rw [E.len, Nat.succ_mul]; omega), E.len, Nat.succ_mul]
    show (flatE E l)[j * k + k + c - k]? = _
    rw [show j * k + k + c - k = j * k + c from by omega]
    exact flatE_get l j c p (by simpa using h) hc

/-- The slice (a, n, cap) holds the elements l. -/
def Dk (E : Enc α k) (w : World) (a : Option Addr) (n cap : Nat) (l : List α) : Prop :=
  l.length = n ∧ n ≤ cap ∧ cap ≤ 9223372036854775807 ∧ (n = 0 ∨ ∃ b o, a = some ⟨b, o, none⟩ ∧ b < w.heap.size ∧
    ∀ j p, l[j]? = some p → ∀ c v, (E.enc p)[c]? = some v → w.cell? ⟨b, o + (j * k + c), none⟩ = some v)
theorem Dk.below {w w' : World} {a : Option Addr} {n cap : Nat} {l : List α} (h : Dk E w a n cap l) (hb : Below w.heap.size w w') : Dk E w' a n cap l := by
  obtain ⟨h1, h2, h3, h4⟩ := h
  refine ⟨h1, h2, h3, ?_⟩
  rcases h4 with h4 | ⟨b, o, ha, hlt, h5⟩
  · exact .inl h4
  · exact .inr ⟨b, o, ha, Nat.lt_of_lt_of_le hlt hb.size, fun j p hp c v hv => (hb.cell (p := ⟨b, _, none⟩) hlt).trans (h5 j p hp c v hv)⟩
theorem Dk.nil (E : Enc α k) (w : World) (a : Option Addr) (cap : Nat) (h : cap ≤ 9223372036854775807) : Dk E w a 0 cap [] := ⟨rfl, Nat.zero_le _, h, .inl rfl⟩
/-- The element j of a slice. -/
theorem Dk.at {w : World} {a : Option Addr} {n cap j : Nat} {l : List α} {p : α} (h : Dk E w a n cap l) (hp : l[j]? = some p) : ∃ b o, a = some ⟨b, o, none⟩ ∧ b < w.heap.size ∧ ∀ c v, (E.enc p)[c]? = some v → w.cell? ⟨b, o + (j * k + c), none⟩ = some v := by
  obtain ⟨h1, h2, h3, h4⟩ := h
  have hj := (List.getElem?_eq_some_iff.1 hp).1
  rcases h4 with h4 | ⟨b, o, ha, hlt, h5⟩
  · omega
  · exact ⟨b, o, ha, hlt, h5 j p hp⟩
theorem Dk.get {w : World} {b o n cap j : Nat} {l : List α} {p : α} (h : Dk E w (some ⟨b, o, none⟩) n cap l) (hp : l[j]? = some p) (c : Nat) (v : Value) (hv : (E.enc p)[c]? = some v) : w.cell? ⟨b, o + (j * k + c), none⟩ = some v := by
  obtain ⟨b', o', ha, _, h5⟩ := h.at hp
  cases ha
  exact h5 c v hv
theorem Dk.inh {w : World} {a : Option Addr} {n cap : Nat} {l : List α} (h : Dk E w a n cap l) (hn : 0 < n) : ∃ b o, a = some ⟨b, o, none⟩ ∧ b < w.heap.size := by
  obtain ⟨h1, h2, h3, h4⟩ := h
  rcases h4 with h4 | ⟨b, o, ha, hlt, h5⟩
  · omega
  · exact ⟨b, o, ha, hlt⟩
theorem Dk.take {w : World} {a : Option Addr} {n cap m : Nat} {l : List α} (h : Dk E w a n cap l) (hm : m ≤ n) : Dk E w a m cap (l.take m) := by
  obtain ⟨h1, h2, h3, h4⟩ := h
  refine ⟨by rw [List.length_take, h1]; omega, by omega, h3, ?_⟩
  rcases h4 with h4 | ⟨b, o, ha, hlt, h5⟩
  · exact .inl (by omega)
  · refine .inr ⟨b, o, ha, hlt, fun j p hp => h5 j p ?_⟩
    rw [List.getElem?_take] at hp
    split at hp
    · exact hp
    · cases hp
theorem Dk.drop {w : World} {b o n cap m : Nat} {l : List α} (h : Dk E w (some ⟨b, o, none⟩) n cap l) (hm : m ≤ n) : Dk E w (some ⟨b, o + m * k, none⟩) (n - m) (cap - m) (l.drop m) := by
  obtain ⟨h1, h2, h3, h4⟩ := h
  refine ⟨by rw [List.length_drop, h1], by omega, by omega, ?_⟩
  rcases h4 with h4 | ⟨b', o', ha, hlt, h5⟩
  · exact .inl (by omega)
  · cases ha
    refine .inr ⟨b, _, rfl, hlt, fun j p hp c v hv => ?_⟩
    rw [List.getElem?_drop] at hp
    have := h5 _ p hp c v hv
    rwa [Nat.add_mul, Nat.add_assoc, ← Nat.add_assoc] at this
theorem Dk.empty {w : World} {a : Option Addr} {n cap : Nat} {l : List α} (h : Dk E w a n cap l) (a' : Option Addr) (cap' : Nat) (h0 : n = 0) (hc : cap' ≤ 9223372036854775807) : Dk E w a' 0 cap' l := by
  subst h0
  exact ⟨h.1, Nat.zero_le _, hc, .inl rfl⟩
theorem Dk.owned {w : World} {base : Nat} {e : TypeId} {v : Value} {n : Nat} {l : List α} (hk : 0 < k) (h : w.ownsRow base e k v n (flatE E l)) : ∃ a cap, v = .slice a n cap ∧ Dk E w a n cap l := by
  have hl : l.length = n := by
    have := h.1
    rw [flatE_length] at this
    exact Nat.eq_of_mul_eq_mul_right hk this
  obtain ⟨h1, a, cap, hv, hc, hm, h2⟩ := Sl.owned h
  refine ⟨a, cap, hv, hl, hc, by unfold maxLen at hm; omega, ?_⟩
  rcases h2 with h2 | ⟨b, o, ha, hlt, h3⟩
  · exact .inl h2
  · refine .inr ⟨b, o, ha, hlt, fun j p hp c u hu => ?_⟩
    have hj : j < n := by rw [← hl]; exact (List.getElem?_eq_some_iff.1 hp).1
    have hck : c < k := by have := (List.getElem?_eq_some_iff.1 hu).1; rwa [E.len] at this
    have g0 := flatE_get (E := E) l j c p hp hck
    have hlt2 : j * k + c < n * k := Nat.lt_of_lt_of_le (by rw [Nat.succ_mul]; omega : j * k + c < (j + 1) * k) (Nat.mul_le_mul_right _ hj)
    rw [h3 (j * k + c) hlt2, List.getD_eq_getElem?_getD, g0, hu]; rfl

/-- v is an own row (T: the element's type) that holds l. -/
def Ok (E : Enc α k) (T : TypeId) (w : World) (base : Nat) (v : Value) (l : List α) : Prop := w.ownsRow base T k v l.length (flatE E l)
theorem Ok.dk {T : TypeId} {w : World} {base : Nat} {v : Value} {l : List α} (hk : 0 < k) (h : Ok E T w base v l) : ∃ a cap, v = .slice a l.length cap ∧ Dk E w a l.length cap l := Dk.owned hk h
theorem Ok.dn {T : TypeId} {w : World} {base : Nat} {v : Value} {l : List α} (hk : 0 < k) (h : Ok E T w base v l) : ∃ a n cap, v = .slice a n cap ∧ n = l.length ∧ Dk E w a n cap l := by
  obtain ⟨a, cap, h1, h2⟩ := h.dk hk
  exact ⟨a, _, cap, h1, rfl, h2⟩
theorem Ok.nil (E : Enc α k) (T : TypeId) (w : World) (base : Nat) : Ok E T w base (.slice none 0 0) [] := World.ownsRow_nil _ _ _ _
theorem Ok.below {T : TypeId} {w w' : World} {base : Nat} {v : Value} {l : List α} (h : Ok E T w base v l) (hb : Below w.heap.size w w') : Ok E T w' base v l := owns_below h (Nat.le_refl _) hb
theorem Ok.alloc {T : TypeId} {w : World} {base : Nat} {v : Value} {l : List α} (h : Ok E T w base v l) (o : Obj) : Ok E T (w.alloc o) base v l := World.ownsRow.alloc h o
theorem Ok.drew {T : TypeId} {w : World} {base : Nat} {v : Value} {l : List α} (h : Ok E T w base v l) : Ok E T w.drew base v l := h
theorem Ok.lt {T : TypeId} {w : World} {base : Nat} {v : Value} {l : List α} (h : Ok E T w base v l) : ∀ b, v.ownBlock = some b → base ≤ b ∧ b < w.heap.size := fun b hb => World.ownsRow.lt h b hb
theorem Ok.lower {T : TypeId} {w : World} {base base' : Nat} {v : Value} {l : List α} (h : Ok E T w base v l) (hb : base' ≤ base) : Ok E T w base' v l := by
  refine ⟨h.1, ?_⟩
  rcases h.2 with hn | ⟨g, cap, cur, rfl, hg, r⟩
  · exact .inl hn
  · exact .inr ⟨g, cap, cur, rfl, Nat.le_trans hb hg, r⟩

theorem Dk.hnews {w : World} {a : Addr} {n cap : Nat} {l : List α} (hk : 0 < k) (h : Dk E w (some a) n cap l) : ∀ j u, (flatE E l)[j]? = some u → w.cell? (a.add j) = some u := by
  intro j u hu
  have hlt : j < (flatE E l).length := (List.getElem?_eq_some_iff.1 hu).1
  rw [flatE_length] at hlt
  have hj : j / k < l.length := (Nat.div_lt_iff_lt_mul hk).2 hlt
  obtain ⟨p, hp⟩ : ∃ p, l[j / k]? = some p := ⟨_, List.getElem?_eq_getElem hj⟩
  obtain ⟨b, o, ha, _, hc⟩ := h.at hp
  cases ha
  have hg := flatE_get (E := E) l (j / k) (j % k) p hp (Nat.mod_lt _ hk)
  have e : j / k * k + j % k = j := by rw [Nat.mul_comm]; exact Nat.div_add_mod j k
  rw [e, hu] at hg
  rw [Addr.add_lit]
  have := hc (j % k) u hg.symm
  rwa [e] at this

theorem run_append_dk (w : World) (base : Nat) (S T ty : TypeId) (hS : Tryz.prog.underlying S = some (.slice T)) (i : TypeInfo) (z : Value) (bytes : Nat) (hi : Tryz.prog.info? T = some i) (hz0 : i.zero = some z) (hz1 : i.size = k) (hz2 : i.bytes = bytes) (hzc : z.cells.size = k) (hk : 0 < k) (hby : bytes ≤ 1000)
    (v : Value) (l : List α) (hown : Ok E T w base v l) (a : Option Addr) (m c : Nat) (r : List α) (h : Dk E w a m c r) (hb : l.length + m ≤ 1000000000) (hbase : base ≤ w.heap.size) :
    ∃ v' w', (Builtin.append_ #[S, S] ty #[v, .slice a m c]).run Tryz.prog w = .ok v' w' ∧ Ok E T w' base v' (l ++ r) ∧ w.grownBy w' v.ownBlock := by
  have hm := h.1
  cases a with
  | none =>
    obtain ⟨h1, h2, h3, rfl | ⟨b, o, h4, _⟩⟩ := h
    · have : r = [] := List.eq_nil_of_length_eq_zero h1
      subst this
      refine ⟨v, w, ?_, by simpa using hown, rfl, rfl, rfl, Nat.le_refl _, fun _ _ _ => rfl⟩
      rcases hown.2 with ⟨rfl, h0⟩ | ⟨g, cap, cur, rfl, _, _, hnc, _⟩
      · simp [Builtin.append_, run_underlying hS, sizeOf, typeInfo, hi, Builtin.lenOf, Builtin.firstCells]
      · simp [Builtin.append_, run_underlying hS, sizeOf, typeInfo, hi, Builtin.lenOf, Builtin.firstCells, hnc, storeCells]
    · cases h4
  | some ad =>
    have hby2 : (l.length + m) * bytes ≤ 140737488355328 := Nat.le_trans (Nat.mul_le_mul hb hby) (by omega)
    obtain ⟨v', w', r1, r2, r3, _⟩ := run_append_own w base S ty T i z k bytes hS hi hz0 hz1 hz2 hzc hk v l.length (flatE E l) hown ad m c (flatE E r) (by rw [flatE_length, hm]) (h.hnews hk) (flatE_one r) (by unfold maxLen; omega) hby2 hbase
    refine ⟨v', w', r1, ?_, r3⟩
    unfold Ok
    rw [flatE_append, List.length_append, hm]
    exact r2
theorem wpList_append_dk {w : World} {ops : Array Oper} {rest : List Oper} {o : Oper} {a : Act} {Q : Exit → Act → World → Prop} (hgd : o.guard = none) (s x : Operand) (S T : TypeId)
    (ho : o.op = .call { callee := .builtin .append, args := #[s, x], argTypes := #[S, S] }) (hS : Tryz.prog.underlying S = some (.slice T)) (base : Nat) (i : TypeInfo) (z : Value) (bytes : Nat) (hi : Tryz.prog.info? T = some i) (hz0 : i.zero = some z) (hz1 : i.size = k) (hz2 : i.bytes = bytes) (hzc : z.cells.size = k) (hk : 0 < k) (hby : bytes ≤ 1000)
    (v : Value) (l : List α) (hs : a.eval s = v) (hown : Ok E T w base v l) (ad : Option Addr) (m c : Nat) (r : List α) (hx : a.eval x = .slice ad m c) (h : Dk E w ad m c r) (hb : l.length + m ≤ 1000000000) (hbase : base ≤ w.heap.size)
    (hK : ∀ v' w', Ok E T w' base v' (l ++ r) → w.grownBy w' v.ownBlock → wpList Tryz.prog ops Q rest (a.put o.dst v') w') : wpList Tryz.prog ops Q (o :: rest) a w := by
  refine wpList_plain hgd fun K hK' => ?_
  obtain ⟨v', w', hr, h2, h3⟩ := run_append_dk w base S T o.type hS i z bytes hi hz0 hz1 hz2 hzc hk hby v l hown ad m c r h hb hbase
  unfold Oper.wp
  simp [execOp, ho, resolve, invoke, builtin, hs, hx, hr, Result.andThen]
  exact hK' _ _ (hK v' w' h2 h3)
/-- One element, laid in a block of its own. -/
theorem Dk.one (w : World) (p : α) (T : TypeId) (n : Nat) (hn : n = w.heap.size) : Dk E (w.alloc (.cells (E.enc p).toArray T)) (some ⟨n, 0, none⟩) 1 1 [p] := by
  subst hn
  refine ⟨rfl, Nat.le_refl _, by omega, .inr ⟨_, _, rfl, by simp, fun j q hq c v hv => ?_⟩⟩
  match j, hq with
  | 0, hq =>
    cases hq
    rw [Nat.zero_mul, Nat.zero_add, Nat.zero_add]
    have := heap_alloc_new w (.cells (E.enc p).toArray T)
    unfold World.cell?
    rw [this]
    simpa using hv
  | j + 1, hq => simp at hq
end Go.Proofs.YtfjpbkmnlmecgaaGreatDoor
end

section
/- Rows of rules in memory. -/
namespace Go.Proofs.YtfjpbkmnlmecgaaGreatDoor.Ru
open Go.RowKit Go.PlainAid Go.Proofs.YtfjpbkmnlmecgaaGreatDoor Go.Proofs.YtfjpbkmnlmecgaaGreatDoor.Bz
set_option linter.unusedVariables false
set_option linter.unusedSimpArgs false
set_option maxHeartbeats 1000000

/-- A rule's cells. -/
structure Hr where
  rv : Bool
  ad : Int
  tg : Int
  a1 : Option Addr
  n1 : Nat
  c1 : Nat
  a2 : Option Addr
  n2 : Nat
  c2 : Nat
  a3 : Option Addr
  n3 : Nat
  c3 : Nat
  lg : Int
def hrL (h : Hr) : List Value := [.bool h.rv, .int .i64 h.ad, .int .i64 h.tg, .slice h.a1 h.n1 h.c1, .slice h.a2 h.n2 h.c2, .slice h.a3 h.n3 h.c3, .int .i64 h.lg]
def hrE : Enc Hr 7 := ⟨hrL, fun _ => rfl, fun h u hu => by
  unfold hrL at hu
  simp only [List.mem_cons, List.not_mem_nil, or_false] at hu
  rcases hu with rfl | rfl | rfl | rfl | rfl | rfl | rfl <;> rfl⟩
theorem infoRule : (Tryz.prog.info? 46).map (fun i => (i.zero, i.size, i.bytes)) = some (some (.agg #[.bool false, .int .i64 0, .int .i64 0, .slice none 0 0, .slice none 0 0, .slice none 0 0, .int .i64 0]), 7, 104) := by kernel_rfl
/-- The cells are a rule whose sets lie behind N. -/
def Rw (N : Nat) (w : World) (h : Hr) (r : Rl) : Prop :=
  h.rv = r.revoke ∧ h.ad = r.admin ∧ h.tg = r.target ∧ Bq N w h.a1 h.n1 h.c1 r.yes ∧ Bq N w h.a2 h.n2 h.c2 r.no ∧ Dy.Dn N w h.a3 h.n3 h.c3 r.days ∧ h.lg = r.longest ∧ Dy.Can r.days
theorem Bq.mono {N M : Nat} {w : World} {a : Option Addr} {n cap : Nat} {l : List Nat} (h : Bq N w a n cap l) (hn : M ≤ N) : Bq M w a n cap l := ⟨h.1, fun p hp => Nat.le_trans hn (h.2 p hp)⟩
theorem Rw.mono {N M : Nat} {w : World} {h : Hr} {r : Rl} (k : Rw N w h r) (hn : M ≤ N) : Rw M w h r :=
  ⟨k.1, k.2.1, k.2.2.1, k.2.2.2.1.mono hn, k.2.2.2.2.1.mono hn, k.2.2.2.2.2.1.mono hn, k.2.2.2.2.2.2⟩
theorem Rw.below {N : Nat} {w w' : World} {h : Hr} {r : Rl} (k : Rw N w h r) (hb : Below w.heap.size w w') : Rw N w' h r :=
  ⟨k.1, k.2.1, k.2.2.1, k.2.2.2.1.below hb, k.2.2.2.2.1.below hb, k.2.2.2.2.2.1.below hb, k.2.2.2.2.2.2⟩
theorem Dn_read {N g : Nat} {w w' : World} {a : Option Addr} {n cap : Nat} {l : List (Int × Int)} (h : Dy.Dn N w a n cap l) (hg : w.grownBy w' (some g)) (hn : g < N) : Dy.Dn N w' a n cap l :=
  h.grown hg fun p hp e => by have := (h.2 p hp).1; injection e with e; omega
theorem Rw.read {N g : Nat} {w w' : World} {h : Hr} {r : Rl} (k : Rw N w h r) (hg : w.grownBy w' (some g)) (hn : g < N) : Rw N w' h r :=
  ⟨k.1, k.2.1, k.2.2.1, k.2.2.2.1.read hg hn, k.2.2.2.2.1.read hg hn, Dn_read k.2.2.2.2.2.1 hg hn, k.2.2.2.2.2.2⟩
/-- Block r holds neither words nor spans. -/
def Far (w : World) (r : Nat) : Prop := (¬ ∃ cs fz, w.heap[r]? = some (.cells cs 29 fz)) ∧ ¬ ∃ cs fz, w.heap[r]? = some (.cells cs 158 fz)
theorem Bq.far {N : Nat} {w w' : World} {a : Option Addr} {n cap : Nat} {l : List Nat} {row : Option Nat} (h : Bq N w a n cap l) (hg : w.grownBy w' row) (hr : ∀ r, row = some r → Far w r) : Bq N w' a n cap l := by
  refine ⟨Bs_grown2 h.1 hg fun p hp e => ?_, h.2⟩
  obtain ⟨ws, ⟨_, _, _, h4⟩, _⟩ := h.1
  rcases h4 with ⟨h4, _⟩ | ⟨b, o, h4, ⟨hb, ht⟩, _⟩
  · rw [h4] at hp; cases hp
  · rw [h4] at hp; injection hp with hp; subst hp
    exact (hr _ e.symm).1 ht
theorem Dn_far {N : Nat} {w w' : World} {a : Option Addr} {n cap : Nat} {l : List (Int × Int)} {row : Option Nat} (h : Dy.Dn N w a n cap l) (hg : w.grownBy w' row) (hr : ∀ r, row = some r → Far w r) : Dy.Dn N w' a n cap l :=
  h.grown hg fun p hp e => (hr _ e.symm).2 (h.2 p hp).2.2
theorem Rw.far {N : Nat} {w w' : World} {h : Hr} {r : Rl} {row : Option Nat} (k : Rw N w h r) (hg : w.grownBy w' row) (hr : ∀ r, row = some r → Far w r) : Rw N w' h r :=
  ⟨k.1, k.2.1, k.2.2.1, k.2.2.2.1.far hg hr, k.2.2.2.2.1.far hg hr, Dn_far k.2.2.2.2.2.1 hg hr, k.2.2.2.2.2.2⟩
theorem owns_type {w : World} {base : Nat} {e T : TypeId} {size n : Nat} {v : Value} {xs : List Value} (h : w.ownsRow base e size v n xs) (hT : e ≠ T) : ∀ r, v.ownBlock = some r → ¬ ∃ cs fz, w.heap[r]? = some (.cells cs T fz) := by
  intro r hr
  rintro ⟨cs, fz, hh⟩
  rcases h.2 with ⟨rfl, _⟩ | ⟨g, cap, cur, rfl, _, h2, _⟩
  · cases hr
  · simp only [Value.ownBlock, Option.some.injEq] at hr
    subst hr
    rw [hh] at h2
    injection h2 with h2
    injection h2 with _ h2 _
    exact hT h2.symm
theorem own_far {w : World} {base : Nat} {size n : Nat} {v : Value} {xs : List Value} {e : TypeId} (h : w.ownsRow base e size v n xs) (h1 : e ≠ 29) (h2 : e ≠ 158) : ∀ r, v.ownBlock = some r → Far w r :=
  fun r hr => ⟨owns_type h h1 r hr, owns_type h h2 r hr⟩
theorem type_far {w : World} {r : Nat} {cs : Array Value} {e : TypeId} {fz : Nat × Nat} (h : w.heap[r]? = some (.cells cs e fz)) (h1 : e ≠ 29) (h2 : e ≠ 158) : Far w r := by
  constructor
  · rintro ⟨cs', fz', k⟩
    rw [h] at k; injection k with k; injection k with _ k _; exact h1 k
  · rintro ⟨cs', fz', k⟩
    rw [h] at k; injection k with k; injection k with _ k _; exact h2 k
/-- All rules of a list. -/
def AllR (N : Nat) (w : World) (hs : List Hr) (l : List Rl) : Prop := hs.length = l.length ∧ ∀ (j : Nat) h x, hs[j]? = some h → l[j]? = some x → Rw N w h x
theorem AllR.below {N : Nat} {w w' : World} {hs : List Hr} {l : List Rl} (h : AllR N w hs l) (hb : Below w.heap.size w w') : AllR N w' hs l := ⟨h.1, fun j k x hk hx => (h.2 j k x hk hx).below hb⟩
theorem AllR.mono {N M : Nat} {w : World} {hs : List Hr} {l : List Rl} (h : AllR N w hs l) (hn : M ≤ N) : AllR M w hs l := ⟨h.1, fun j k x hk hx => (h.2 j k x hk hx).mono hn⟩
theorem AllR.nil (N : Nat) (w : World) : AllR N w [] [] := ⟨rfl, fun j h x hk => by simp at hk⟩
theorem AllR.read {N g : Nat} {w w' : World} {hs : List Hr} {l : List Rl} (h : AllR N w hs l) (hg : w.grownBy w' (some g)) (hn : g < N) : AllR N w' hs l := ⟨h.1, fun j k x hk hx => (h.2 j k x hk hx).read hg hn⟩
theorem AllR.far {N : Nat} {w w' : World} {hs : List Hr} {l : List Rl} {row : Option Nat} (h : AllR N w hs l) (hg : w.grownBy w' row) (hr : ∀ r, row = some r → Far w r) : AllR N w' hs l := ⟨h.1, fun j k x hk hx => (h.2 j k x hk hx).far hg hr⟩
theorem AllR.snoc {N : Nat} {w : World} {hs : List Hr} {l : List Rl} {h : Hr} {r : Rl} (k : AllR N w hs l) (hr : Rw N w h r) : AllR N w (hs ++ [h]) (l ++ [r]) := by
  refine ⟨by rw [List.length_append, List.length_append, k.1]; rfl, fun j g x hg hx => ?_⟩
  by_cases hj : j < hs.length
  · rw [List.getElem?_append_left hj] at hg
    rw [List.getElem?_append_left (by rw [← k.1]; exact hj)] at hx
    exact k.2 j g x hg hx
  · rw [List.getElem?_append_right (by omega)] at hg
    rw [List.getElem?_append_right (by rw [← k.1]; omega), ← k.1] at hx
    obtain ⟨i, hi⟩ : ∃ i, j - hs.length = i := ⟨_, rfl⟩
    rw [hi] at hg hx
    match i, hg, hx with
    | 0, hg, hx => cases hg; cases hx; exact hr
    | i + 1, hg, hx => simp at hg
/-- The slice (a, n, cap) holds the rules l. -/
def Rs (N : Nat) (w : World) (a : Option Addr) (n cap : Nat) (l : List Rl) : Prop := ∃ hs, Dk hrE w a n cap hs ∧ AllR N w hs l
theorem Rs.below {N : Nat} {w w' : World} {a : Option Addr} {n cap : Nat} {l : List Rl} (h : Rs N w a n cap l) (hb : Below w.heap.size w w') : Rs N w' a n cap l := by
  obtain ⟨hs, h1, h2⟩ := h
  exact ⟨hs, h1.below hb, h2.below hb⟩
theorem Rs.nil (N : Nat) (w : World) : Rs N w none 0 0 [] := ⟨[], Dk.nil _ _ _ _ (by omega), AllR.nil _ _⟩
theorem Rs.len {N : Nat} {w : World} {a : Option Addr} {n cap : Nat} {l : List Rl} (h : Rs N w a n cap l) : n = l.length := by
  obtain ⟨hs, h1, h2⟩ := h
  rw [← h2.1, h1.1]
end Go.Proofs.YtfjpbkmnlmecgaaGreatDoor.Ru
end

section
/- Cubes in plain words: what the functions of the package compute; Minus takes apart. No program in sight. -/
namespace Go.Proofs.YtfjpbkmnlmecgaaGreatDoor.Bz
open Go.RowKit Go.PlainAid
set_option linter.unusedVariables false

/-- A cube: the numbers that must be there, and those that must not. -/
abbrev Cu := List Nat × List Nat
def CuOk (c : Cu) : Prop := Asc c.1 ∧ Asc c.2
def meetB (l r : List Nat) : Bool := decide (∃ x ∈ l, x ∈ r)
def subB (l r : List Nat) : Bool := decide (∀ x ∈ l, x ∈ r)
def emptyC (c : Cu) : Bool := meetB c.1 c.2
def holdsC (c : Cu) (s : List Nat) : Bool := subB c.1 s && !meetB c.2 s
def someC (l : List Cu) (s : List Nat) : Bool := l.any fun c => holdsC c s
def withinC (a b : Cu) : Bool := emptyC a || (subB b.1 a.1 && subB b.2 a.2)
def bothC (a b : Cu) : Cu := (orL a.1 b.1, orL a.2 b.2)
def minusGo (b : Cu) (st : Cu × List Cu) (r : Nat) : Cu × List Cu :=
  if decide (r ∈ b.1) && !decide (r ∈ st.1.1) then ((withL st.1.1 r, st.1.2), st.2 ++ [(st.1.1, withL st.1.2 r)])
  else if decide (r ∈ b.2) && !decide (r ∈ st.1.2) then ((st.1.1, withL st.1.2 r), st.2 ++ [(withL st.1.1 r, st.1.2)])
  else st
def minusC (a b : Cu) : List Cu :=
  if emptyC a then [] else if emptyC (bothC a b) then [a] else ((orL b.1 b.2).foldl (minusGo b) (a, [])).2
/-- The list behind the first cubes of a list, and whether the limit was passed. -/
def splitGo : List Cu → List Cu → Option (List Cu)
  | out, [] => some out
  | out, b :: l => if 2000 < (out.flatMap fun x => minusC x b).length then none else splitGo (out.flatMap fun x => minusC x b) l
def splitC (c : Cu) (l : List Cu) : Option (List Cu) := splitGo (if emptyC c then [] else [c]) l
/-- Covered, as it is computed. -/
def coveredC : List Cu → Cu → Bool
  | [], c => emptyC c
  | b :: l, c => emptyC c || (if emptyC (bothC c b) then coveredC l c else (minusC c b).all fun x => coveredC l x)

theorem meetB_iff {l r : List Nat} : meetB l r = true ↔ ∃ x ∈ l, x ∈ r := decide_eq_true_iff
theorem meetB_not {l r : List Nat} : meetB l r = false ↔ ∀ x ∈ l, x ∉ r := by
  unfold meetB; rw [decide_eq_false_iff_not]; simp
theorem subB_iff {l r : List Nat} : subB l r = true ↔ ∀ x ∈ l, x ∈ r := decide_eq_true_iff
theorem mem_or {l r : List Nat} {x : Nat} : x ∈ orL l r ↔ x < 4096 ∧ (x ∈ l ∨ x ∈ r) := by unfold orL; simp
theorem mem_with {l : List Nat} {r x : Nat} (hr : r < 4096) (hl : Asc l) : x ∈ withL l r ↔ x ∈ l ∨ x = r := by
  unfold withL
  rw [if_pos (by omega)]
  simp only [List.mem_filter, List.mem_range, Bool.or_eq_true, decide_eq_true_eq, Int.toNat_natCast]
  constructor
  · exact fun h => h.2
  · rintro (h | rfl)
    · exact ⟨hl.2 x h, .inl h⟩
    · exact ⟨hr, .inr rfl⟩
theorem asc_with {l : List Nat} {r : Nat} (hl : Asc l) : Asc (withL l r) := by
  unfold withL
  split
  · exact ⟨(pw_range 4096).filter _, fun x hx => List.mem_range.1 (List.mem_filter.1 hx).1⟩
  · exact hl
theorem asc_or (l r : List Nat) : Asc (orL l r) := ⟨(pw_range 4096).filter _, fun x hx => (mem_or.1 hx).1⟩
theorem both1 (a b : Cu) : (bothC a b).1 = orL a.1 b.1 := by simp only [bothC]
theorem both2 (a b : Cu) : (bothC a b).2 = orL a.2 b.2 := by simp only [bothC]
theorem bothC_ok (a b : Cu) : CuOk (bothC a b) := ⟨by rw [both1]; exact asc_or _ _, by rw [both2]; exact asc_or _ _⟩
theorem mem_b1 {a b : Cu} {x : Nat} : x ∈ (bothC a b).1 ↔ x < 4096 ∧ (x ∈ a.1 ∨ x ∈ b.1) := by rw [both1, mem_or]
theorem mem_b2 {a b : Cu} {x : Nat} : x ∈ (bothC a b).2 ↔ x < 4096 ∧ (x ∈ a.2 ∨ x ∈ b.2) := by rw [both2, mem_or]

/-- The set S satisfies c. -/
def sat (c : Cu) (S : Nat → Bool) : Bool := c.1.all S && c.2.all fun x => !S x
theorem sat_iff {c : Cu} {S : Nat → Bool} : sat c S = true ↔ (∀ x ∈ c.1, S x = true) ∧ ∀ x ∈ c.2, S x = false := by
  unfold sat; simp
theorem sat_holds (c : Cu) (s : List Nat) : holdsC c s = sat c (fun x => decide (x ∈ s)) := by
  rw [Bool.eq_iff_iff, sat_iff]
  unfold holdsC
  rw [Bool.and_eq_true, subB_iff, Bool.not_eq_true', meetB_not]
  simp
def sats (l : List Cu) (S : Nat → Bool) : Bool := l.any fun c => sat c S
/-- How many cubes of a list a set satisfies. -/
def cnt (l : List Cu) (S : Nat → Bool) : Nat := (l.filter fun c => sat c S).length
theorem cnt_append (l r : List Cu) (S : Nat → Bool) : cnt (l ++ r) S = cnt l S + cnt r S := by unfold cnt; simp
theorem cnt_cons (c : Cu) (l : List Cu) (S : Nat → Bool) : cnt (c :: l) S = (if sat c S then 1 else 0) + cnt l S := by
  unfold cnt; rw [List.filter_cons]; split <;> simp <;> omega
theorem cnt_nil (S : Nat → Bool) : cnt [] S = 0 := rfl
theorem cnt_pos {l : List Cu} {S : Nat → Bool} : 0 < cnt l S ↔ sats l S = true := by
  unfold cnt sats
  rw [List.length_pos_iff_exists_mem, List.any_eq_true]
  constructor
  · rintro ⟨c, hc⟩; exact ⟨c, (List.mem_filter.1 hc).1, (List.mem_filter.1 hc).2⟩
  · rintro ⟨c, h1, h2⟩; exact ⟨c, List.mem_filter.2 ⟨h1, h2⟩⟩
/-- c says at least what a says. -/
def Fin (a c : Cu) : Prop := (∀ x ∈ a.1, x ∈ c.1) ∧ ∀ x ∈ a.2, x ∈ c.2
theorem Fin.refl (a : Cu) : Fin a a := ⟨fun _ h => h, fun _ h => h⟩
theorem Fin.trans {a b c : Cu} (h : Fin a b) (k : Fin b c) : Fin a c := ⟨fun x hx => k.1 x (h.1 x hx), fun x hx => k.2 x (h.2 x hx)⟩
theorem Fin.sat {a c : Cu} (h : Fin a c) {S : Nat → Bool} (hs : sat c S = true) : sat a S = true := by
  rw [sat_iff] at *
  exact ⟨fun x hx => hs.1 x (h.1 x hx), fun x hx => hs.2 x (h.2 x hx)⟩
theorem Fin.empty {a c : Cu} (h : Fin a c) (he : emptyC c = false) : emptyC a = false := by
  unfold emptyC at *
  rw [meetB_not] at *
  exact fun x hx hx2 => he x (h.1 x hx) (h.2 x hx2)
theorem Fin.within {a c : Cu} (h : Fin a c) : withinC c a = true := by
  unfold withinC
  rw [Bool.or_eq_true, Bool.and_eq_true, subB_iff, subB_iff]
  exact .inr h
theorem nonempty_sat {c : Cu} (h : emptyC c = false) : sat c (fun x => decide (x ∈ c.1)) = true := by
  rw [sat_iff]
  unfold emptyC at h
  rw [meetB_not] at h
  exact ⟨fun x hx => by simpa using hx, fun x hx => by simpa using fun hx1 => h x hx1 hx⟩
theorem empty_sat {c : Cu} (h : emptyC c = true) (S : Nat → Bool) : sat c S = false := by
  rw [← Bool.not_eq_true, sat_iff]
  unfold emptyC at h
  obtain ⟨x, h1, h2⟩ := meetB_iff.1 h
  rintro ⟨a, b⟩
  have := a x h1
  rw [b x h2] at this; cases this

/-- What Minus keeps from literal to literal: a is c with some literals of b, out are the cubes so far. -/
structure MinI (c b : Cu) (done : List Nat) (st : Cu × List Cu) : Prop where
  ok : CuOk st.1
  more : Fin c st.1
  less : Fin st.1 (bothC c b)
  has : ∀ r ∈ done, (r ∈ b.1 → r ∈ st.1.1) ∧ (r ∈ b.2 → r ∈ st.1.2)
  outs : ∀ x ∈ st.2, CuOk x ∧ emptyC x = false ∧ Fin c x
  count : ∀ S, cnt st.2 S = if sat c S && !sat st.1 S then 1 else 0
theorem MinI.start {c b : Cu} (hc : CuOk c) : MinI c b [] (c, []) where
  ok := hc
  more := Fin.refl c
  less := ⟨fun x hx => mem_b1.2 ⟨hc.1.2 x hx, .inl hx⟩, fun x hx => mem_b2.2 ⟨hc.2.2 x hx, .inl hx⟩⟩
  has := fun r hr => (by cases hr)
  outs := fun x hx => (by cases hx)
  count := fun S => by rw [cnt_nil]; cases sat c S <;> rfl
theorem MinI.step {c b : Cu} {done : List Nat} {st : Cu × List Cu} {r : Nat} (hb : CuOk b) (hn : emptyC (bothC c b) = false) (h : MinI c b done st) (hr : r ∈ b.1 ∨ r ∈ b.2) : MinI c b (done ++ [r]) (minusGo b st r) := by
  have hr4 : r < 4096 := by rcases hr with hr | hr; exact hb.1.2 r hr; exact hb.2.2 r hr
  obtain ⟨a, out⟩ := st
  have hok := h.ok
  have hne := h.less.empty hn
  have hdis := hn
  unfold emptyC at hdis
  rw [meetB_not] at hdis
  dsimp only at hok hne
  have hw1 : ∀ x, x ∈ withL a.1 r ↔ x ∈ a.1 ∨ x = r := fun x => mem_with hr4 hok.1
  have hw2 : ∀ x, x ∈ withL a.2 r ↔ x ∈ a.2 ∨ x = r := fun x => mem_with hr4 hok.2
  have hs1 : ∀ S, sat (withL a.1 r, a.2) S = (sat a S && S r) := fun S => by
    rw [Bool.eq_iff_iff, Bool.and_eq_true, sat_iff, sat_iff]
    constructor
    · rintro ⟨x1, x2⟩
      exact ⟨⟨fun x hx => x1 x ((hw1 x).2 (.inl hx)), x2⟩, x1 r ((hw1 r).2 (.inr rfl))⟩
    · rintro ⟨⟨x1, x2⟩, x3⟩
      refine ⟨fun x hx => ?_, x2⟩
      rcases (hw1 x).1 hx with hx | rfl
      · exact x1 x hx
      · exact x3
  have hs2 : ∀ S, sat (a.1, withL a.2 r) S = (sat a S && !S r) := fun S => by
    rw [Bool.eq_iff_iff, Bool.and_eq_true, sat_iff, sat_iff, Bool.not_eq_true']
    constructor
    · rintro ⟨x1, x2⟩
      exact ⟨⟨x1, fun x hx => x2 x ((hw2 x).2 (.inl hx))⟩, x2 r ((hw2 r).2 (.inr rfl))⟩
    · rintro ⟨⟨x1, x2⟩, x3⟩
      refine ⟨x1, fun x hx => ?_⟩
      rcases (hw2 x).1 hx with hx | rfl
      · exact x2 x hx
      · exact x3
  have hca : ∀ S, sat a S = true → sat c S = true := fun S hS => h.more.sat hS
  have hcount := h.count
  dsimp only at hcount
  unfold minusGo
  by_cases c1 : r ∈ b.1 ∧ r ∉ a.1
  · have e1 : (decide (r ∈ b.1) && !decide (r ∈ a.1)) = true := by simp [c1]
    dsimp only
    rw [if_pos e1]
    have hb2 : r ∉ b.2 := fun hx => hdis r (mem_b1.2 ⟨hr4, .inr c1.1⟩) (mem_b2.2 ⟨hr4, .inr hx⟩)
    refine ⟨⟨asc_with hok.1, hok.2⟩, ⟨fun x hx => (hw1 x).2 (.inl (h.more.1 x hx)), h.more.2⟩, ⟨fun x hx => ?_, h.less.2⟩, fun x hx => ?_, fun x hx => ?_, fun S => ?_⟩
    · rcases (hw1 x).1 hx with hx | rfl
      · exact h.less.1 x hx
      · exact mem_b1.2 ⟨hr4, .inr c1.1⟩
    · rcases List.mem_append.1 hx with hx | hx
      · exact ⟨fun hb1 => (hw1 x).2 (.inl ((h.has x hx).1 hb1)), (h.has x hx).2⟩
      · rw [List.mem_singleton] at hx
        subst hx
        exact ⟨fun _ => (hw1 x).2 (.inr rfl), fun hx => absurd hx hb2⟩
    · rcases List.mem_append.1 hx with hx | hx
      · exact h.outs x hx
      · rw [List.mem_singleton] at hx
        subst hx
        refine ⟨⟨hok.1, asc_with hok.2⟩, ?_, ⟨h.more.1, fun x hx => (hw2 x).2 (.inl (h.more.2 x hx))⟩⟩
        unfold emptyC at hne ⊢
        rw [meetB_not] at hne ⊢
        intro x hx hx2
        rcases (hw2 x).1 hx2 with hx2 | rfl
        · exact hne x hx hx2
        · exact c1.2 hx
    · dsimp only
      rw [cnt_append, hcount, cnt_cons, cnt_nil, hs1, hs2]
      have hca' := hca S
      generalize sat a S = p at hca' ⊢
      generalize sat c S = q at hca' ⊢
      generalize S r = t
      revert hca'
      cases p <;> cases q <;> cases t <;> decide
  · have e1 : (decide (r ∈ b.1) && !decide (r ∈ a.1)) = false := by
      rw [← Bool.not_eq_true]; simpa using c1
    dsimp only
    rw [if_neg (by rw [e1]; decide)]
    have hb1a : r ∈ b.1 → r ∈ a.1 := fun hx => by
      by_cases ha : r ∈ a.1
      · exact ha
      · exact absurd ⟨hx, ha⟩ c1
    by_cases c2 : r ∈ b.2 ∧ r ∉ a.2
    · have e2 : (decide (r ∈ b.2) && !decide (r ∈ a.2)) = true := by simp [c2]
      rw [if_pos e2]
      refine ⟨⟨hok.1, asc_with hok.2⟩, ⟨h.more.1, fun x hx => (hw2 x).2 (.inl (h.more.2 x hx))⟩, ⟨h.less.1, fun x hx => ?_⟩, fun x hx => ?_, fun x hx => ?_, fun S => ?_⟩
      · rcases (hw2 x).1 hx with hx | rfl
        · exact h.less.2 x hx
        · exact mem_b2.2 ⟨hr4, .inr c2.1⟩
      · rcases List.mem_append.1 hx with hx | hx
        · exact ⟨(h.has x hx).1, fun hb1 => (hw2 x).2 (.inl ((h.has x hx).2 hb1))⟩
        · rw [List.mem_singleton] at hx
          subst hx
          exact ⟨hb1a, fun _ => (hw2 x).2 (.inr rfl)⟩
      · rcases List.mem_append.1 hx with hx | hx
        · exact h.outs x hx
        · rw [List.mem_singleton] at hx
          subst hx
          refine ⟨⟨asc_with hok.1, hok.2⟩, ?_, ⟨fun x hx => (hw1 x).2 (.inl (h.more.1 x hx)), h.more.2⟩⟩
          unfold emptyC at hne ⊢
          rw [meetB_not] at hne ⊢
          intro x hx hx2
          rcases (hw1 x).1 hx with hx | rfl
          · exact hne x hx hx2
          · exact c2.2 hx2
      · dsimp only
        rw [cnt_append, hcount, cnt_cons, cnt_nil, hs1, hs2]
        have hca' := hca S
        generalize sat a S = p at hca' ⊢
        generalize sat c S = q at hca' ⊢
        generalize S r = t
        revert hca'
        cases p <;> cases q <;> cases t <;> decide
    · have e2 : (decide (r ∈ b.2) && !decide (r ∈ a.2)) = false := by
        rw [← Bool.not_eq_true]; simpa using c2
      rw [if_neg (by rw [e2]; decide)]
      refine ⟨h.ok, h.more, h.less, fun x hx => ?_, h.outs, h.count⟩
      rcases List.mem_append.1 hx with hx | hx
      · exact h.has x hx
      · rw [List.mem_singleton] at hx
        subst hx
        refine ⟨hb1a, fun hx => ?_⟩
        by_cases ha : x ∈ a.2
        · exact ha
        · exact absurd ⟨hx, ha⟩ c2
theorem MinI.fold {c b : Cu} (hb : CuOk b) (hn : emptyC (bothC c b) = false) : ∀ (l done : List Nat) (st : Cu × List Cu), MinI c b done st → (∀ r ∈ l, r ∈ b.1 ∨ r ∈ b.2) → MinI c b (done ++ l) (l.foldl (minusGo b) st)
  | [], done, st, h, _ => by simpa using h
  | r :: l, done, st, h, hl => by
    have := MinI.fold hb hn l (done ++ [r]) _ (h.step hb hn (hl r (by simp))) (fun x hx => hl x (by simp [hx]))
    simpa using this
/-- Minus: each cube says more than c and is not empty; each set satisfies one of them exactly if it satisfies c and not b. -/
theorem minus_law {c b : Cu} (hc : CuOk c) (hb : CuOk b) : (∀ x ∈ minusC c b, CuOk x ∧ emptyC x = false ∧ Fin c x) ∧ ∀ S, cnt (minusC c b) S = if sat c S && !sat b S then 1 else 0 := by
  unfold minusC
  cases he : emptyC c with
  | true =>
    rw [if_pos rfl]
    refine ⟨fun x hx => by simp at hx, fun S => ?_⟩
    rw [cnt_nil, empty_sat he]; rfl
  | false =>
    rw [if_neg (by decide)]
    cases hn : emptyC (bothC c b) with
    | true =>
      rw [if_pos rfl]
      refine ⟨fun x hx => ?_, fun S => ?_⟩
      · rw [List.mem_singleton] at hx
        subst hx
        exact ⟨hc, he, Fin.refl _⟩
      · rw [cnt_cons, cnt_nil]
        have h := empty_sat hn S
        have h2 : sat (bothC c b) S = (sat c S && sat b S) := by
          rw [Bool.eq_iff_iff, Bool.and_eq_true, sat_iff, sat_iff, sat_iff]
          unfold bothC
          simp only [mem_or]
          constructor
          · rintro ⟨x1, x2⟩
            exact ⟨⟨fun x hx => x1 x ⟨hc.1.2 x hx, .inl hx⟩, fun x hx => x2 x ⟨hc.2.2 x hx, .inl hx⟩⟩, fun x hx => x1 x ⟨hb.1.2 x hx, .inr hx⟩, fun x hx => x2 x ⟨hb.2.2 x hx, .inr hx⟩⟩
          · rintro ⟨⟨x1, x2⟩, x3, x4⟩
            exact ⟨fun x hx => hx.2.elim (x1 x) (x3 x), fun x hx => hx.2.elim (x2 x) (x4 x)⟩
        rw [h] at h2
        revert h2
        generalize sat c S = p
        generalize sat b S = q
        cases p <;> cases q <;> decide
    | false =>
      rw [if_neg (by decide)]
      have h := MinI.fold hb hn (orL b.1 b.2) [] (c, []) (MinI.start hc) (fun r hr => (mem_or.1 hr).2)
      refine ⟨h.outs, fun S => ?_⟩
      rw [h.count S]
      have e : sat ((orL b.1 b.2).foldl (minusGo b) (c, [])).1 S = (sat c S && sat b S) := by
        rw [Bool.eq_iff_iff, Bool.and_eq_true]
        constructor
        · intro hs
          refine ⟨h.more.sat hs, ?_⟩
          rw [sat_iff] at hs ⊢
          exact ⟨fun x hx => hs.1 x ((h.has x (List.mem_append_right [] (mem_or.2 ⟨hb.1.2 x hx, .inl hx⟩))).1 hx), fun x hx => hs.2 x ((h.has x (List.mem_append_right [] (mem_or.2 ⟨hb.2.2 x hx, .inr hx⟩))).2 hx)⟩
        · rintro ⟨h1, h2⟩
          rw [sat_iff] at h1 h2 ⊢
          refine ⟨fun x hx => ?_, fun x hx => ?_⟩
          · rcases (mem_b1.1 (h.less.1 x hx)).2 with hx | hx
            · exact h1.1 x hx
            · exact h2.1 x hx
          · rcases (mem_b2.1 (h.less.2 x hx)).2 with hx | hx
            · exact h1.2 x hx
            · exact h2.2 x hx
      rw [e]
      cases sat c S <;> cases sat b S <;> rfl
/-- Minus of a list of cubes, one after the other. -/
theorem flat_law {l : List Cu} {b c : Cu} (hl : ∀ x ∈ l, CuOk x ∧ emptyC x = false ∧ Fin c x) (hb : CuOk b) : (∀ x ∈ l.flatMap fun x => minusC x b, CuOk x ∧ emptyC x = false ∧ Fin c x) ∧ ∀ S, cnt (l.flatMap fun x => minusC x b) S = if sat b S then 0 else cnt l S := by
  induction l with
  | nil => exact ⟨fun x hx => by simp at hx, fun S => by simp [cnt_nil]⟩
  | cons y l ih =>
    obtain ⟨h1, h2⟩ := ih (fun x hx => hl x (by simp [hx]))
    have hy := hl y (by simp)
    obtain ⟨m1, m2⟩ := minus_law hy.1 hb
    rw [List.flatMap_cons]
    refine ⟨fun x hx => ?_, fun S => ?_⟩
    · rcases List.mem_append.1 hx with hx | hx
      · obtain ⟨a1, a2, a3⟩ := m1 x hx
        exact ⟨a1, a2, hy.2.2.trans a3⟩
      · exact h1 x hx
    · rw [cnt_append, m2 S, h2 S, cnt_cons]
      cases sat y S <;> cases sat b S <;> simp
theorem splitGo_law {c : Cu} : ∀ (l out got : List Cu), (∀ x ∈ l, CuOk x) → (∀ x ∈ out, CuOk x ∧ emptyC x = false ∧ Fin c x) → splitGo out l = some got →
    (∀ x ∈ got, CuOk x ∧ emptyC x = false ∧ Fin c x) ∧ ∀ S, cnt got S = if sats l S then 0 else cnt out S
  | [], out, got, _, ho, h => by
    cases h
    exact ⟨ho, fun S => rfl⟩
  | b :: l, out, got, hl, ho, h => by
    unfold splitGo at h
    split at h
    · cases h
    · obtain ⟨f1, f2⟩ := flat_law ho (hl b (by simp))
      obtain ⟨g1, g2⟩ := splitGo_law l _ got (fun x hx => hl x (by simp [hx])) f1 h
      refine ⟨g1, fun S => ?_⟩
      rw [g2 S, f2 S]
      unfold sats
      rw [List.any_cons]
      cases sat b S <;> cases (l.any fun c => sat c S) <;> rfl
/-- Split: each set satisfies one of its cubes exactly if it satisfies c and none of the list. -/
theorem split_law {c : Cu} {l got : List Cu} (hc : CuOk c) (hl : ∀ x ∈ l, CuOk x) (h : splitC c l = some got) :
    (∀ x ∈ got, CuOk x ∧ emptyC x = false ∧ Fin c x) ∧ ∀ S, cnt got S = if sat c S && !sats l S then 1 else 0 := by
  unfold splitC at h
  cases he : emptyC c with
  | true =>
    rw [he, if_pos rfl] at h
    obtain ⟨g1, g2⟩ := splitGo_law (c := c) l [] got hl (fun x hx => by simp at hx) h
    refine ⟨g1, fun S => ?_⟩
    rw [g2 S, empty_sat he S, cnt_nil]; simp
  | false =>
    rw [he, if_neg (by decide)] at h
    obtain ⟨g1, g2⟩ := splitGo_law (c := c) l [c] got hl (fun x hx => by rw [List.mem_singleton] at hx; subst hx; exact ⟨hc, he, Fin.refl _⟩) h
    refine ⟨g1, fun S => ?_⟩
    rw [g2 S, cnt_cons, cnt_nil]
    cases sat c S <;> cases sats l S <;> rfl
/-- Covered: all sets that satisfy c satisfy the list. -/
theorem covered_law : ∀ (l : List Cu) (c : Cu), CuOk c → (∀ x ∈ l, CuOk x) → (coveredC l c = true ↔ ∀ S, sat c S = true → sats l S = true)
  | [], c, hc, _ => by
    unfold coveredC
    constructor
    · intro h S hs
      rw [empty_sat h] at hs; cases hs
    · intro h
      cases he : emptyC c with
      | true => rfl
      | false => have := h _ (nonempty_sat he); simp [sats] at this
  | b :: l, c, hc, hl => by
    unfold coveredC
    have hb := hl b (by simp)
    have hl' : ∀ x ∈ l, CuOk x := fun x hx => hl x (by simp [hx])
    obtain ⟨m1, m2⟩ := minus_law hc hb
    cases he : emptyC c with
    | true =>
      simp only [Bool.true_or, true_iff]
      intro S hs
      rw [empty_sat he] at hs; cases hs
    | false =>
      rw [Bool.false_or]
      have key : (∀ S, sat c S = true → sats (b :: l) S = true) ↔ ∀ x ∈ minusC c b, ∀ S, sat x S = true → sats l S = true := by
        constructor
        · intro h x hx S hs
          have h1 := h S ((m1 x hx).2.2.sat hs)
          have h2 : 0 < cnt (minusC c b) S := cnt_pos.2 (List.any_eq_true.2 ⟨x, hx, hs⟩)
          rw [m2 S] at h2
          unfold sats at h1 ⊢
          rw [List.any_cons] at h1
          cases hb2 : sat b S
          · rw [hb2] at h1; simpa using h1
          · rw [hb2] at h2; simp at h2
        · intro h S hs
          unfold sats
          rw [List.any_cons]
          cases hb2 : sat b S
          · have h2 : 0 < cnt (minusC c b) S := by rw [m2 S, hs, hb2]; decide
            obtain ⟨x, hx, hxs⟩ := List.any_eq_true.1 (cnt_pos.1 h2)
            have := h x hx S hxs
            unfold sats at this
            rw [this]; rfl
          · rfl
      rw [key]
      cases hn : emptyC (bothC c b) with
      | true =>
        rw [if_pos rfl, covered_law l c hc hl']
        have : minusC c b = [c] := by unfold minusC; rw [he, hn]; rfl
        rw [this]; simp
      | false =>
        rw [if_neg (by decide), List.all_eq_true]
        constructor
        · intro h x hx
          exact (covered_law l x (m1 x hx).1 hl').1 (h x hx)
        · intro h x hx
          exact (covered_law l x (m1 x hx).1 hl').2 (h x hx)
theorem withinC_iff {a b : Cu} (ha : emptyC a = false) : withinC a b = true ↔ Fin b a := by
  unfold withinC
  rw [ha, Bool.false_or, Bool.and_eq_true, subB_iff, subB_iff]; rfl
/-- Within: all sets that satisfy a satisfy b. -/
theorem within_law {a b : Cu} : withinC a b = true ↔ ∀ S, sat a S = true → sat b S = true := by
  cases he : emptyC a with
  | true =>
    constructor
    · intro _ S hs
      rw [empty_sat he] at hs; cases hs
    · intro _; unfold withinC; rw [he]; rfl
  | false =>
    rw [withinC_iff he]
    constructor
    · exact fun h S hs => h.sat hs
    · intro h
      have h1 := h _ (nonempty_sat he)
      have h2 := h (fun x => !decide (x ∈ a.2)) (by
        rw [sat_iff]
        unfold emptyC at he
        rw [meetB_not] at he
        exact ⟨fun x hx => by simpa using he x hx, fun x hx => by simpa using hx⟩)
      rw [sat_iff] at h1 h2
      exact ⟨fun x hx => by simpa using h1.1 x hx, fun x hx => by simpa using h2.2 x hx⟩
end Go.Proofs.YtfjpbkmnlmecgaaGreatDoor.Bz
end

section
/- Memory of cubes; contracts of Empty, Holds, Within, both, Meet, Compare, Equal. -/
namespace Go.Proofs.YtfjpbkmnlmecgaaGreatDoor.Bz
open Go.RowKit Go.PlainAid
set_option linter.unusedVariables false
set_option linter.unusedSimpArgs false
set_option maxHeartbeats 2000000

/-- The two slices of a cube. -/
structure Hd where
  a : Option Addr
  n : Nat
  c : Nat
  b : Option Addr
  m : Nat
  d : Nat
def hdE : Enc Hd 2 := ⟨fun h => [.slice h.a h.n h.c, .slice h.b h.m h.d], fun _ => rfl, fun h u hu => by
  simp at hu
  rcases hu with rfl | rfl <;> rfl⟩
/-- The slices are the cube's sets. -/
def Cb (w : World) (h : Hd) (x : Cu) : Prop := Bs w h.a h.n h.c x.1 ∧ Bs w h.b h.m h.d x.2
theorem Cb.below {w w' : World} {h : Hd} {x : Cu} (k : Cb w h x) (hb : Below w.heap.size w w') : Cb w' h x := ⟨k.1.below hb, k.2.below hb⟩
theorem Bs.asc' {w : World} {a : Option Addr} {n cap : Nat} {l : List Nat} (h : Bs w a n cap l) : Asc l := by
  obtain ⟨ws, _, hr⟩ := h; exact hr.asc
theorem Cb.ok {w : World} {h : Hd} {x : Cu} (k : Cb w h x) : CuOk x := ⟨k.1.asc', k.2.asc'⟩
theorem Cb.nil (w : World) : Cb w ⟨none, 0, 0, none, 0, 0⟩ ([], []) := ⟨Bs.nil _, Bs.nil _⟩
/-- A cube is returned. -/
def CubePost (w : World) (x : Cu) (e : Ending) (w' : World) : Prop := ∃ a n c b m d, e = .returned (.agg #[.slice a n c, .slice b m d]) ∧ Cb w' ⟨a, n, c, b, m, d⟩ x ∧ Below w.heap.size w w'
def BoolPost (w : World) (t : Bool) (e : Ending) (w' : World) : Prop := e = .returned (.bool t) ∧ Below w.heap.size w w'
def IntPost (w : World) (t : Int) (e : Ending) (w' : World) : Prop := e = .returned (.int .i64 t) ∧ Below w.heap.size w w'

theorem boxC {w wr : World} {x y : Value} {T : TypeId} (h : Below (w.alloc (.cells #[x, y] T)).heap.size (w.alloc (.cells #[x, y] T)) wr) : wr.cell? ⟨w.heap.size, 0, none⟩ = some x ∧ wr.cell? ⟨w.heap.size, 1, none⟩ = some y ∧ w.heap.size < wr.heap.size ∧ Below w.heap.size w wr :=
  ⟨(h.cell (p := ⟨w.heap.size, 0, none⟩) (by simp)).trans (by simp), (h.cell (p := ⟨w.heap.size, 1, none⟩) (by simp)).trans (by simp), by have := h.size; simp at this; omega, bel1 h⟩
theorem bx1 {w W wr : World} {k B : Nat} {x : Value} (hc : W.cell? ⟨k, 0, none⟩ = some x) (hk : k < B) (h : Below B W wr) : wr.cell? ⟨k, 0, none⟩ = some x := (h.cell (p := ⟨k, 0, none⟩) hk).trans hc
/-- Two boxed cubes. -/
theorem boxCC {w wr : World} {x y z u : Value} {T S : TypeId} (h : Below (w.heap.size + 2) ((w.alloc (.cells #[x, y] T)).alloc (.cells #[z, u] S)) wr) :
    wr.cell? ⟨w.heap.size, 0, none⟩ = some x ∧ wr.cell? ⟨w.heap.size, 1, none⟩ = some y ∧ wr.cell? ⟨w.heap.size + 1, 0, none⟩ = some z ∧ wr.cell? ⟨w.heap.size + 1, 1, none⟩ = some u ∧ w.heap.size + 2 ≤ wr.heap.size ∧ Below w.heap.size w wr := by
  have hz := h.size
  simp only [World.size_alloc] at hz
  refine ⟨(h.cell (p := ⟨w.heap.size, 0, none⟩) (show w.heap.size < w.heap.size + 2 by omega)).trans (by simp), (h.cell (p := ⟨w.heap.size, 1, none⟩) (show w.heap.size < w.heap.size + 2 by omega)).trans (by simp),
    (h.cell (p := ⟨w.heap.size + 1, 0, none⟩) (show w.heap.size + 1 < w.heap.size + 2 by omega)).trans ?_, (h.cell (p := ⟨w.heap.size + 1, 1, none⟩) (show w.heap.size + 1 < w.heap.size + 2 by omega)).trans ?_, by omega, bel2 (h.mono (by simp))⟩
  · have := World.size_alloc w (.cells #[x, y] T)
    rw [← this]; simp
  · have := World.size_alloc w (.cells #[x, y] T)
    rw [← this]; simp
/-- A boxed cube and a boxed set. -/
theorem boxCS {w wr : World} {x y z : Value} {T S : TypeId} (h : Below (w.heap.size + 2) ((w.alloc (.cells #[x, y] T)).alloc (.cells #[z] S)) wr) :
    wr.cell? ⟨w.heap.size, 0, none⟩ = some x ∧ wr.cell? ⟨w.heap.size, 1, none⟩ = some y ∧ wr.cell? ⟨w.heap.size + 1, 0, none⟩ = some z ∧ w.heap.size + 2 ≤ wr.heap.size ∧ Below w.heap.size w wr := by
  have hz := h.size
  simp only [World.size_alloc] at hz
  refine ⟨(h.cell (p := ⟨w.heap.size, 0, none⟩) (show w.heap.size < w.heap.size + 2 by omega)).trans (by simp), (h.cell (p := ⟨w.heap.size, 1, none⟩) (show w.heap.size < w.heap.size + 2 by omega)).trans (by simp),
    (h.cell (p := ⟨w.heap.size + 1, 0, none⟩) (show w.heap.size + 1 < w.heap.size + 2 by omega)).trans ?_, by omega, bel2 (h.mono (by simp))⟩
  have := World.size_alloc w (.cells #[x, y] T)
  rw [← this]; simp

theorem meets_c (a b : Option Addr) (n m cap dap : Nat) (l r : List Nat) (w : World) (h : Bs w a n cap l) (k : Bs w b m dap r) :
    Calls Tryz.prog 62 #[.agg #[.slice a n cap], .agg #[.slice b m dap]] w (BoolPost w (meetB l r)) := (meets_any a b n m cap dap l r w h k).mono fun _ _ h => h
theorem within_c (a b : Option Addr) (n m cap dap : Nat) (l r : List Nat) (w : World) (h : Bs w a n cap l) (k : Bs w b m dap r) :
    Calls Tryz.prog 61 #[.agg #[.slice a n cap], .agg #[.slice b m dap]] w (BoolPost w (subB l r)) := (within_any a b n m cap dap l r w h k).mono fun _ _ h => h
def eqL (l r : List Nat) : Bool := decide (l = r)
theorem equal_c (a b : Option Addr) (n m cap dap : Nat) (l r : List Nat) (w : World) (h : Bs w a n cap l) (k : Bs w b m dap r) :
    Calls Tryz.prog 74 #[.agg #[.slice a n cap], .agg #[.slice b m dap]] w (BoolPost w (eqL l r)) := (equal_any a b n m cap dap l r w h k).mono fun _ _ h => h

theorem emptyC_any (a b : Option Addr) (n c m d : Nat) (x : Cu) (w : World) (h : Cb w ⟨a, n, c, b, m, d⟩ x) :
    Calls Tryz.prog 84 #[.agg #[.slice a n c, .slice b m d]] w (BoolPost w (emptyC x)) := by
  have HM := Lib.hid (fun w' (hb : Below w.heap.size w w') => meets_c a b n m c d x.1 x.2 w' (h.1.below hb) (h.2.below hb))
  clear h
  unfold emptyC
  generalize meetB x.1 x.2 = t at HM ⊢
  go_enter Tryz.func84, Tryz.ntmps84
  go_wp2_with (go_at_call 62; refine (HM.out _ ((Below.refl _ w).alloc (Nat.le_refl _) _)).mono ?_; rintro e w1 ⟨rfl, hb1⟩)
  go_ret
  exact ⟨rfl, bel1 hb1⟩

theorem holdsC_any (a b e : Option Addr) (n c m d k f : Nat) (x : Cu) (s : List Nat) (w : World) (h : Cb w ⟨a, n, c, b, m, d⟩ x) (hs : Bs w e k f s) :
    Calls Tryz.prog 22 #[.agg #[.slice a n c, .slice b m d], .agg #[.slice e k f]] w (BoolPost w (holdsC x s)) := by
  have HW := Lib.hid (fun w' (hb : Below w.heap.size w w') => within_c a e n k c f x.1 s w' (h.1.below hb) (hs.below hb))
  have HM := Lib.hid (fun w' (hb : Below w.heap.size w w') => meets_c b e m k d f x.2 s w' (h.2.below hb) (hs.below hb))
  have HE : Hid (holdsC x s = (subB x.1 s && !meetB x.2 s)) := rfl
  clear h hs
  generalize subB x.1 s = p at HW HE
  generalize meetB x.2 s = q at HM HE
  have hb0 := Lib.hid (((Below.refl w.heap.size w).alloc (Nat.le_refl _) (.cells #[.slice a n c, .slice b m d] 41)).alloc (by simp) (.cells #[.slice e k f] 39))
  cases p
  · go_enter Tryz.func22, Tryz.ntmps22
    go_wp2_with (go_at_call 61; refine (HW.out _ hb0.out).mono ?_; rintro e w1 ⟨rfl, hb1⟩)
    go_ret
    exact ⟨by rw [HE.out]; rfl, bel2 hb1⟩
  · go_enter Tryz.func22, Tryz.ntmps22
    go_wp2_with (first
      | (go_at_call 61; refine (HW.out _ hb0.out).mono ?_; rintro e w1 ⟨rfl, hb1⟩; obtain ⟨-, c1, c2, hz, hB⟩ := boxCS (hb1.mono (by simp)))
      | (go_at_call 62; refine (HM.out _ hB).mono ?_; rintro e w2 ⟨rfl, hb2⟩))
    go_ret
    exact ⟨by rw [HE.out]; rfl, hB.trans (hb2.mono hB.size)⟩

theorem equalC_any (a b a' b' : Option Addr) (n c m d n' c' m' d' : Nat) (x y : Cu) (w : World) (h : Cb w ⟨a, n, c, b, m, d⟩ x) (k : Cb w ⟨a', n', c', b', m', d'⟩ y) :
    Calls Tryz.prog 86 #[.agg #[.slice a n c, .slice b m d], .agg #[.slice a' n' c', .slice b' m' d']] w (BoolPost w (decide (x = y))) := by
  have HW1 := Lib.hid (fun w' (hb : Below w.heap.size w w') => equal_c a a' n n' c c' x.1 y.1 w' (h.1.below hb) (k.1.below hb))
  have HW2 := Lib.hid (fun w' (hb : Below w.heap.size w w') => equal_c b b' m m' d d' x.2 y.2 w' (h.2.below hb) (k.2.below hb))
  have HE : Hid (decide (x = y) = (eqL x.1 y.1 && eqL x.2 y.2)) := by
    show _ = _
    unfold eqL
    rw [Bool.eq_iff_iff, Bool.and_eq_true, decide_eq_true_iff, decide_eq_true_iff, decide_eq_true_iff]
    exact ⟨fun e => by rw [e]; exact ⟨rfl, rfl⟩, fun e => Prod.ext e.1 e.2⟩
  clear h k
  generalize eqL x.1 y.1 = q at HW1 HE
  generalize eqL x.2 y.2 = r at HW2 HE
  generalize decide (x = y) = z at HE ⊢
  have hb0 := Lib.hid (((Below.refl w.heap.size w).alloc (Nat.le_refl _) (.cells #[.slice a n c, .slice b m d] 41)).alloc (by simp) (.cells #[.slice a' n' c', .slice b' m' d'] 41))
  cases q
  all_goals
    go_enter Tryz.func86, Tryz.ntmps86
    go_wp2_with (first
        | (go_at_call 74; (with_reducible refine (HW1.out _ hb0.out).mono ?_); rintro e w1 ⟨rfl, hb1⟩; obtain ⟨c0, c1, c2, c3, hz, hB⟩ := boxCC (hb1.mono (by simp)))
        | (go_at_call 74; (with_reducible refine (HW2.out _ hB).mono ?_); rintro e w3 ⟨rfl, hb3⟩; have hB := hB.trans (hb3.mono hB.size)))
    go_ret
    exact ⟨by rw [HE.out]; rfl, hB⟩

end Go.Proofs.YtfjpbkmnlmecgaaGreatDoor.Bz
end

section
/- The iterator over the members again, where the loop's body may write what the iterator does not read. -/
namespace Go.Proofs.YtfjpbkmnlmecgaaGreatDoor.Bz
open Go.RowKit Go.PlainAid Go.Shelf
attribute [local go_sem] Oper.semAt_some
set_option linter.unusedVariables false
set_option linter.unusedSimpArgs false
set_option maxHeartbeats 2000000

set_option maxRecDepth 100000 in
theorem all1_inK (n : Nat) (hn : 1 ≤ n) (lk Bq n₀ b off len cap : Nat) (ws l : List Nat) (hr : Rp ws l) (hlen : ws.length = len) (K : World → World → Prop) (hKr : ∀ A, K A A) (hKt : ∀ {A B C}, K A B → K B C → K A C) (hKT : ∀ {A B}, K A B → Tzn n₀ A → Tzn n₀ B) (hKc : ∀ {A B}, K A B → ∀ j, A.cell? ⟨b, j, none⟩ = B.cell? ⟨b, j, none⟩) (J Jx : List Nat → World → Prop)
    (hY : ∀ pre x W, J pre W → pre.length < l.length → pre ++ [x] <+: l → YieldAt Fence.wide (n - 1) Tryz.prog lk #[.int .i64 ((x : Nat) : Int)] W fun e W' =>
      (e = .returned (.bool true) ∧ J (pre ++ [x]) W' ∧ K W W') ∨ (e = .returned (.bool false) ∧ Jx (pre ++ [x]) W'))
    (W : World) (hT : Tzn n₀ W) (hBs : W.cell? ⟨Bq, 0, none⟩ = some (.slice (some ⟨b, off, none⟩) len cap)) (hc : ∀ j, j < len → W.cell? ⟨b, off + j, none⟩ = some (.int .u64 (wd ws j : Nat))) (h0 : J [] W) :
    CallsIn Fence.wide n Tryz.prog 179 #[.func (.yield lk) #[] #[], .pointer (some ⟨Bq, 0, none⟩)] W fun e W' => (∃ v, e = .returned v) ∧
      ((∃ ys, ys = l ∧ J ys W') ∨ (∃ pre, pre <+: l ∧ Jx pre W')) := by
  have hl64 := hr.2.2.1
  rw [hlen] at hl64
  refine callsIn_of_wp Tryz.func179 rfl trivial ?_ rfl
  simp only [Tryz.ntmps179, List.size_toArray, List.length_cons, List.length_nil, Nat.reduceAdd, Nat.reduceSub, Array.replicate_succ, Array.replicate_zero, List.push_toArray, List.append_toArray, List.nil_append, List.cons_append]
  have HY := Lib.hid hY
  have HC := Lib.hid hc
  have HR := Lib.hid hr
  have HT := Lib.hid hT
  have H0 := Lib.hid h0
  have HLEN := Lib.hid hlen
  clear hY hc hr hT h0 hlen
  gi_wp2
  gi_loopw [8] (fun i wr => ∃ (k : Nat) (pre rest : List Nat), k ≤ len ∧ i = .int .i64 k ∧ Hid (l = pre ++ rest) ∧ Hid (∀ y ∈ rest, 64 * k ≤ y) ∧ Hid (∀ y ∈ pre, y < 64 * k) ∧ Hid (J pre wr) ∧ Hid (K W wr)) (fun i _ => len - (intOf i).toNat)
  case atStart => exact ⟨0, [], l, Nat.zero_le _, rfl, rfl, fun y _ => by omega, fun y hy => by simp at hy, H0.out, hKr _⟩
  case round =>
    obtain ⟨k, pre, rest, hk, rfl, hpr, hre, hpe, hJ, hB⟩ := hrel
    by_cases hlt : k < len
    · have c1 := (hKc hB.out (off + k)).symm.trans (HC.out k hlt)
      have hst := Lib.hid (Bits64.start HR.out hpr.out hre.out hpe.out)
      obtain ⟨x0, hx0⟩ : ∃ x0, x0 = wd ws k := ⟨_, rfl⟩
      rw [← hx0] at c1 hst
      clear hx0
      obtain ⟨wo, rfl⟩ : ∃ wo : World, wo = wr := ⟨_, rfl⟩
      gi_wp2
      gi_loopw [4] (fun v wr => ∃ (x : Nat) (pre rest : List Nat), v = .int .u64 x ∧ Hid (l = pre ++ rest) ∧ Hid (Bits64 k x rest) ∧ Hid (∀ y ∈ pre, y < 64 * (k + 1)) ∧ Hid (J pre wr) ∧ Hid (K W wr)) (fun v _ => (intOf v).toNat)
      case atStart => exact ⟨x0, pre, rest, rfl, hpr.out, hst.out, fun y hy => by have := hpe.out y hy; omega, hJ.out, hB.out⟩
      case round =>
        clear hst hJ hB hpe hre hpr c1
        obtain ⟨x, pre, rest, rfl, hpr, hst, hpe, hJ, hB⟩ := hrel
        have hx64 := hst.out.1
        by_cases hx : x = 0
        · have HD := Lib.hid (hst.out.done hx)
          subst hx
          gi_wp2
          go_roundw
          case rel => exact ⟨k + 1, pre, rest, by omega, by go_num, hpr.out, HD.out, hpe.out, hJ.out, hB.out⟩
          case measure => simp [intOf]; omega
        · obtain ⟨rest2, hr2, hst2, hlt2⟩ := hst.out.next hx
          have hcz := (ctz_spec hx hx64).1
          have hlen : pre.length < l.length := by rw [hpr.out, hr2]; simp
          obtain ⟨fn, tmps, assign, body, hy, hRo⟩ := HY.out pre (64 * k + Lib.ctz 64 x) wr hJ.out hlen ⟨rest2, by rw [hpr.out, hr2]; simp⟩
          have htz := Lib.hid (fun w' hb => tzn_any x hx hx64 n₀ w' ((hKT hB.out HT.out).below hb))
          have HX := Lib.hid hx
          have HR2 := Lib.hid hr2
          have HS2 := Lib.hid hst2
          have hx1 : ((x : Int) == 0) = false := beq_eq_false_iff_ne.2 (by omega)
          have hx2 : ((x : Int) != 0) = true := by rw [bne, hx1]; rfl
          have hand : bits .and .u64 (x : Int) (IntKind.u64.wrap ((x : Int) - 1)) = ((x &&& (x - 1) : Nat) : Int) := by
            have e : IntKind.u64.wrap ((x : Int) - 1) = ((x - 1 : Nat) : Int) := by rw [IntKind.wrap_u64]; omega
            rw [e]; exact u64_and_nat _ _ hx64 (by omega)
          have hand2 : bits .and .u64 (x : Int) ((x : Int) - 1) = ((x &&& (x - 1) : Nat) : Int) := by
            have e : (x : Int) - 1 = ((x - 1 : Nat) : Int) := by omega
            rw [e]; exact u64_and_nat _ _ hx64 (by omega)
          have hx3 : 1 ≤ x := by omega
          generalize Lib.ctz 64 x = c at *
          have he : ((64 * k + c : Nat) : Int) = 64 * (k : Int) + (c : Int) := by omega
          rw [he] at hy
          clear hx hr2 hst2 he
          gi_wp2
          refine ⟨trivial, (callsIn_wide.2 (htz.out _ (Below.refl _ _))).mono ?_⟩
          rintro e w' ⟨rfl, rfl⟩
          gi_wp2
          refine hRo.mono ?_
          rintro e W3 (⟨rfl, hJ3, hk3⟩ | ⟨rfl, hJx3⟩)
          · have HJ3 := Lib.hid hJ3
            have HK3 := Lib.hid hk3
            clear hJ3 hk3
            gi_wp2
            go_roundw
            case rel => exact ⟨x &&& (x - 1), pre ++ [64 * k + c], rest2, rfl, by first | (show True; trivial) | (rw [hpr.out, HR2.out]; simp; done) | (show _ = _; rw [hpr.out, HR2.out, List.append_assoc]; rfl), HS2.out, fun y hy => by
              rw [List.mem_append, List.mem_singleton] at hy
              rcases hy with hy | rfl
              · exact hpe.out y hy
              · omega, HJ3.out, hKt hB.out HK3.out⟩
            case measure => simp [intOf]; omega
          · have HJ3 := Lib.hid hJx3
            clear hJx3
            gi_wp2
            refine bodyPost_ret (results_none rfl _ _ _) rfl ?_
            exact ⟨⟨_, rfl⟩, .inr ⟨pre ++ [64 * k + c], ⟨rest2, by rw [hpr.out, HR2.out]; simp⟩, HJ3.out⟩⟩
    · have hkl : k = len := by omega
      have hnil : rest = [] := by
        cases rest with
        | nil => rfl
        | cons y r =>
          have h1 := hre.out y (by simp)
          have h2 := (HR.out.mem_iff y).1 (by rw [hpr.out]; simp)
          rw [mem_out (by rw [HLEN.out]; omega)] at h2; cases h2
      have hl : Hid (pre = l) := by show _ = _; rw [hpr.out, hnil, List.append_nil]
      clear hnil hkl
      gi_wp2
      go_end0
      exact ⟨⟨_, rfl⟩, .inl ⟨_, hl.out, hJ.out⟩⟩

/-- All hands back an iterator over the members, each below 4096; the body may write what the iterator does not read. -/
theorem all_stopsK (n : Nat) (hn : 1 ≤ n) (Bq n₀ : Nat) (a : Option Addr) (len cap : Nat) (l : List Nat) (w : World) (hBs : Bq < w.heap.size) (hn₀ : n₀ ≤ w.heap.size) (hT : Tzn n₀ w)
    (hc : w.cell? ⟨Bq, 0, none⟩ = some (.slice a len cap)) (hI : Bs w a len cap l) (K : World → World → Prop) (hKr : ∀ A, K A A) (hKt : ∀ {A B C}, K A B → K B C → K A C) (hKT : ∀ {A B}, K A B → Tzn n₀ A → Tzn n₀ B) (hKc : ∀ p, a = some p → ∀ {A B}, K A B → ∀ j, A.cell? ⟨p.block, j, none⟩ = B.cell? ⟨p.block, j, none⟩) :
    SeqStopsK Fence.wide n Tryz.prog 179 #[.pointer (some ⟨Bq, 0, none⟩)] (fun x : {x : Nat // x < 4096} => #[Value.int .i64 ((x.1 : Nat) : Int)]) K (fun ys => ys.map (·.1) = l) (fun pre => pre.map (·.1) <+: l) l.length w := fun lk J Jx W hW _ _ hY h0 => by
  have hc' := (hW.cell (p := ⟨Bq, 0, none⟩) hBs).trans hc
  have hT' := hT.below (hW.mono hn₀)
  obtain ⟨ws, ⟨h1, h2, h3, ⟨rfl, rfl, rfl⟩ | ⟨b, o, rfl, ⟨hb, -⟩, hcs⟩⟩, hr⟩ := hI
  · have hl : l = [] := none_words hr (fun j hj => by omega)
    exact (all1_nil_in n lk Bq (fun _ W => J [] W) W hc' h0).mono fun e W' ⟨he, hj⟩ => ⟨he, .inl ⟨[], by rw [hl]; rfl, hj⟩⟩
  · refine (all1_inK n hn lk Bq n₀ b o len cap ws l hr h1 K hKr hKt hKT (fun h j => hKc _ rfl h j) (fun pre W => ∃ pre', pre'.map (·.1) = pre ∧ J pre' W) (fun pre W => ∃ pre', pre'.map (·.1) = pre ∧ Jx pre' W) ?_ W hT' hc' (fun j hj => (hW.cell (p := ⟨b, o + j, none⟩) hb).trans (hcs j hj)) ⟨[], rfl, h0⟩).mono ?_
    · rintro pre x W ⟨pre', rfl, hj⟩ hlen ⟨t, ht⟩
      have hx : x < 4096 := hr.asc.2 x (by rw [← ht]; simp)
      have hy := hY pre' ⟨x, hx⟩ W hj (by simpa using hlen)
      obtain ⟨fn, tmps, assign, body, hy1, hy2⟩ := hy
      refine ⟨fn, tmps, assign, body, hy1, hy2.mono ?_⟩
      rintro e W' (⟨he, hJ, hb⟩ | ⟨he, hJ⟩)
      · exact .inl ⟨he, ⟨_, by simp, hJ⟩, hb⟩
      · exact .inr ⟨he, _, by simp, hJ⟩
    · rintro e W' ⟨he, ⟨ys, rfl, pre', hp, hj⟩ | ⟨pre, hpre, pre', hp, hj⟩⟩
      · exact ⟨he, .inl ⟨_, hp, hj⟩⟩
      · exact ⟨he, .inr ⟨_, by simpa [hp] using hpre, hj⟩⟩

/-- Blocks below B, but for p and q, are as they were. -/
structure But (B p q : Nat) (w w' : World) : Prop where
  os : w'.os = w.os
  tape : w'.tape = w.tape
  output : w'.output = w.output
  size : w.heap.size ≤ w'.heap.size
  block : ∀ k, k < B → k ≠ p → k ≠ q → w'.heap[k]? = w.heap[k]?
theorem But.refl (B p q : Nat) (w : World) : But B p q w w := ⟨rfl, rfl, rfl, Nat.le_refl _, fun _ _ _ _ => rfl⟩
theorem But.trans {B p q : Nat} {a b c : World} (h : But B p q a b) (k : But B p q b c) : But B p q a c :=
  ⟨k.os.trans h.os, k.tape.trans h.tape, k.output.trans h.output, Nat.le_trans h.size k.size, fun i hi h1 h2 => (k.block i hi h1 h2).trans (h.block i hi h1 h2)⟩
theorem But.of {B p q : Nat} {w w' : World} (h : Below B w w') : But B p q w w' := ⟨h.os, h.tape, h.output, h.size, fun k hk _ _ => h.block k hk⟩
theorem But.below {B p q N : Nat} {w w' : World} (h : But B p q w w') (hN : N ≤ B) (hp : N ≤ p) (hq : N ≤ q) : Below N w w' := ⟨h.os, h.tape, h.output, h.size, fun k hk => h.block k (by omega) (by omega) (by omega)⟩
theorem But.set {B p q : Nat} {w : World} (a : Addr) (v : Value) (h : a.block = p ∨ a.block = q ∨ B ≤ a.block) : But B p q w (w.setCell a v) :=
  ⟨rfl, rfl, rfl, by simp, fun k hk h1 h2 => Below.heap_setCell _ _ _ k (by rcases h with h | h | h <;> omega)⟩
theorem But.cell {B p q : Nat} {w w' : World} (h : But B p q w w') {k j : Nat} (hk : k < B) (h1 : k ≠ p) (h2 : k ≠ q) : w'.cell? ⟨k, j, none⟩ = w.cell? ⟨k, j, none⟩ := by
  unfold World.cell?; rw [h.block k hk h1 h2]
theorem But.tzn {B p q : Nat} {w w' : World} (h : But B p q w w') (hp : 1 ≠ p) (hq : 1 ≠ q) (hT : Tzn B w) : Tzn B w' :=
  ⟨hT.1, fun j hj => (h.cell hT.1 hp hq).trans (hT.2 j hj)⟩
theorem But.putObj {B p q : Nat} {W : World} (l : Nat) (o o' : Obj) (hl : B ≤ l) : But B p q W (W.putObj l o') :=
  ⟨rfl, rfl, rfl, by simp [World.putObj], fun k hk _ _ => World.putObj_heap_other (by omega)⟩
end Go.Proofs.YtfjpbkmnlmecgaaGreatDoor.Bz
end
