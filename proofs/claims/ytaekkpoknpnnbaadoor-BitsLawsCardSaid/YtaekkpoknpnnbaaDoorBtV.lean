/- Contracts of the reference: Has, With, Of. -/
import Derived.Test.YtaekkpoknpnnbaaDoorBtU
import Derived.Laws.OwnMore
namespace Go.Proofs.YtaekkpoknpnnbaaDoor
open Go.RowKit Go.PlainAid
set_option linter.unusedVariables false
set_option linter.unusedSimpArgs false
set_option maxHeartbeats 2000000

theorem Iw.at {w : World} {a : Option Addr} {n cap : Nat} {zs : List Int} (h : Iw w a n cap zs) {k : Nat} (hk : k < n) : ∃ b o, a = some ⟨b, o, none⟩ ∧ b < w.heap.size ∧ w.cell? ⟨b, o + k, none⟩ = some (.int .i64 (zg zs k)) := by
  obtain ⟨h1, h2, h3, ⟨_, h4, _⟩ | ⟨b, o, h4, h5, h6⟩⟩ := h
  · omega
  · exact ⟨b, o, h4, h5, h6 k hk⟩
theorem zg_get {zs : List Int} {k : Nat} (h : k < zs.length) : zg zs k = zs[k] := by
  unfold zg; rw [List.getD_eq_getElem?_getD, List.getElem?_eq_getElem h]; rfl
theorem zg_cs (l : List Nat) (k : Nat) : zg (cs l) k = ((wd l k : Nat) : Int) := by
  unfold zg wd cs
  rw [List.getD_eq_getElem?_getD, List.getD_eq_getElem?_getD, List.getElem?_map]
  cases l[k]? <;> rfl
theorem mem_cs {l : List Nat} {x : Nat} : (x : Int) ∈ cs l ↔ x ∈ l := by
  unfold cs; rw [List.mem_map]
  exact ⟨fun ⟨y, h, e⟩ => by rw [← Int.ofNat_inj.1 e]; exact h, fun h => ⟨x, h, rfl⟩⟩
theorem take_wd {l : List Nat} {k : Nat} (h : k < l.length) : l.take (k + 1) = l.take k ++ [wd l k] := by
  rw [List.take_succ_eq_append_getElem h, wd_get h]

theorem rhas_any (a : Option Addr) (n cap : Nat) (zs : List Int) (x : Int) (w : World) (h : Iw w a n cap zs) :
    Calls Tryd.prog 44 #[.slice a n cap, .int .i64 x] w fun e w' => e = .returned (.bool (decide (x ∈ zs))) ∧ w' = w := by
  have HI := Lib.hid h
  obtain ⟨h1, h2, h3, _⟩ := h
  have HL := Lib.hid h1
  clear h1
  go_enter Tryd.func44, Tryd.ntmps44
  go_wp2_with fail
  go_loop [9] (fun v => ∃ k : Nat, k ≤ n ∧ v = .int .i64 k ∧ Hid (∀ j, j < k → zg zs j ≠ x)) (fun v => n - (intOf v).toNat)
  case atStart => exact ⟨0, Nat.zero_le _, rfl, fun j hj => absurd hj (Nat.not_lt_zero _)⟩
  case round =>
    obtain ⟨k, hk, rfl, HN⟩ := hrel
    by_cases hlt : k < n
    · obtain ⟨b, o, rfl, hb, hc⟩ := HI.out.at hlt
      by_cases hx : zg zs k = x
      · have HD : Hid (decide (x ∈ zs) = true) := decide_eq_true (zg_mem.2 ⟨k, by rw [HL.out]; exact hlt, hx⟩)
        rw [hx] at hc
        clear hx
        go_wp2_with fail
        go_returns
        exact ⟨ret_bool HD.out.symm, rfl⟩
      · have HX := Lib.hid hx
        generalize zg zs k = y at hc hx
        have hne : (y == x) = false := beq_eq_false_iff_ne.2 hx
        clear hx
        go_wp2_with fail
        go_round
        case rel => exact ⟨k + 1, by omega, by go_num, fun j hj => by
          by_cases e : j = k
          · subst e; exact HX.out
          · exact HN.out j (by omega)⟩
        case measure => simp [intOf]; omega
    · have HD : Hid (decide (x ∈ zs) = false) := decide_eq_false (fun hm => by
        obtain ⟨j, hj, e⟩ := zg_mem.1 hm
        exact HN.out j (by have := HL.out; omega) e)
      go_wp2_with fail
      go_returns
      exact ⟨ret_bool HD.out.symm, rfl⟩

/-- What a function that makes a list returns. -/
def RowPost (w : World) (l : List Nat) (e : Ending) (w' : World) : Prop := ∃ v, e = .returned v ∧ w'.ownsRow w.heap.size 3 1 v l.length (l.map i64v) ∧ Below w.heap.size w w'
def RowI (w : World) (B : Nat) (v : Value) (l : List Nat) : Prop := w.ownsRow B 3 1 v l.length (l.map i64v)
theorem RowI.nil (w : World) (B : Nat) : RowI w B (.slice none 0 0) [] := World.ownsRow_nil w B 3 1
theorem RowI.alloc {w : World} {B : Nat} {v : Value} {l : List Nat} (h : RowI w B v l) (o : Obj) : RowI (w.alloc o) B v l := World.ownsRow.alloc h o
theorem owns_mono {w : World} {B B' size n : Nat} {e : TypeId} {v : Value} {xs : List Value} (h : w.ownsRow B' e size v n xs) (hB : B ≤ B') : w.ownsRow B e size v n xs := by
  refine ⟨h.1, ?_⟩
  rcases h.2 with hn | ⟨g, cap, cur, rfl, hg, r⟩
  · exact .inl hn
  · exact .inr ⟨g, cap, cur, rfl, Nat.le_trans hB hg, r⟩
theorem RowI.iw {w : World} {B : Nat} {v : Value} {l : List Nat} (h : RowI w B v l) : ∃ a cap, v = .slice a l.length cap ∧ Iw w a l.length cap (cs l) := iw_of_i64 h rfl

theorem run_append_iw (w : World) (base : Nat) (ty : TypeId) (i : TypeInfo) (hi : Tryd.prog.info? 3 = some i) (hz0 : i.zero = some (.int .i64 0)) (hz1 : i.size = 1) (hz2 : i.bytes = 8)
    (v : Value) (n : Nat) (xs : List Value) (hown : w.ownsRow base 3 1 v n xs) (a : Option Addr) (m c : Nat) (zs : List Int) (h : Iw w a m c zs) (hb : n + m ≤ 1000000) (hbase : base ≤ w.heap.size) :
    ∃ v' w', (Builtin.append_ #[22, 22] ty #[v, .slice a m c]).run Tryd.prog w = .ok v' w' ∧ w'.ownsRow base 3 1 v' (n + m) (xs ++ zs.map fun z => .int .i64 z) ∧ w.grownBy w' v.ownBlock := by
  obtain ⟨h1, h2, h3, ⟨rfl, rfl, rfl⟩ | ⟨b, o, rfl, hb2, hc⟩⟩ := h
  · have : zs = [] := List.eq_nil_of_length_eq_zero h1
    subst this
    refine ⟨v, w, run_append_owned_none w base _ ty _ i 1 Tryd.underlying22 hi v n xs hown, by simpa using hown, rfl, rfl, rfl, Nat.le_refl _, fun _ _ _ => rfl⟩
  · obtain ⟨v', w', r1, r2, r3, _⟩ := run_append_own w base 22 ty 3 i (.int .i64 0) 1 8 Tryd.underlying22 hi hz0 hz1 hz2 rfl (by decide) v n xs hown ⟨b, o, none⟩ m c (zs.map fun z => .int .i64 z) (by simpa using h1)
      (fun j u hu => by
        rw [Addr.add_lit]
        rw [List.getElem?_map] at hu
        cases hj : zs[j]? with
        | none => rw [hj] at hu; cases hu
        | some z =>
          rw [hj] at hu
          have hlt : j < zs.length := (List.getElem?_eq_some_iff.1 hj).1
          rw [hc j (by omega)]
          rw [← Option.some.inj hu]
          unfold zg
          rw [List.getD_eq_getElem?_getD, hj]; rfl)
      (fun u hu => by rw [List.mem_map] at hu; obtain ⟨z, _, rfl⟩ := hu; rfl) (by unfold maxLen; omega) (by omega) hbase
    exact ⟨v', w', r1, r2, r3⟩
theorem wpList_append_iw {w : World} {ops : Array Oper} {rest : List Oper} {o : Oper} {a : Act} {Q : Exit → Act → World → Prop} (hgd : o.guard = none) (s x : Operand)
    (ho : o.op = .call { callee := .builtin .append, args := #[s, x], argTypes := #[22, 22] }) (base : Nat) (i : TypeInfo) (hi : Tryd.prog.info? 3 = some i) (hz0 : i.zero = some (.int .i64 0)) (hz1 : i.size = 1) (hz2 : i.bytes = 8)
    (v : Value) (n : Nat) (xs : List Value) (hs : a.eval s = v) (hown : w.ownsRow base 3 1 v n xs) (ad : Option Addr) (m c : Nat) (zs : List Int) (hx : a.eval x = .slice ad m c) (h : Iw w ad m c zs) (hb : n + m ≤ 1000000) (hbase : base ≤ w.heap.size)
    (hK : ∀ v' w', w'.ownsRow base 3 1 v' (n + m) (xs ++ zs.map fun z => .int .i64 z) → w.grownBy w' v.ownBlock → wpList Tryd.prog ops Q rest (a.put o.dst v') w') : wpList Tryd.prog ops Q (o :: rest) a w := by
  refine wpList_plain hgd fun K hK' => ?_
  obtain ⟨v', w', hr, h2, h3⟩ := run_append_iw w base o.type i hi hz0 hz1 hz2 v n xs hown ad m c zs h hb hbase
  unfold Oper.wp
  simp [execOp, ho, resolve, invoke, builtin, hs, hx, hr, Result.andThen]
  exact hK' _ _ (hK v' w' h2 h3)
theorem empty_rowI (w : World) : (w.alloc (.cells #[] 3)).ownsRow w.heap.size 3 1 (.slice (some ⟨w.heap.size, 0, none⟩) 0 0) 0 [] :=
  World.ownsRow_lit w #[] 0 (Nat.le_refl _) (by unfold maxLen; omega) rfl

/-- A list with i in its place. -/
def insL (l : List Nat) (i : Nat) : List Nat := l.filter (fun x => decide (x < i)) ++ i :: l.filter (fun x => decide (i < x))
def WAt (l : List Nat) (i k : Nat) (out : List Nat) (d : Bool) : Prop := d = (l.take k).any (fun x => decide (i < x)) ∧ out = if d then insL (l.take k) i else l.take k
theorem WAt.zero (l : List Nat) (i : Nat) : WAt l i 0 [] false := ⟨rfl, rfl⟩
theorem take_lt {l : List Nat} (hl : Asc l) {k : Nat} (hk : k < l.length) : ∀ x ∈ l.take k, x < wd l k := by
  intro x hx
  obtain ⟨j, hj, rfl⟩ := List.getElem_of_mem hx
  rw [List.length_take] at hj
  rw [List.getElem_take, wd_get hk]
  exact List.pairwise_iff_getElem.1 hl.1 j k (by omega) hk (by omega)
theorem WAt.first {l : List Nat} {i k : Nat} {out : List Nat} (h : WAt l i k out false) (hl : Asc l) (hi : i ∉ l) (hk : k < l.length) (hx : i < wd l k) : WAt l i (k + 1) (out ++ [i] ++ [wd l k]) true := by
  obtain ⟨h1, h2⟩ := h
  rw [if_neg (by decide)] at h2
  have hsm : ∀ x ∈ l.take k, x < i := fun x hx => by
    have h3 : decide (i < x) = false := by
      have := List.any_eq_false.1 h1.symm x hx
      simpa using this
    have h4 : x ≠ i := fun e => hi (e ▸ List.mem_of_mem_take hx)
    have h5 := of_decide_eq_false h3
    omega
  refine ⟨by rw [take_wd hk]; simp [hx], ?_⟩
  rw [if_pos rfl, take_wd hk]
  unfold insL
  rw [List.filter_append, List.filter_append, (List.filter_eq_self (l := l.take k)).2 (fun x hx => by simpa using hsm x hx), (List.filter_eq_nil_iff (l := l.take k)).2 (fun x hx => by have := hsm x hx; simp; omega), h2]
  have e1 : decide (wd l k < i) = false := decide_eq_false (by omega)
  have e2 : decide (i < wd l k) = true := decide_eq_true hx
  simp [List.filter_cons, e1, e2]
theorem WAt.late {l : List Nat} {i k : Nat} {out : List Nat} (h : WAt l i k out true) (hl : Asc l) (hk : k < l.length) : i < wd l k ∧ WAt l i (k + 1) (out ++ [wd l k]) true := by
  obtain ⟨h1, h2⟩ := h
  rw [if_pos rfl] at h2
  obtain ⟨y, hy, hy2⟩ := List.any_eq_true.1 h1.symm
  have h3 := take_lt hl hk y hy
  have h4 : i < wd l k := by have := of_decide_eq_true hy2; omega
  refine ⟨h4, by rw [take_wd hk]; simp [h4], ?_⟩
  rw [if_pos rfl, take_wd hk, h2]
  unfold insL
  have e1 : decide (wd l k < i) = false := decide_eq_false (by omega)
  have e2 : decide (i < wd l k) = true := decide_eq_true h4
  simp [List.filter_append, List.filter_cons, e1, e2]
theorem WAt.early {l : List Nat} {i k : Nat} {out : List Nat} (h : WAt l i k out false) (hk : k < l.length) (hx : ¬ i < wd l k) : WAt l i (k + 1) (out ++ [wd l k]) false := by
  obtain ⟨h1, h2⟩ := h
  rw [if_neg (by decide)] at h2
  refine ⟨?_, ?_⟩
  · rw [take_wd hk, List.any_append, ← h1]; simp [hx]
  · rw [if_neg (by decide), take_wd hk, h2]
theorem mem_withL {l : List Nat} {i : Nat} (hi : i ≤ 4095) {x : Nat} : x ∈ withL l (i : Int) ↔ x < 4096 ∧ (x ∈ l ∨ x = i) := by
  unfold withL; rw [if_pos ⟨by omega, by omega⟩]; simp
theorem asc_withL {l : List Nat} (h : Asc l) (i : Int) : Asc (withL l i) := by
  unfold withL
  split
  · exact ⟨(pw_range 4096).filter _, fun x hx => by simp at hx; exact hx.1⟩
  · exact h
theorem withL_has {l : List Nat} (hl : Asc l) {i : Nat} (hi : i ≤ 4095) (hm : i ∈ l) : withL l (i : Int) = l :=
  asc_ext (asc_withL hl _) hl fun x => by
    rw [mem_withL hi]
    exact ⟨fun ⟨h, k⟩ => by rcases k with k | k; exact k; exact k ▸ hm, fun h => ⟨hl.2 x h, .inl h⟩⟩
theorem withL_out {l : List Nat} {i : Int} (h : ¬ (0 ≤ i ∧ i ≤ 4095)) : withL l i = l := by unfold withL; rw [if_neg h]
theorem insL_asc {l : List Nat} (hl : Asc l) {i : Nat} (hi : i ≤ 4095) : Asc (insL l i) := by
  refine ⟨?_, fun x hx => ?_⟩
  · unfold insL
    rw [List.pairwise_append, List.pairwise_cons]
    refine ⟨hl.1.filter _, ⟨fun y hy => by simp at hy; exact hy.2, hl.1.filter _⟩, fun x hx y hy => ?_⟩
    simp at hx hy
    rcases hy with rfl | hy
    · exact hx.2
    · omega
  · unfold insL at hx
    simp at hx
    rcases hx with hx | rfl | hx
    · exact hl.2 x hx.1
    · omega
    · exact hl.2 x hx.1
theorem insL_with {l : List Nat} (hl : Asc l) {i : Nat} (hi : i ≤ 4095) (hn : i ∉ l) : insL l i = withL l (i : Int) :=
  asc_ext (insL_asc hl hi) (asc_withL hl _) fun x => by
    rw [mem_withL hi]
    unfold insL
    simp only [List.mem_append, List.mem_filter, List.mem_cons, decide_eq_true_eq]
    refine ⟨fun h => ?_, fun ⟨h1, h⟩ => ?_⟩
    · rcases h with h | rfl | h
      · exact ⟨hl.2 x h.1, .inl h.1⟩
      · exact ⟨by omega, .inr rfl⟩
      · exact ⟨hl.2 x h.1, .inl h.1⟩
    · by_cases e : x = i
      · exact .inr (.inl e)
      · rcases h with h | h
        · by_cases hx : x < i
          · exact .inl ⟨h, hx⟩
          · exact .inr (.inr ⟨h, by omega⟩)
        · exact absurd h e
theorem WAt.doneT {l : List Nat} {i k : Nat} {out : List Nat} (h : WAt l i k out true) (hl : Asc l) (hi : i ≤ 4095) (hn : i ∉ l) (hk : k = l.length) : out = withL l (i : Int) := by
  rw [h.2, if_pos rfl, hk, List.take_length, insL_with hl hi hn]
theorem WAt.doneF {l : List Nat} {i k : Nat} {out : List Nat} (h : WAt l i k out false) (hl : Asc l) (hi : i ≤ 4095) (hn : i ∉ l) (hk : k = l.length) : out ++ [i] = withL l (i : Int) := by
  rw [h.2, if_neg (by decide), hk, List.take_length, ← insL_with hl hi hn]
  have h1 := h.1
  rw [hk, List.take_length] at h1
  have hsm : ∀ x ∈ l, x < i := fun x hx => by
    have h3 : decide (i < x) = false := by
      have := List.any_eq_false.1 h1.symm x hx
      simpa using this
    have h4 : x ≠ i := fun e => hn (e ▸ hx)
    have h5 := of_decide_eq_false h3
    omega
  unfold insL
  rw [List.filter_eq_self.2 (fun x hx => by simpa using hsm x hx), List.filter_eq_nil_iff.2 (fun x hx => by have := hsm x hx; simp; omega)]
end Go.Proofs.YtaekkpoknpnnbaaDoor
