/- The walk of TokenJoins: it returns true. -/
import Derived.Test.YtnjaflldlhiefaaTkL
import Derived.Test.YtnjaflldlhiefaaTkN
import Derived.Test.YtnjaflldlhiefaaTkLaw
namespace Go.Proofs.Ytnjaflldlhiefaa
open Go.RowKit Go.PlainAid
set_option linter.unusedVariables false
set_option maxHeartbeats 1000000

/-- A token of any make: kind, text, value, offset. -/
abbrev RT := Int × ByteArray × Int × Int
def rv (x : RT) : List Value := [.int .u8 x.1, .string x.2.1, .int .i64 x.2.2.1, .int .i64 x.2.2.2]
def rw' (x : RT) : List Value := [.int .i64 x.1, .string x.2.1, .int .i64 x.2.2.1, .int .i64 x.2.2.2]
def cutT (x : RT) : RT := (x.1, x.2.1.extract 0 400, x.2.2.1, x.2.2.2)
def ktR (l : List RT) : List (Nat × List UInt8) := l.map fun x => (x.1.toNat, x.2.1.data.toList)
def cj (l : List RT) (j : Nat) : List RT := (l.take j).map cutT ++ l.drop j

theorem flat_getG {α : Type} (f : α → List Value) (hf : ∀ t, (f t).length = 4) : ∀ (l : List α) (j c : Nat) (t : α), l[j]? = some t → c < 4 → (l.flatMap f)[j * 4 + c]? = (f t)[c]?
  | [], j, c, t, h, _ => by simp at h
  | x :: l, 0, c, t, h, hc => by
    simp at h
    subst h
    rw [List.flatMap_cons, List.getElem?_append_left (by rw [hf]; omega)]
    simp
  | x :: l, j + 1, c, t, h, hc => by
    rw [List.flatMap_cons, List.getElem?_append_right (by rw [hf]; omega), hf]
    rw [show (j + 1) * 4 + c - 4 = j * 4 + c from by omega]
    exact flat_getG f hf l j c t (by simpa using h) hc
theorem flat_setG {α : Type} (f : α → List Value) (hf : ∀ t, (f t).length = 4) (c : Nat) (u : Value) (hc : c < 4) : ∀ (l : List α) (j : Nat) (t t' : α), l[j]? = some t → f t' = (f t).set c u → (l.flatMap f).set (j * 4 + c) u = (l.set j t').flatMap f
  | [], j, t, t', h, _ => by simp at h
  | x :: l, 0, t, t', h, ht => by
    simp at h
    subst h
    rw [List.flatMap_cons, List.set_append_left _ _ (by rw [hf]; omega), List.set_cons_zero, List.flatMap_cons, ht]
    simp
  | x :: l, j + 1, t, t', h, ht => by
    rw [List.flatMap_cons, List.set_append_right _ _ (by rw [hf]; omega), hf, List.set_cons_succ, List.flatMap_cons]
    rw [show (j + 1) * 4 + c - 4 = j * 4 + c from by omega, flat_setG f hf c u hc l j t t' (by simpa using h) ht]
theorem flat_lenG {α : Type} (f : α → List Value) (hf : ∀ t, (f t).length = 4) : ∀ l : List α, (l.flatMap f).length = l.length * 4
  | [] => rfl
  | x :: l => by rw [List.flatMap_cons, List.length_append, hf, flat_lenG f hf l, List.length_cons]; omega
theorem cj_get (l : List RT) (j : Nat) (x : RT) (h : l[j]? = some x) : (cj l j)[j]? = some x := by
  obtain ⟨hj, rfl⟩ := List.getElem?_eq_some_iff.1 h
  unfold cj
  rw [List.getElem?_append_right (by simp; omega)]
  simp [Nat.min_eq_left (Nat.le_of_lt hj)]
theorem cj_step (l : List RT) (j : Nat) (x : RT) (h : l[j]? = some x) : (cj l j).set j (cutT x) = cj l (j + 1) := by
  obtain ⟨hj, rfl⟩ := List.getElem?_eq_some_iff.1 h
  unfold cj
  rw [List.set_append_right _ _ (by simp; omega), List.drop_eq_getElem_cons hj, List.take_succ_eq_append_getElem hj]
  rw [show j - ((l.take j).map cutT).length = 0 from by simp; omega, List.set_cons_zero, List.map_append, List.append_assoc]
  rfl

theorem owns_ne {w : World} {b1 b2 s1 s2 n1 n2 : Nat} {e1 e2 : TypeId} {v1 v2 : Value} {x1 x2 : List Value} (h1 : w.ownsRow b1 e1 s1 v1 n1 x1) (h2 : w.ownsRow b2 e2 s2 v2 n2 x2) (he : e1 ≠ e2) : ∀ k, v1.ownBlock = some k → v2.ownBlock ≠ some k := by
  intro k hk1 hk2
  rcases h1.2 with ⟨rfl, _⟩ | ⟨g, cap, cur, rfl, hb, hg, _⟩
  · cases hk1
  · rcases h2.2 with ⟨rfl, _⟩ | ⟨g', cap', cur', rfl, hb', hg', _⟩
    · cases hk2
    · cases hk1
      cases hk2
      rw [hg] at hg'
      simp only [Option.some.injEq, Obj.cells.injEq] at hg'
      exact he hg'.2.1

theorem zt_of_plain {ts us : List Tok} (h : ts.map plainT = us.map plainT) : ts.map zt = us.map zt := by
  have e : ∀ l : List Tok, l.map zt = (l.map plainT).map fun x => (⟨x.1, x.2.1, x.2.2, 0⟩ : Tok) := fun l => by rw [List.map_map]; rfl
  rw [e, e, h]
theorem kept_toks (ts : List Tok) (p : Nat) (h : ∀ t ∈ ts, IsTok t) : kept (ktOf (ts ++ [⟨0, [], 0, p⟩])) = ts.map (·.text) := by
  unfold kept ktOf
  rw [List.map_append, List.filter_append, List.map_append]
  have h1 : (ts.map fun t => (t.kind, t.text)).filter (fun x => x.1 != 0) = ts.map fun t => (t.kind, t.text) := by
    rw [List.filter_eq_self]
    intro x hx
    obtain ⟨t, ht, rfl⟩ := List.mem_map.1 hx
    obtain ⟨l, hl⟩ := h t ht
    simpa using (tokL_len hl).2.2
  rw [h1, List.map_map]
  simp
theorem joins_law {l : List UInt8} (hl : l.length ≤ 400) (he : (scanP l).2.2 = 0) :
    (scanP (joinK (ktOf (scanP l).1))).2.2 = 0 ∧ (scanP (joinK (ktOf (scanP l).1))).1.map zt = (scanP l).1.map zt ∧ (scanP l).1.length ≤ 401 ∧ (joinK (ktOf (scanP l).1)).length ≤ 801 ∧ (scanP (joinK (ktOf (scanP l).1))).1.length ≤ 401 := by
  obtain ⟨ts, p, e1, e2, e3, e4, e5⟩ := scanP_shape he
  have hj : joinK (ktOf (scanP l).1) = Lib.join (ts.map (·.text)) [32] := by unfold joinK; rw [e1, kept_toks ts p e3]
  have hs := scan_join ts e3 (by omega)
  have hjl := (join_len ts).1
  rw [hj, e1]
  refine ⟨by rw [hs.1], zt_of_plain (by rw [hs.2, List.map_append]; rfl), by simp only [List.length_append, List.length_cons, List.length_nil]; omega, by omega, ?_⟩
  have := congrArg List.length hs.2
  simp only [List.length_map, List.length_append, List.length_cons, List.length_nil] at this
  omega
theorem Kt.ofRaw {w : World} {v : Value} {n : Nat} {M : List RT} {kk : IntKind} {f : RT → List Value} (hf : ∀ x, f x = [.int kk x.1, .string x.2.1, .int .i64 x.2.2.1, .int .i64 x.2.2.2]) (h : Sl w v n 4 (M.flatMap f)) (hn : M.length = n) (hk : ∀ x ∈ M, 0 ≤ x.1) : Kt w v kk (ktR M) := by
  obtain ⟨h1, a, cap, rfl, hc, hm, h2⟩ := h
  subst hn
  have hf4 : ∀ x, (f x).length = 4 := fun x => by rw [hf]; rfl
  refine ⟨a, cap, by simp [ktR], by simpa [ktR] using hc, hm, ?_⟩
  rcases h2 with h2 | ⟨b, o, rfl, hb, hcell⟩
  · left; simp [ktR, List.eq_nil_of_length_eq_zero h2]
  · right
    refine ⟨b, o, rfl, hb, fun j y hy => ?_⟩
    simp only [ktR, List.getElem?_map, Option.map_eq_some_iff] at hy
    obtain ⟨x, hx, rfl⟩ := hy
    have hj : j < M.length := (List.getElem?_eq_some_iff.1 hx).1
    have g := fun c (hc : c < 4) => flat_getG f hf4 M j c x hx hc
    have hk' := hk x (List.mem_of_getElem? hx)
    refine ⟨?_, ?_, ⟨x.2.2.1, ?_⟩, ⟨x.2.2.2, ?_⟩⟩
    · rw [hcell (j * 4) (by omega), List.getD_eq_getElem?_getD]
      have := g 0 (by omega)
      rw [Nat.add_zero, hf] at this
      rw [this]
      show some (Value.int kk x.1) = some (Value.int kk (x.1.toNat : Int))
      rw [Int.toNat_of_nonneg hk']
    · rw [Nat.add_assoc, hcell (j * 4 + 1) (by omega), List.getD_eq_getElem?_getD, g 1 (by omega), hf]; rfl
    · rw [Nat.add_assoc, hcell (j * 4 + 2) (by omega), List.getD_eq_getElem?_getD, g 2 (by omega), hf]; rfl
    · rw [Nat.add_assoc, hcell (j * 4 + 3) (by omega), List.getD_eq_getElem?_getD, g 3 (by omega), hf]; rfl
theorem joinK_bound : ∀ l : List (Nat × List UInt8), (∀ x ∈ l, x.2.length ≤ 400) → (joinK l).length ≤ l.length * 401 := by
  intro l h
  have hk : ∀ (m : List (List UInt8)), (∀ x ∈ m, x.length ≤ 400) → (Lib.join m [32]).length ≤ m.length * 401 := by
    intro m hm
    cases m with
    | nil => simp [Lib.join_nil]
    | cons y r =>
      rw [Lib.join_cons, List.length_append]
      have h1 := hm y List.mem_cons_self
      have h2 : ∀ (r : List (List UInt8)), (∀ x ∈ r, x.length ≤ 400) → (Lib.joinTail [32] r).length ≤ r.length * 401 := by
        intro r
        induction r with
        | nil => intro _; simp [Lib.joinTail]
        | cons z r ih =>
          intro hr
          have h3 := ih (fun x hx => hr x (List.mem_cons_of_mem _ hx))
          have h4 := hr z List.mem_cons_self
          simp only [Lib.joinTail, List.map_cons, List.flatten_cons, List.length_append, List.length_cons] at h3 ⊢
          simp only [List.length_nil]
          omega
      have := h2 r (fun x hx => hm x (List.mem_cons_of_mem _ hx))
      simp only [List.length_cons]; omega
  have h1 := hk (kept l) (fun x hx => by
    unfold kept at hx
    obtain ⟨y, hy, rfl⟩ := List.mem_map.1 hx
    exact h y ((List.mem_filter.1 hy).1))
  have h2 : (kept l).length ≤ l.length := by unfold kept; rw [List.length_map]; exact List.length_filter_le _ _
  unfold joinK
  exact Nat.le_trans h1 (Nat.mul_le_mul_right _ h2)

set_option maxRecDepth 100000 in
set_option maxHeartbeats 3000000 in
theorem tokenJoins_walk (a : Option Addr) (n cap : Nat) (L : List RT) (s : ByteArray) (w : World) (hl : Sl w (.slice a n cap) n 4 (L.flatMap rv)) (hL : L.length = n) (hk : ∀ x ∈ L, 0 ≤ x.1 ∧ x.1 ≤ 255 ∧ x.2.1.size ≤ 9223372036854775807) (hs : s.size ≤ 9223372036854775807) :
    Calls Try.prog 4 #[.slice a n cap, .string s] w fun e w' => e = .returned (.bool true) ∧ Below w.heap.size w w' := by
  obtain ⟨i0, hi, hz0, hz1, hz2⟩ := info_parts (show (Try.prog.info? 38).map (fun i => (i.zero, i.size, i.bytes)) = some (some (.agg #[.int .i64 0, .string ⟨#[]⟩, .int .i64 0, .int .i64 0]), 4, 40) by kernel_rfl)
  have hl2 := hl
  obtain ⟨hx1, a', cap', hv, hnc, hcm, hx2⟩ := hl2
  cases hv
  unfold maxLen at hcm
  obtain ⟨m, hm⟩ : ∃ m, m = min n 20 := ⟨_, rfl⟩
  obtain ⟨M, hM⟩ : ∃ M, M = L.take 20 := ⟨_, rfl⟩
  have hMl : M.length = m := by rw [hM, List.length_take, hL, hm]; omega
  have hMk : ∀ x ∈ M, 0 ≤ x.1 ∧ x.1 ≤ 255 ∧ x.2.1.size ≤ 9223372036854775807 := fun x hx => hk x (by rw [hM] at hx; exact List.mem_of_mem_take hx)
  have hSl : ∀ w1, Below w.heap.size w w1 → Sl w1 (.slice a m cap) m 4 (M.flatMap rv) := by
    intro w1 hb1
    refine ⟨by rw [flat_lenG rv (fun _ => rfl), hMl], a, cap, rfl, by omega, by unfold maxLen; omega, ?_⟩
    rcases hx2 with hx2 | ⟨b, o, hx2, hbl, hcell⟩
    · exact .inl (by omega)
    · refine .inr ⟨b, o, hx2, Nat.lt_of_lt_of_le hbl hb1.size, fun j hj => ?_⟩
      rw [hb1.cell (p := ⟨b, o + j, none⟩) hbl, hcell j (by omega)]
      have hpre : (L.flatMap rv) = (M.flatMap rv) ++ ((L.drop 20).flatMap rv) := by rw [← List.flatMap_append, hM, List.take_append_drop]
      rw [hpre, List.getD_eq_getElem?_getD, List.getElem?_append_left (by rw [flat_lenG rv (fun _ => rfl), hMl]; omega), ← List.getD_eq_getElem?_getD]
  have hM1 : ∀ u ∈ M.flatMap rv, u.oneCell' = true := by
    intro u hu
    simp only [List.mem_flatMap] at hu
    obtain ⟨t, _, h⟩ := hu
    simp only [rv, List.mem_cons, List.mem_nil_iff, or_false] at h
    rcases h with rfl | rfl | rfl | rfl <;> rfl
  have hm20 : m ≤ 20 := by omega
  clear hx2 hk hl hx1 hM
  go_enter Try.func4, Try.ntmps4
  go_wp2_with fail
  refine (awake_any _).mono ?_
  rintro e w1 ⟨rfl, hb1⟩
  have HM := Lib.hid hm
  have hmle : m ≤ n := by omega
  clear hm
  go_wp2_with fail
  rw [show (min (n : Int) 20).toNat = m from by have := HM.out; omega]
  refine (clone_any _ m _ _ (hSl w1 hb1) hM1 (by omega)).mono ?_
  rintro e w2 ⟨v, rfl, hb2, ho2⟩
  have hb12 := hb1.trans (hb2.mono hb1.size)
  have hB := hb12.size
  have hB1 := hb1.size
  clear hSl hM1
  have ho2' := ho2
  rcases ho2'.2 with ⟨rfl, hz⟩ | ⟨g, cp, cur, rfl, hg, hh, hc, hcm2, hcs, htk⟩
  · have hM0 : M = [] := List.eq_nil_of_length_eq_zero (by omega)
    subst hM0
    clear ho2' ho2 hz hMk hMl HM
    go_wp2_with fail
    go_loop [5, 23] (fun v5 v => v5 = .slice none 0 0 ∧ v = .int .i64 0) (fun _ _ => 0)
    case atStart => exact ⟨rfl, rfl⟩
    case round =>
      obtain ⟨rfl, rfl⟩ := hrel
      have hbr := hb12
      obtain ⟨M', hM'⟩ : ∃ M' : List RT, M' = [] := ⟨_, rfl⟩
      have hM2 : M'.length ≤ 20 := by rw [hM']; simp
      have hM4 : ∀ x ∈ M', x.2.1.data.toList.length ≤ 400 := by rw [hM']; simp
      have hK1 : Kt w2 (.slice none 0 0) .u8 (ktR M') := by rw [hM']; exact ⟨none, 0, rfl, Nat.le_refl _, Nat.zero_le _, .inl rfl⟩
      have hK2 : Kt w2 (.slice none 0 0) .i64 (ktR M') := by rw [hM']; exact ⟨none, 0, rfl, Nat.le_refl _, Nat.zero_le _, .inl rfl⟩
      clear hM'

      have hjl := joinK_bound (ktR M') (by
        intro x hx
        obtain ⟨y, hy, rfl⟩ := List.mem_map.1 hx
        exact hM4 y hy)
      have hkl : (ktR M').length ≤ 20 := by unfold ktR; rw [List.length_map]; exact hM2
      go_wp2_with fail
      refine (join_any _ (ktR M') _ hK1 (by omega) (by omega)).mono ?_
      rintro e w3 ⟨rfl, hb3⟩
      go_wp2_with fail
      refine (rjoin_any _ (ktR M') _ (hK2.below hb3) (by omega) (by omega)).mono ?_
      rintro e w4 ⟨rfl, hb4⟩
      have hb14 : Below w.heap.size w w4 := (hbr.trans (hb3.mono hbr.size)).trans (hb4.mono (Nat.le_trans hbr.size hb3.size))
      clear hK1 hK2 hb3 hb4 hjl hkl
      go_wp2_with fail
      refine (cut_any s _ hs).mono ?_
      rintro e w5 ⟨rfl, rfl⟩
      obtain ⟨s', hs'⟩ : ∃ s', s' = s.extract 0 400 := ⟨_, rfl⟩
      have hsz' : s'.size ≤ 400 := by rw [hs']; simp; omega
      rw [← hs']
      clear hs'
      go_wp2_with fail
      refine (scan_any s' _ (by omega)).mono ?_
      rintro e w5 ⟨x, rfl, hb5, ho5⟩
      have hb15 := hb14.trans (hb5.mono hb14.size)
      have hl' : s'.data.toList.length ≤ 400 := hsz'
      by_cases he : (scanP s'.data.toList).2.2 = 0
      · have hlaw := joins_law hl' he
        have hS5 := Sl.owned ho5
        have HLAW := Lib.hid hlaw
        have hK5 := Kt.ofP hS5 rfl
        have hkl5 : (ktOf (scanP s'.data.toList).1).length ≤ 1000000 := by unfold ktOf; rw [List.length_map]; omega
        clear hlaw
        rw [he]
        go_wp2_with fail
        refine (join_any _ _ _ hK5 hkl5 (by have := HLAW.out; omega)).mono ?_
        rintro e w6 ⟨rfl, hb6⟩
        have hb16 := hb15.trans (hb6.mono hb15.size)
        have hS6 := hS5.below hb6
        go_wp2_with fail
        refine (scan_any _ _ (by rw [size_mk]; have := HLAW.out; omega)).mono ?_
        rintro e w7 ⟨y, rfl, hb7, ho7⟩
        have hb17 := hb16.trans (hb7.mono hb16.size)
        have hS7 := hS6.below hb7
        rw [show (scanP (joinK (ktOf (scanP s'.data.toList).1))).2.2 = 0 from HLAW.out.1]
        clear hK5 hS5 hS6
        go_wp2_with fail
        refine (plain_any x _ _ _ hS7 rfl (by have := HLAW.out; omega)).mono ?_
        rintro e w8 ⟨x', rfl, hb8, ho8⟩
        have hb18 := hb17.trans (hb8.mono hb17.size)
        go_wp2_with fail
        refine (plain_any y _ _ _ ((Sl.owned ho7).below hb8) rfl (by have := HLAW.out; omega)).mono ?_
        rintro e w9 ⟨y', rfl, hb9, ho9⟩
        have hb19 := hb18.trans (hb9.mono hb18.size)
        go_wp2_with fail
        refine (equal_any x' y' _ _ _ _ _ ((Sl.owned ho8).below hb9) (Sl.owned ho9) (by simp) (by simp)).mono ?_
        rintro e w10 ⟨rfl, hb10⟩
        have hb110 := hb19.trans (hb10.mono hb19.size)
        rw [decide_eq_true HLAW.out.2.1.symm]
        go_wp2_with fail
        go_ret
        exact ⟨rfl, hb110⟩
      · have hne := Lib.hid (scanP_err he)
        have he2 : (((scanP s'.data.toList).2.2 : Int) == 0) = false := by simpa using he
        have he3 : (((scanP s'.data.toList).2.2 : Int) != 0) = true := by simpa using he
        have ho5' := ho5.2
        rw [hne.out] at ho5'
        rcases ho5' with ⟨rfl, _⟩ | ⟨g5, c5, _, rfl, _⟩
        all_goals
          clear he ho5 hs hM2 hM4
          go_wp2_with fail
          go_ret
          exact ⟨rfl, hb15⟩
  · unfold maxLen at hcm2
    have HML := Lib.hid hMl
    clear ho2' hh hcs htk hMl HM
    go_wp2_with fail
    go_loopw [5, 23] (fun v5 v8 wr => ∃ j : Nat, j ≤ m ∧ v8 = .int .i64 j ∧ Below w.heap.size w wr ∧ wr.ownsRow w1.heap.size 36 4 (.slice (some ⟨g, 0, none⟩) m cp) m ((cj M j).flatMap rv) ∧ wr.ownsRow w.heap.size 38 4 v5 j (((M.take j).map cutT).flatMap rw')) (fun _ v8 _ => m - (intOf v8).toNat)
    case atStart => exact ⟨0, by omega, rfl, hb12, by simpa [cj] using ho2, World.ownsRow_nil _ _ _ _⟩
    case round =>
      obtain ⟨j, hj, rfl, hbel, hown, hraw⟩ := hrel
      have hsz := hbel.size
      have hgl := hown.lt g rfl
      by_cases hjm : j < m
      · obtain ⟨x, hx⟩ : ∃ x, M[j]? = some x := ⟨_, List.getElem?_eq_getElem (by rw [HML.out]; exact hjm)⟩
        have hxk := hMk x (List.mem_of_getElem? hx)
        have hcx := cj_get M j x hx
        have q := fun c (hc : c < 4) => (hown.cellAt (j * 4 + c) (by omega)).trans (flat_getG rv (fun _ => rfl) (cj M j) j c x hcx hc)
        have q0 : wr.cell? ⟨g, j * 4, none⟩ = some (.int .u8 x.1) := q 0 (by omega)
        have q1 : wr.cell? ⟨g, j * 4 + 1, none⟩ = some (.string x.2.1) := q 1 (by omega)
        have q2 : wr.cell? ⟨g, j * 4 + 2, none⟩ = some (.int .i64 x.2.2.1) := q 2 (by omega)
        have q3 : wr.cell? ⟨g, j * 4 + 3, none⟩ = some (.int .i64 x.2.2.2) := q 3 (by omega)
        have f1 : wr.frozen? ⟨g, j * 4 + 1, none⟩ = false := hown.frozenAt _
        have hst := (hown.stored (j * 4 + 1) (.string (x.2.1.extract 0 400))).1
        rw [flat_setG rv (fun _ => rfl) 1 (.string (x.2.1.extract 0 400)) (by omega) (cj M j) j x (cutT x) hcx rfl, cj_step M j x hx] at hst
        have hne : ∀ k, u5.ownBlock = some k → k ≠ g := fun k hk e => owns_ne hown hraw (by decide) g rfl (by rw [hk, e])
        have hraw2 := owns_set hraw (a := ⟨g, j * 4 + 1, none⟩) hne (.string (x.2.1.extract 0 400))
        have HST := Lib.hid hst
        have HTK : Hid ((M.take (j + 1)).map cutT = (M.take j).map cutT ++ [cutT x]) := by show _ = _; rw [List.take_add_one, hx]; simp
        have HNE := Lib.hid hne
        clear hx hcx q hst hne
        obtain ⟨xk, xt, xn, xp⟩ := x
        dsimp only at q0 q1 q2 q3 hxk hraw2
        obtain ⟨ct, hct⟩ : ∃ ct, ct = xt.extract 0 400 := ⟨_, rfl⟩
        rw [← hct] at hraw2
        have HCT := Lib.hid hct
        clear hct
        go_wp2_with (first
          | (at_builtin; refine wpList_append_own _ rfl (.tmp 36) (.tmp 42) 28 rfl w.heap.size 38 i0 (.agg #[.int .i64 0, .string ⟨#[]⟩, .int .i64 0, .int .i64 0]) 4 40 Try.underlying28 hi hz0 hz1 hz2 rfl (by decide) _ _ _ rfl (((hraw2.alloc _).alloc _).alloc _) ⟨wr.heap.size + 1 + 1, 0, none⟩ 1 1 [.int .i64 xk, .string ct, .int .i64 xn, .int .i64 xp] rfl rfl ?d1 ?d2 ?d3 ?d4 ?d5 ?_)
          | (go_at_call 11; refine (cut_any xt _ hxk.2.2).mono ?_; rintro e w' ⟨rfl, rfl⟩; rw [← HCT.out])
          | (go_at_call 16; refine (told_any xk xn xp ct _ hxk.1 hxk.2.1).mono ?_; rintro e w' ⟨rfl, rfl⟩))
        case d1 => exact cells_new _ _ _ _ (by simp)
        case d2 => intro u hu; simp at hu; rcases hu with rfl | rfl | rfl | rfl <;> rfl
        case d3 => unfold maxLen; omega
        case d4 => omega
        case d5 => simp; omega
        intro v' w3 hraw' hgrow _
        have hbel' : Below w.heap.size w w3 := ((((hbel.setCell (by exact Nat.le_trans hB1 hgl.1) _).alloc (by simp; omega) _).alloc (by simp; omega) _).alloc (by simp; omega) _).grown hgrow (by simp; omega) (fun b hb => (hraw.lt b hb).1)
        have hst2 := HST.out
        rw [← HCT.out] at hst2
        have hown' := (((hst2.alloc _).alloc _).alloc _).kept hgrow (.inr (fun e => HNE.out g e.symm rfl))
        rw [← List.map_take] at hraw'
        clear hgrow hraw2 hraw hown hst2 hbel
        go_wp2_with fail
        go_roundw
        case rel => exact ⟨j + 1, by omega, by go_num, hbel', by have := hown'; exact this, by rw [HTK.out, List.flatMap_append]; rw [HCT.out] at hraw'; exact hraw'⟩
        case measure => simp [intOf]; omega
      · obtain rfl : j = m := by omega
        have hbr := hbel
        obtain ⟨M', hM'⟩ : ∃ M' : List RT, M' = M.map cutT := ⟨_, rfl⟩
        have hcj : cj M j = M' := by rw [hM']; unfold cj; rw [List.take_of_length_le (by have := HML.out; omega), List.drop_of_length_le (by have := HML.out; omega), List.append_nil]
        have htk : (M.take j).map cutT = M' := by rw [hM', List.take_of_length_le (by have := HML.out; omega)]
        rw [hcj] at hown
        rw [htk] at hraw
        have hM3 : M'.length = j := by rw [hM', List.length_map]; exact HML.out
        have hM2 : M'.length ≤ 20 := by omega
        have hM4 : ∀ x ∈ M', x.2.1.data.toList.length ≤ 400 := by
          intro x hx
          rw [hM'] at hx
          obtain ⟨y, hy, rfl⟩ := List.mem_map.1 hx
          show (y.2.1.extract 0 400).data.toList.length ≤ 400
          rw [ext_list, List.length_take]; omega
        have hMk' : ∀ x ∈ M', 0 ≤ x.1 := by
          intro x hx
          rw [hM'] at hx
          obtain ⟨y, hy, rfl⟩ := List.mem_map.1 hx
          exact (hMk y hy).1
        have hK1 := Kt.ofRaw (kk := .u8) (f := rv) (fun _ => rfl) (Sl.owned hown) hM3 hMk'
        have hK2 := Kt.ofRaw (kk := .i64) (f := rw') (fun _ => rfl) (Sl.owned hraw) hM3 hMk'
        have hrl := (Sl.owned hraw).2
        obtain ⟨ra, rc, rfl, _⟩ := hrl
        clear hM' hcj htk hown hraw hMk HML hM3 hMk'

        have hjl := joinK_bound (ktR M') (by
          intro x hx
          obtain ⟨y, hy, rfl⟩ := List.mem_map.1 hx
          exact hM4 y hy)
        have hkl : (ktR M').length ≤ 20 := by unfold ktR; rw [List.length_map]; exact hM2
        go_wp2_with fail
        refine (join_any _ (ktR M') _ hK1 (by omega) (by omega)).mono ?_
        rintro e w3 ⟨rfl, hb3⟩
        go_wp2_with fail
        refine (rjoin_any _ (ktR M') _ (hK2.below hb3) (by omega) (by omega)).mono ?_
        rintro e w4 ⟨rfl, hb4⟩
        have hb14 : Below w.heap.size w w4 := (hbr.trans (hb3.mono hbr.size)).trans (hb4.mono (Nat.le_trans hbr.size hb3.size))
        clear hK1 hK2 hb3 hb4 hjl hkl
        go_wp2_with fail
        refine (cut_any s _ hs).mono ?_
        rintro e w5 ⟨rfl, rfl⟩
        obtain ⟨s', hs'⟩ : ∃ s', s' = s.extract 0 400 := ⟨_, rfl⟩
        have hsz' : s'.size ≤ 400 := by rw [hs']; simp; omega
        rw [← hs']
        clear hs'
        go_wp2_with fail
        refine (scan_any s' _ (by omega)).mono ?_
        rintro e w5 ⟨x, rfl, hb5, ho5⟩
        have hb15 := hb14.trans (hb5.mono hb14.size)
        have hl' : s'.data.toList.length ≤ 400 := hsz'
        by_cases he : (scanP s'.data.toList).2.2 = 0
        · have hlaw := joins_law hl' he
          have hS5 := Sl.owned ho5
          have HLAW := Lib.hid hlaw
          have hK5 := Kt.ofP hS5 rfl
          have hkl5 : (ktOf (scanP s'.data.toList).1).length ≤ 1000000 := by unfold ktOf; rw [List.length_map]; omega
          clear hlaw
          rw [he]
          go_wp2_with fail
          refine (join_any _ _ _ hK5 hkl5 (by have := HLAW.out; omega)).mono ?_
          rintro e w6 ⟨rfl, hb6⟩
          have hb16 := hb15.trans (hb6.mono hb15.size)
          have hS6 := hS5.below hb6
          go_wp2_with fail
          refine (scan_any _ _ (by rw [size_mk]; have := HLAW.out; omega)).mono ?_
          rintro e w7 ⟨y, rfl, hb7, ho7⟩
          have hb17 := hb16.trans (hb7.mono hb16.size)
          have hS7 := hS6.below hb7
          rw [show (scanP (joinK (ktOf (scanP s'.data.toList).1))).2.2 = 0 from HLAW.out.1]
          clear hK5 hS5 hS6
          go_wp2_with fail
          refine (plain_any x _ _ _ hS7 rfl (by have := HLAW.out; omega)).mono ?_
          rintro e w8 ⟨x', rfl, hb8, ho8⟩
          have hb18 := hb17.trans (hb8.mono hb17.size)
          go_wp2_with fail
          refine (plain_any y _ _ _ ((Sl.owned ho7).below hb8) rfl (by have := HLAW.out; omega)).mono ?_
          rintro e w9 ⟨y', rfl, hb9, ho9⟩
          have hb19 := hb18.trans (hb9.mono hb18.size)
          go_wp2_with fail
          refine (equal_any x' y' _ _ _ _ _ ((Sl.owned ho8).below hb9) (Sl.owned ho9) (by simp) (by simp)).mono ?_
          rintro e w10 ⟨rfl, hb10⟩
          have hb110 := hb19.trans (hb10.mono hb19.size)
          rw [decide_eq_true HLAW.out.2.1.symm]
          go_wp2_with fail
          go_ret
          exact ⟨rfl, hb110⟩
        · have hne := Lib.hid (scanP_err he)
          have he2 : (((scanP s'.data.toList).2.2 : Int) == 0) = false := by simpa using he
          have he3 : (((scanP s'.data.toList).2.2 : Int) != 0) = true := by simpa using he
          have ho5' := ho5.2
          rw [hne.out] at ho5'
          rcases ho5' with ⟨rfl, _⟩ | ⟨g5, c5, _, rfl, _⟩
          all_goals
            clear he ho5 hs hM2 hM4
            go_wp2_with fail
            go_ret
            exact ⟨rfl, hb15⟩

end Go.Proofs.Ytnjaflldlhiefaa
