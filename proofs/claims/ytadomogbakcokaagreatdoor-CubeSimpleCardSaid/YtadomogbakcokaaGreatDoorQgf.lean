/- Several of the texts below, joined: ShE BtU BtV BtW BtX BtY BtZ BuA BuB. -/
import Derived.Shelf.Slices.Equal
import Derived.Shelf.Slices.Empties2
import Derived.Test.YtadomogbakcokaaGreatDoorProg
import Derived.Test.YtadomogbakcokaaGreatDoorQge
import Derived.Laws.OwnMore
section
/- Contracts of the shelf, laid by the kit; a part. -/
namespace Go.Proofs
open Go.Shelf
def Tryz.lays111_ren : Go.Shelf.Ren := ⟨fun | 111 => 45 | n => n, fun | 28 => 52 | 3 => 3 | 4 => 4 | 0 => 0 | n => n, fun | n => n⟩
theorem Tryz.lays111 : Go.Proofs.Lays.n111 Tryz.prog Tryz.lays111_ren := {
  mixed := by kernel_rfl
  f111 := Tryz.func45.trans (congrArg some (by kernel_rfl))
  t0 := Tryz.underlying0
  a0 := Tryz.isAgg0
  z0 := Tryz.sizeOf0
  v0 := Tryz.zeroValue0
  t3 := Tryz.underlying3
  a3 := Tryz.isAgg3
  z3 := Tryz.sizeOf3
  v3 := Tryz.zeroValue3
  t4 := Tryz.underlying4
  a4 := Tryz.isAgg4
  z4 := Tryz.sizeOf4
  v4 := Tryz.zeroValue4
  t28 := Tryz.underlying52
  a28 := Tryz.isAgg52
  z28 := Tryz.sizeOf52
  v28 := Tryz.zeroValue52 }
open Go.RowKit Go.Lib in
theorem Tryz.slices_Equal_int (b1 o1 n c b2 o2 m d : Nat) (xs ys : List Int) (w : World) (hx : n ≤ xs.length) (hy : m ≤ ys.length) (hbig : n ≤ 9223372036854775807) (hbig2 : m ≤ 9223372036854775807) (hc1 : ∀ j, j < xs.length → w.cell? ⟨b1, o1 + j, none⟩ = some (.int .i64 (xs.getD j 0))) (hc2 : ∀ j, j < ys.length → w.cell? ⟨b2, o2 + j, none⟩ = some (.int .i64 (ys.getD j 0))) :
    Calls Tryz.prog 45 #[.slice (some ⟨b1, o1, none⟩) n c, .slice (some ⟨b2, o2, none⟩) m d] w fun e w' => e = .returned (.bool (xs.take n == ys.take m)) ∧ ∃ q, w' = w.drewN q := Any.slices_Equal_int Tryz.lays111 b1 o1 n c b2 o2 m d xs ys w hx hy hbig hbig2 hc1 hc2
open Go.RowKit Go.Lib in
theorem Tryz.slices_Equal_int_empty (a1 a2 : Option Addr) (c m d : Nat) (w : World) (hbig2 : m ≤ 9223372036854775807) :
    Calls Tryz.prog 45 #[.slice a1 0 c, .slice a2 m d] w fun e w' => e = .returned (.bool (decide (m = 0))) ∧ w' = w := Any.slices_Equal_int_empty Tryz.lays111 a1 a2 c m d w hbig2
open Go.RowKit Go.Lib in
theorem Tryz.slices_Equal_int_lens (a1 a2 : Option Addr) (n c m d : Nat) (w : World) (hnm : n ≠ m) :
    Calls Tryz.prog 45 #[.slice a1 n c, .slice a2 m d] w fun e w' => e = .returned (.bool false) ∧ w' = w := Any.slices_Equal_int_lens Tryz.lays111 a1 a2 n c m d w hnm

end Go.Proofs
end

section
/- Contracts: slices.Equal of numbers and of bytes, few, is. -/
namespace Go.Proofs.YtadomogbakcokaaGreatDoor
open Go.RowKit Go.PlainAid
set_option linter.unusedVariables false
set_option linter.unusedSimpArgs false
set_option maxHeartbeats 2000000

/-- The numbers of a list of naturals. -/
def cs (l : List Nat) : List Int := l.map (fun x : Nat => (x : Int))
theorem cs_inj : ∀ {l r : List Nat}, cs l = cs r → l = r
  | [], [], _ => rfl
  | [], _ :: _, h => by simp [cs] at h
  | _ :: _, [], h => by simp [cs] at h
  | x :: l, y :: r, h => by
    simp only [cs, List.map_cons, List.cons.injEq] at h
    rw [Int.ofNat_inj.1 h.1, cs_inj (l := l) (r := r) h.2]
theorem cs_dec (l r : List Nat) : decide (cs l = cs r) = decide (l = r) := by
  rw [decide_eq_decide]; exact ⟨cs_inj, fun h => by rw [h]⟩
theorem i64v_cs (l : List Nat) : l.map i64v = (cs l).map fun z => Value.int .i64 z := by simp [cs, i64v]
theorem cs_length (l : List Nat) : (cs l).length = l.length := by simp [cs]
theorem iw_of_i64 {w : World} {B k : Nat} {v : Value} {l : List Nat} (h : w.ownsRow B 3 1 v k (l.map i64v)) (hz : l.length = k) : ∃ a cap, v = .slice a k cap ∧ Iw w a k cap (cs l) := by
  rw [i64v_cs] at h
  exact iw_of_row h (by rw [cs_length]; exact hz)
theorem Iw.take {w : World} {a : Option Addr} {n cap : Nat} {zs : List Int} (h : Iw w a n cap zs) (m : Nat) : Iw w a (min n m) cap (zs.take m) := by
  obtain ⟨h1, h2, h3, h4⟩ := h
  refine ⟨by rw [List.length_take]; omega, by omega, h3, ?_⟩
  rcases h4 with ⟨h4, h5, h6⟩ | ⟨b, o, h4, h5, h6⟩
  · exact .inl ⟨h4, by omega, h6⟩
  · refine .inr ⟨b, o, h4, h5, fun j hj => ?_⟩
    rw [h6 j (by omega)]
    unfold zg
    rw [List.getD_eq_getElem?_getD, List.getD_eq_getElem?_getD, List.getElem?_take_of_lt (by omega)]

theorem equalI_any (a b : Option Addr) (n c m d : Nat) (xs ys : List Int) (w : World) (h : Iw w a n c xs) (k : Iw w b m d ys) :
    Calls Tryz.prog 45 #[.slice a n c, .slice b m d] w fun e w' => e = .returned (.bool (decide (xs = ys))) ∧ Below w.heap.size w w' := by
  obtain ⟨h1, h2, h3, h4⟩ := h
  obtain ⟨k1, k2, k3, k4⟩ := k
  by_cases hnm : n = m
  · by_cases h0 : n = 0
    · have hx : xs = [] := List.eq_nil_of_length_eq_zero (by omega)
      have hy : ys = [] := List.eq_nil_of_length_eq_zero (by omega)
      subst hx; subst hy; subst h0
      refine (Tryz.slices_Equal_int_empty a b c m d w (by omega)).mono ?_
      rintro e w' ⟨rfl, rfl⟩
      exact ⟨by rw [decide_eq_true hnm.symm]; simp, Below.refl _ _⟩
    · rcases h4 with ⟨_, h4, _⟩ | ⟨b1, o1, rfl, hb1, hc1⟩
      · exact absurd h4 h0
      · rcases k4 with ⟨_, k4, _⟩ | ⟨b2, o2, rfl, hb2, hc2⟩
        · exact absurd (hnm.trans k4) h0
        · refine (Tryz.slices_Equal_int b1 o1 n c b2 o2 m d xs ys w (by omega) (by omega) (by omega) (by omega) (fun j hj => hc1 j (by omega)) (fun j hj => hc2 j (by omega))).mono ?_
          rintro e w' ⟨rfl, q, rfl⟩
          refine ⟨?_, bdr (Below.refl _ _) q⟩
          rw [List.take_of_length_le (by omega), List.take_of_length_le (by omega)]
          apply ret_bool
          rw [Bool.eq_iff_iff, beq_iff_eq, decide_eq_true_iff]
  · refine (Tryz.slices_Equal_int_lens a b n c m d w hnm).mono ?_
    rintro e w' ⟨rfl, rfl⟩
    refine ⟨?_, Below.refl _ _⟩
    rw [decide_eq_false]
    clear h4 k4
    intro e
    have e2 := congrArg List.length e
    omega

theorem u8_ne {x y : Nat} (h : x ≠ y) : ((x : Int) != (y : Int)) = true := by
  rw [bne_iff_ne]; omega
set_option maxRecDepth 100000 in
theorem equalB_any (a b : Option Addr) (n c m d : Nat) (ps qs : List Nat) (w : World) (h : Bw w a n c ps) (k : Bw w b m d qs) :
    Calls Tryz.prog 55 #[.slice a n c, .slice b m d] w fun e w' => e = .returned (.bool (decide (ps = qs))) ∧ Below w.heap.size w w' := by
  obtain ⟨h1, h2, h3, _, h4⟩ := h
  obtain ⟨k1, k2, k3, _, k4⟩ := k
  by_cases hnm : n = m
  · subst hnm
    by_cases h0 : n = 0
    · have hx : ps = [] := List.eq_nil_of_length_eq_zero (by omega)
      have hy : qs = [] := List.eq_nil_of_length_eq_zero (by omega)
      have HX : Hid (decide (ps = qs) = true) := by rw [hx, hy]; exact decide_eq_true rfl
      clear h4 k4 h1 k1 hx hy
      subst h0
      go_enter Tryz.func55, Tryz.ntmps55
      go_wp2_with fail
      go_loopg [13] 0 (fun _ s13 wr => s13 = .int .i64 0 ∧ wr = w)
      case atStart => exact ⟨rfl, rfl⟩
      case round =>
        obtain ⟨rfl, rfl⟩ := hrel
        go_wp2_with fail
        go_ret
        exact ⟨ret_bool HX.out.symm, Below.refl _ _⟩
    · obtain ⟨b1, o1, rfl, hb1, hc1⟩ : ∃ b o, a = some ⟨b, o, none⟩ ∧ b < w.heap.size ∧ ∀ j, j < n → w.cell? ⟨b, o + j, none⟩ = some (.int .u8 (wd ps j : Nat)) := by
        rcases h4 with h4 | h4
        · exact absurd h4 h0
        · exact h4
      obtain ⟨b2, o2, rfl, hb2, hc2⟩ : ∃ b' o, b = some ⟨b', o, none⟩ ∧ b' < w.heap.size ∧ ∀ j, j < n → w.cell? ⟨b', o + j, none⟩ = some (.int .u8 (wd qs j : Nat)) := by
        rcases k4 with k4 | k4
        · exact absurd k4 h0
        · exact k4
      have H1 := Lib.hid h1
      have K1 := Lib.hid k1
      have HC1 := Lib.hid hc1
      have HC2 := Lib.hid hc2
      clear h4 k4 h1 k1 hc1 hc2
      go_enter Tryz.func55, Tryz.ntmps55
      go_wp2_with fail
      go_loopg [13] n (fun g s13 wr => ∃ k q : Nat, k ≤ n ∧ n - k ≤ g ∧ s13 = .int .i64 k ∧ wr = w.drewN q ∧ Hid (∀ j, j < k → wd ps j = wd qs j))
      case atStart => exact ⟨0, 0, Nat.zero_le _, by omega, rfl, rfl, fun j hj => absurd hj (Nat.not_lt_zero _)⟩
      case round =>
        obtain ⟨k, q, hk, hg, rfl, rfl, HE⟩ := hrel
        by_cases hlt : k < n
        · have g1 : w.cell? ⟨b1, o1 + k, none⟩ = some (.int .u8 (wd ps k : Nat)) := HC1.out k hlt
          have g2 : w.cell? ⟨b2, o2 + k, none⟩ = some (.int .u8 (wd qs k : Nat)) := HC2.out k hlt
          by_cases hxy : wd ps k = wd qs k
          · have HXY := Lib.hid hxy
            rw [← hxy] at g2
            clear hxy
            generalize wd ps k = x at g1 g2
            go_wp2_with fail
            go_region
            go_wp2_with fail
            go_roundg (n - (k + 1))
            case measure => omega
            case rel => exact ⟨k + 1, q + 1, by omega, by omega, by go_num, rfl, fun j hj => by
              by_cases e : j = k
              · subst e; exact HXY.out
              · exact HE.out j (by omega)⟩
          · have HXY := Lib.hid hxy
            have hne := u8_ne hxy
            clear hxy
            have HF : Hid (decide (ps = qs) = false) := decide_eq_false (fun e => HXY.out (by rw [e]))
            generalize wd ps k = x at g1 hne
            generalize wd qs k = y at g2 hne
            go_wp2_with fail
            go_region
            go_wp2_with fail
            go_ret
            exact ⟨ret_bool HF.out.symm, bdr (Below.refl _ _) (q + 1)⟩
        · have hkn : k = n := by omega
          have HT : Hid (decide (ps = qs) = true) := decide_eq_true (ext_of_wd (by rw [H1.out, K1.out]) fun j => by
            by_cases hj : j < k
            · exact HE.out j hj
            · rw [wd_out (by rw [H1.out]; omega), wd_out (by rw [K1.out]; omega)])
          clear hkn
          go_wp2_with fail
          go_ret
          exact ⟨ret_bool HT.out.symm, bdr (Below.refl _ _) q⟩
  · have HF : Hid (decide (ps = qs) = false) := decide_eq_false (fun e => hnm (by rw [← h1, ← k1, e]))
    have hnm' : ¬ (n : Int) = (m : Int) := by omega
    clear h4 k4 h1 k1 hnm
    go_enter Tryz.func55, Tryz.ntmps55
    go_wp2_with fail
    go_ret
    exact ⟨ret_bool HF.out.symm, Below.refl _ _⟩

end Go.Proofs.YtadomogbakcokaaGreatDoor
end

section
/- Contracts of the reference: Has, With, Of. -/
namespace Go.Proofs.YtadomogbakcokaaGreatDoor
open Go.RowKit Go.PlainAid
set_option linter.unusedVariables false
set_option linter.unusedSimpArgs false
set_option maxHeartbeats 2000000

theorem Iw.at {w : World} {a : Option Addr} {n cap : Nat} {zs : List Int} (h : Iw w a n cap zs) {k : Nat} (hk : k < n) : ∃ b o, a = some ⟨b, o, none⟩ ∧ b < w.heap.size ∧ w.cell? ⟨b, o + k, none⟩ = some (.int .i64 (zg zs k)) := by
  obtain ⟨h1, h2, h3, ⟨_, h4, _⟩ | ⟨b, o, h4, h5, h6⟩⟩ := h
  · omega
  · exact ⟨b, o, h4, h5, h6 k hk⟩
theorem zg_get {zs : List Int} {k : Nat} (h : k < zs.length) : zg zs k = zs[k] := by
  unfold zg; rw [List.getD_eq_getElem?_getD, List.getElem?_eq_getElem h]; rfl
theorem zg_cs (l : List Nat) (k : Nat) : zg (cs l) k = ((wd l k : Nat) : Int) := by
  unfold zg wd cs
  rw [List.getD_eq_getElem?_getD, List.getD_eq_getElem?_getD, List.getElem?_map]
  cases l[k]? <;> rfl
theorem mem_cs {l : List Nat} {x : Nat} : (x : Int) ∈ cs l ↔ x ∈ l := by
  unfold cs; rw [List.mem_map]
  exact ⟨fun ⟨y, h, e⟩ => by rw [← Int.ofNat_inj.1 e]; exact h, fun h => ⟨x, h, rfl⟩⟩
theorem take_wd {l : List Nat} {k : Nat} (h : k < l.length) : l.take (k + 1) = l.take k ++ [wd l k] := by
  rw [List.take_succ_eq_append_getElem h, wd_get h]

/-- What a function that makes a list returns. -/
def RowPost (w : World) (l : List Nat) (e : Ending) (w' : World) : Prop := ∃ v, e = .returned v ∧ w'.ownsRow w.heap.size 3 1 v l.length (l.map i64v) ∧ Below w.heap.size w w'
def RowI (w : World) (B : Nat) (v : Value) (l : List Nat) : Prop := w.ownsRow B 3 1 v l.length (l.map i64v)
theorem RowI.nil (w : World) (B : Nat) : RowI w B (.slice none 0 0) [] := World.ownsRow_nil w B 3 1
theorem RowI.alloc {w : World} {B : Nat} {v : Value} {l : List Nat} (h : RowI w B v l) (o : Obj) : RowI (w.alloc o) B v l := World.ownsRow.alloc h o
theorem owns_mono {w : World} {B B' size n : Nat} {e : TypeId} {v : Value} {xs : List Value} (h : w.ownsRow B' e size v n xs) (hB : B ≤ B') : w.ownsRow B e size v n xs := by
  refine ⟨h.1, ?_⟩
  rcases h.2 with hn | ⟨g, cap, cur, rfl, hg, r⟩
  · exact .inl hn
  · exact .inr ⟨g, cap, cur, rfl, Nat.le_trans hB hg, r⟩
theorem RowI.iw {w : World} {B : Nat} {v : Value} {l : List Nat} (h : RowI w B v l) : ∃ a cap, v = .slice a l.length cap ∧ Iw w a l.length cap (cs l) := iw_of_i64 h rfl

theorem run_append_iw (w : World) (base : Nat) (ty : TypeId) (i : TypeInfo) (hi : Tryz.prog.info? 3 = some i) (hz0 : i.zero = some (.int .i64 0)) (hz1 : i.size = 1) (hz2 : i.bytes = 8)
    (v : Value) (n : Nat) (xs : List Value) (hown : w.ownsRow base 3 1 v n xs) (a : Option Addr) (m c : Nat) (zs : List Int) (h : Iw w a m c zs) (hb : n + m ≤ 1000000) (hbase : base ≤ w.heap.size) :
    ∃ v' w', (Builtin.append_ #[52, 52] ty #[v, .slice a m c]).run Tryz.prog w = .ok v' w' ∧ w'.ownsRow base 3 1 v' (n + m) (xs ++ zs.map fun z => .int .i64 z) ∧ w.grownBy w' v.ownBlock := by
  obtain ⟨h1, h2, h3, ⟨rfl, rfl, rfl⟩ | ⟨b, o, rfl, hb2, hc⟩⟩ := h
  · have : zs = [] := List.eq_nil_of_length_eq_zero h1
    subst this
    refine ⟨v, w, run_append_owned_none w base _ ty _ i 1 Tryz.underlying52 hi v n xs hown, by simpa using hown, rfl, rfl, rfl, Nat.le_refl _, fun _ _ _ => rfl⟩
  · obtain ⟨v', w', r1, r2, r3, _⟩ := run_append_own w base 52 ty 3 i (.int .i64 0) 1 8 Tryz.underlying52 hi hz0 hz1 hz2 rfl (by decide) v n xs hown ⟨b, o, none⟩ m c (zs.map fun z => .int .i64 z) (by simpa using h1)
      (fun j u hu => by
        rw [Addr.add_lit]
        rw [List.getElem?_map] at hu
        cases hj : zs[j]? with
        | none => rw [hj] at hu; cases hu
        | some z =>
          rw [hj] at hu
          have hlt : j < zs.length := (List.getElem?_eq_some_iff.1 hj).1
          rw [hc j (by omega)]
          rw [← Option.some.inj hu]
          unfold zg
          rw [List.getD_eq_getElem?_getD, hj]; rfl)
      (fun u hu => by rw [List.mem_map] at hu; obtain ⟨z, _, rfl⟩ := hu; rfl) (by unfold maxLen; omega) (by omega) hbase
    exact ⟨v', w', r1, r2, r3⟩
theorem wpList_append_iw {w : World} {ops : Array Oper} {rest : List Oper} {o : Oper} {a : Act} {Q : Exit → Act → World → Prop} (hgd : o.guard = none) (s x : Operand)
    (ho : o.op = .call { callee := .builtin .append, args := #[s, x], argTypes := #[52, 52] }) (base : Nat) (i : TypeInfo) (hi : Tryz.prog.info? 3 = some i) (hz0 : i.zero = some (.int .i64 0)) (hz1 : i.size = 1) (hz2 : i.bytes = 8)
    (v : Value) (n : Nat) (xs : List Value) (hs : a.eval s = v) (hown : w.ownsRow base 3 1 v n xs) (ad : Option Addr) (m c : Nat) (zs : List Int) (hx : a.eval x = .slice ad m c) (h : Iw w ad m c zs) (hb : n + m ≤ 1000000) (hbase : base ≤ w.heap.size)
    (hK : ∀ v' w', w'.ownsRow base 3 1 v' (n + m) (xs ++ zs.map fun z => .int .i64 z) → w.grownBy w' v.ownBlock → wpList Tryz.prog ops Q rest (a.put o.dst v') w') : wpList Tryz.prog ops Q (o :: rest) a w := by
  refine wpList_plain hgd fun K hK' => ?_
  obtain ⟨v', w', hr, h2, h3⟩ := run_append_iw w base o.type i hi hz0 hz1 hz2 v n xs hown ad m c zs h hb hbase
  unfold Oper.wp
  simp [execOp, ho, resolve, invoke, builtin, hs, hx, hr, Result.andThen]
  exact hK' _ _ (hK v' w' h2 h3)
theorem empty_rowI (w : World) : (w.alloc (.cells #[] 3)).ownsRow w.heap.size 3 1 (.slice (some ⟨w.heap.size, 0, none⟩) 0 0) 0 [] :=
  World.ownsRow_lit w #[] 0 (Nat.le_refl _) (by unfold maxLen; omega) rfl

/-- A list with i in its place. -/
def insL (l : List Nat) (i : Nat) : List Nat := l.filter (fun x => decide (x < i)) ++ i :: l.filter (fun x => decide (i < x))
def WAt (l : List Nat) (i k : Nat) (out : List Nat) (d : Bool) : Prop := d = (l.take k).any (fun x => decide (i < x)) ∧ out = if d then insL (l.take k) i else l.take k
theorem WAt.zero (l : List Nat) (i : Nat) : WAt l i 0 [] false := ⟨rfl, rfl⟩
theorem take_lt {l : List Nat} (hl : Asc l) {k : Nat} (hk : k < l.length) : ∀ x ∈ l.take k, x < wd l k := by
  intro x hx
  obtain ⟨j, hj, rfl⟩ := List.getElem_of_mem hx
  rw [List.length_take] at hj
  rw [List.getElem_take, wd_get hk]
  exact List.pairwise_iff_getElem.1 hl.1 j k (by omega) hk (by omega)
theorem WAt.first {l : List Nat} {i k : Nat} {out : List Nat} (h : WAt l i k out false) (hl : Asc l) (hi : i ∉ l) (hk : k < l.length) (hx : i < wd l k) : WAt l i (k + 1) (out ++ [i] ++ [wd l k]) true := by
  obtain ⟨h1, h2⟩ := h
  rw [if_neg (by decide)] at h2
  have hsm : ∀ x ∈ l.take k, x < i := fun x hx => by
    have h3 : decide (i < x) = false := by
      have := List.any_eq_false.1 h1.symm x hx
      simpa using this
    have h4 : x ≠ i := fun e => hi (e ▸ List.mem_of_mem_take hx)
    have h5 := of_decide_eq_false h3
    omega
  refine ⟨by rw [take_wd hk]; simp [hx], ?_⟩
  rw [if_pos rfl, take_wd hk]
  unfold insL
  rw [List.filter_append, List.filter_append, (List.filter_eq_self (l := l.take k)).2 (fun x hx => by simpa using hsm x hx), (List.filter_eq_nil_iff (l := l.take k)).2 (fun x hx => by have := hsm x hx; simp; omega), h2]
  have e1 : decide (wd l k < i) = false := decide_eq_false (by omega)
  have e2 : decide (i < wd l k) = true := decide_eq_true hx
  simp [List.filter_cons, e1, e2]
theorem WAt.late {l : List Nat} {i k : Nat} {out : List Nat} (h : WAt l i k out true) (hl : Asc l) (hk : k < l.length) : i < wd l k ∧ WAt l i (k + 1) (out ++ [wd l k]) true := by
  obtain ⟨h1, h2⟩ := h
  rw [if_pos rfl] at h2
  obtain ⟨y, hy, hy2⟩ := List.any_eq_true.1 h1.symm
  have h3 := take_lt hl hk y hy
  have h4 : i < wd l k := by have := of_decide_eq_true hy2; omega
  refine ⟨h4, by rw [take_wd hk]; simp [h4], ?_⟩
  rw [if_pos rfl, take_wd hk, h2]
  unfold insL
  have e1 : decide (wd l k < i) = false := decide_eq_false (by omega)
  have e2 : decide (i < wd l k) = true := decide_eq_true h4
  simp [List.filter_append, List.filter_cons, e1, e2]
theorem WAt.early {l : List Nat} {i k : Nat} {out : List Nat} (h : WAt l i k out false) (hk : k < l.length) (hx : ¬ i < wd l k) : WAt l i (k + 1) (out ++ [wd l k]) false := by
  obtain ⟨h1, h2⟩ := h
  rw [if_neg (by decide)] at h2
  refine ⟨?_, ?_⟩
  · rw [take_wd hk, List.any_append, ← h1]; simp [hx]
  · rw [if_neg (by decide), take_wd hk, h2]
theorem mem_withL {l : List Nat} {i : Nat} (hi : i ≤ 4095) {x : Nat} : x ∈ withL l (i : Int) ↔ x < 4096 ∧ (x ∈ l ∨ x = i) := by
  unfold withL; rw [if_pos ⟨by omega, by omega⟩]; simp
theorem asc_withL {l : List Nat} (h : Asc l) (i : Int) : Asc (withL l i) := by
  unfold withL
  split
  · exact ⟨(pw_range 4096).filter _, fun x hx => by simp at hx; exact hx.1⟩
  · exact h
theorem withL_has {l : List Nat} (hl : Asc l) {i : Nat} (hi : i ≤ 4095) (hm : i ∈ l) : withL l (i : Int) = l :=
  asc_ext (asc_withL hl _) hl fun x => by
    rw [mem_withL hi]
    exact ⟨fun ⟨h, k⟩ => by rcases k with k | k; exact k; exact k ▸ hm, fun h => ⟨hl.2 x h, .inl h⟩⟩
theorem withL_out {l : List Nat} {i : Int} (h : ¬ (0 ≤ i ∧ i ≤ 4095)) : withL l i = l := by unfold withL; rw [if_neg h]
theorem insL_asc {l : List Nat} (hl : Asc l) {i : Nat} (hi : i ≤ 4095) : Asc (insL l i) := by
  refine ⟨?_, fun x hx => ?_⟩
  · unfold insL
    rw [List.pairwise_append, List.pairwise_cons]
    refine ⟨hl.1.filter _, ⟨fun y hy => by simp at hy; exact hy.2, hl.1.filter _⟩, fun x hx y hy => ?_⟩
    simp at hx hy
    rcases hy with rfl | hy
    · exact hx.2
    · omega
  · unfold insL at hx
    simp at hx
    rcases hx with hx | rfl | hx
    · exact hl.2 x hx.1
    · omega
    · exact hl.2 x hx.1
theorem insL_with {l : List Nat} (hl : Asc l) {i : Nat} (hi : i ≤ 4095) (hn : i ∉ l) : insL l i = withL l (i : Int) :=
  asc_ext (insL_asc hl hi) (asc_withL hl _) fun x => by
    rw [mem_withL hi]
    unfold insL
    simp only [List.mem_append, List.mem_filter, List.mem_cons, decide_eq_true_eq]
    refine ⟨fun h => ?_, fun ⟨h1, h⟩ => ?_⟩
    · rcases h with h | rfl | h
      · exact ⟨hl.2 x h.1, .inl h.1⟩
      · exact ⟨by omega, .inr rfl⟩
      · exact ⟨hl.2 x h.1, .inl h.1⟩
    · by_cases e : x = i
      · exact .inr (.inl e)
      · rcases h with h | h
        · by_cases hx : x < i
          · exact .inl ⟨h, hx⟩
          · exact .inr (.inr ⟨h, by omega⟩)
        · exact absurd h e
theorem WAt.doneT {l : List Nat} {i k : Nat} {out : List Nat} (h : WAt l i k out true) (hl : Asc l) (hi : i ≤ 4095) (hn : i ∉ l) (hk : k = l.length) : out = withL l (i : Int) := by
  rw [h.2, if_pos rfl, hk, List.take_length, insL_with hl hi hn]
theorem WAt.doneF {l : List Nat} {i k : Nat} {out : List Nat} (h : WAt l i k out false) (hl : Asc l) (hi : i ≤ 4095) (hn : i ∉ l) (hk : k = l.length) : out ++ [i] = withL l (i : Int) := by
  rw [h.2, if_neg (by decide), hk, List.take_length, ← insL_with hl hi hn]
  have h1 := h.1
  rw [hk, List.take_length] at h1
  have hsm : ∀ x ∈ l, x < i := fun x hx => by
    have h3 : decide (i < x) = false := by
      have := List.any_eq_false.1 h1.symm x hx
      simpa using this
    have h4 : x ≠ i := fun e => hn (e ▸ hx)
    have h5 := of_decide_eq_false h3
    omega
  unfold insL
  rw [List.filter_eq_self.2 (fun x hx => by simpa using hsm x hx), List.filter_eq_nil_iff.2 (fun x hx => by have := hsm x hx; simp; omega)]
end Go.Proofs.YtadomogbakcokaaGreatDoor
end

section
/- Contracts of the reference: With, Of, Below, Minus, And. -/
namespace Go.Proofs.YtadomogbakcokaaGreatDoor
open Go.RowKit Go.PlainAid
set_option linter.unusedVariables false
set_option linter.unusedSimpArgs false
set_option maxHeartbeats 2000000

theorem asc_len {l : List Nat} (h : Asc l) : l.length ≤ 4096 := asc_length h
theorem rowI_push {w : World} {B : Nat} {v : Value} {l : List Nat} {x : Nat} (h : w.ownsRow B 3 1 v (l.length + 1) (l.map i64v ++ [.int .i64 (x : Nat)])) : RowI w B v (l ++ [x]) := by
  unfold RowI
  rw [List.length_append, List.map_append]
  exact h
theorem below_push {w wr w1 : World} {B : Nat} {v : Value} {l : List Nat} {o : Obj} (hb : Below w.heap.size w wr) (hr : RowI wr w.heap.size v l) (hg : (wr.alloc o).grownBy w1 v.ownBlock) : Below w.heap.size w w1 :=
  (hb.alloc hb.size _).grown hg (by have := hb.size; simp; omega) (fun b hb => (World.ownsRow.lt hr b hb).1)

/-- The reference's Of. -/
theorem ofL_nil : ofL [] = [] := by unfold ofL; simp
theorem ofL_snoc (zs : List Int) (x : Int) : withL (ofL zs) x = ofL (zs ++ [x]) := by
  refine asc_ext (asc_withL (asc_ofL _) _) (asc_ofL _) fun y => ?_
  rw [mem_ofL, List.mem_append, List.mem_singleton]
  by_cases h : 0 ≤ x ∧ x ≤ 4095
  · obtain ⟨m, rfl⟩ : ∃ m : Nat, x = m := ⟨x.toNat, by omega⟩
    rw [mem_withL (by omega), mem_ofL, Int.ofNat_inj]
    constructor
    · rintro ⟨h1, ⟨_, h2⟩ | h2⟩
      · exact ⟨h1, .inl h2⟩
      · exact ⟨h1, .inr h2⟩
    · rintro ⟨h1, h2 | h2⟩
      · exact ⟨h1, .inl ⟨h1, h2⟩⟩
      · exact ⟨h1, .inr h2⟩
  · rw [withL_out h, mem_ofL]
    constructor
    · rintro ⟨h1, h2⟩; exact ⟨h1, .inl h2⟩
    · rintro ⟨h1, h2 | h2⟩
      · exact ⟨h1, h2⟩
      · omega
theorem takeI_zg {zs : List Int} {k : Nat} (h : k < zs.length) : zs.take (k + 1) = zs.take k ++ [zg zs k] := by
  rw [List.take_succ_eq_append_getElem h, zg_get h]
end Go.Proofs.YtadomogbakcokaaGreatDoor
end

section
/- Contracts of the reference: Below, Minus, And, Same. -/
namespace Go.Proofs.YtadomogbakcokaaGreatDoor
open Go.RowKit Go.PlainAid
set_option linter.unusedVariables false
set_option linter.unusedSimpArgs false
set_option maxHeartbeats 2000000

/-- The members of l that are (keep) in zs, or are not. -/
def selL (keep : Bool) (l : List Nat) (zs : List Int) : List Nat := l.filter (fun x => decide ((x : Int) ∈ zs) == keep)
theorem selL_and (l r : List Nat) : selL true l (cs r) = andL l r := by
  unfold selL andL
  congr 1; funext x
  rw [show decide ((x : Int) ∈ cs r) = decide (x ∈ r) by rw [decide_eq_decide]; exact mem_cs]
  cases decide (x ∈ r) <;> rfl
theorem selL_minus (l r : List Nat) : selL false l (cs r) = minL l r := by
  unfold selL minL
  congr 1; funext x
  rw [show decide ((x : Int) ∈ cs r) = decide (x ∈ r) by rw [decide_eq_decide]; exact mem_cs]
  cases decide (x ∈ r) <;> rfl
theorem selL_one (l : List Nat) (i : Int) : selL false l [i] = withoutL l i := by
  unfold selL withoutL
  congr 1; funext x
  by_cases h : (x : Int) = i
  · simp [h]
  · simp [h]
theorem sel_in {keep : Bool} {l : List Nat} {zs : List Int} {k : Nat} (h : k < l.length) (hx : decide (((wd l k : Nat) : Int) ∈ zs) = keep) : selL keep (l.take (k + 1)) zs = selL keep (l.take k) zs ++ [wd l k] := by
  unfold selL; rw [take_wd h, List.filter_append]; simp [List.filter_cons, hx]
theorem sel_out {keep : Bool} {l : List Nat} {zs : List Int} {k : Nat} (h : k < l.length) (hx : decide (((wd l k : Nat) : Int) ∈ zs) = !keep) : selL keep (l.take (k + 1)) zs = selL keep (l.take k) zs := by
  unfold selL; rw [take_wd h, List.filter_append]; simp [List.filter_cons, hx]
theorem selL_len (keep : Bool) (l : List Nat) (zs : List Int) (k : Nat) : (selL keep (l.take k) zs).length ≤ l.length := by
  unfold selL
  refine Nat.le_trans (List.length_filter_le _ _) ?_
  rw [List.length_take]; omega

end Go.Proofs.YtadomogbakcokaaGreatDoor
end

section
/- Contracts of the reference: Compare, Digits, Text. -/
namespace Go.Proofs.YtadomogbakcokaaGreatDoor
open Go.RowKit Go.PlainAid
set_option linter.unusedVariables false
set_option linter.unusedSimpArgs false
set_option maxHeartbeats 2000000

theorem wd_cons_succ (x : Nat) (l : List Nat) (k : Nat) : wd (x :: l) (k + 1) = wd l k := rfl
theorem cmpL_drop : ∀ (k : Nat) (l r : List Nat), k ≤ l.length → k ≤ r.length → (∀ j, j < k → wd l j = wd r j) → cmpL l r = cmpL (l.drop k) (r.drop k)
  | 0, l, r, _, _, _ => rfl
  | k + 1, [], r, h, _, _ => by simp at h
  | k + 1, _ :: _, [], _, h, _ => by simp at h
  | k + 1, x :: l, y :: r, h1, h2, h => by
    have h0 : x = y := h 0 (by omega)
    subst h0
    rw [List.drop_succ_cons, List.drop_succ_cons, ← cmpL_drop k l r (by simpa using h1) (by simpa using h2) (fun j hj => h (j + 1) (by omega))]
    show cmpL (x :: l) (x :: r) = _
    rw [cmpL, if_neg (Nat.lt_irrefl _), if_neg (Nat.lt_irrefl _)]
theorem cmpL_at {k : Nat} {l r : List Nat} (hl : k < l.length) (hr : k < r.length) (h : ∀ j, j < k → wd l j = wd r j) : cmpL l r = if wd l k < wd r k then -1 else if wd r k < wd l k then 1 else cmpL (l.drop (k + 1)) (r.drop (k + 1)) := by
  rw [cmpL_drop k l r (by omega) (by omega) h, List.drop_eq_getElem_cons hl, List.drop_eq_getElem_cons hr, cmpL, wd_get hl, wd_get hr]
theorem cmpL_end1 {k : Nat} {l r : List Nat} (hl : k = l.length) (hr : k < r.length) (h : ∀ j, j < k → wd l j = wd r j) : cmpL l r = -1 := by
  rw [cmpL_drop k l r (by omega) (by omega) h, show List.drop k l = [] by rw [hl, List.drop_length], List.drop_eq_getElem_cons hr]; rfl
theorem cmpL_end2 {k : Nat} {l r : List Nat} (hl : k < l.length) (hr : k = r.length) (h : ∀ j, j < k → wd l j = wd r j) : cmpL l r = 1 := by
  rw [cmpL_drop k l r (by omega) (by omega) h, show List.drop k r = [] by rw [hr, List.drop_length], List.drop_eq_getElem_cons hl]; rfl
theorem cmpL_end3 {k : Nat} {l r : List Nat} (hl : k = l.length) (hr : k = r.length) (h : ∀ j, j < k → wd l j = wd r j) : cmpL l r = 0 := by
  rw [cmpL_drop k l r (by omega) (by omega) h]
  rw [show l.drop k = [] by rw [hl, List.drop_length], show r.drop k = [] by rw [hr, List.drop_length]]; rfl

theorem rcompare_any (a b : Option Addr) (n m c d : Nat) (l r : List Nat) (w : World) (h : Iw w a n c (cs l)) (k : Iw w b m d (cs r)) :
    Calls Tryz.prog 64 #[.slice a n c, .slice b m d] w fun e w' => e = .returned (.int .i64 (cmpL l r)) ∧ Below w.heap.size w w' := by
  have HI := Lib.hid h
  have HJ := Lib.hid k
  have hln : l.length = n := by rw [← cs_length]; exact h.1
  have hrm : r.length = m := by rw [← cs_length]; exact k.1
  have HN := Lib.hid hln
  have HM := Lib.hid hrm
  have h2 := h.2.1
  have h3 := h.2.2.1
  have k2 := k.2.1
  have k3 := k.2.2.1
  clear h k hln hrm
  go_enter Tryz.func64, Tryz.ntmps64
  go_wp2_with fail
  go_loopw [5] (fun v wr => ∃ (k q : Nat), k ≤ n ∧ k ≤ m ∧ v = .int .i64 k ∧ wr = w.drewN q ∧ Hid (∀ j, j < k → wd l j = wd r j)) (fun v _ => n - (intOf v).toNat)
  case atStart => exact ⟨0, 0, Nat.zero_le _, Nat.zero_le _, rfl, rfl, fun j hj => absurd hj (Nat.not_lt_zero _)⟩
  case round =>
    obtain ⟨k, q, hk, hk2, rfl, rfl, HE⟩ := hrel
    by_cases hlt : k < n
    · by_cases hlm : k < m
      · obtain ⟨b1, o1, rfl, hb1, hc1⟩ := HI.out.at hlt
        obtain ⟨b2, o2, rfl, hb2, hc2⟩ := HJ.out.at hlm
        rw [zg_cs] at hc1 hc2
        have HC := Lib.hid (cmpL_at (k := k) (l := l) (r := r) (by rw [HN.out]; exact hlt) (by rw [HM.out]; exact hlm) HE.out)
        by_cases h1 : wd l k < wd r k
        · have HV : Hid (cmpL l r = -1) := by show _ = _; rw [HC.out, if_pos h1]
          generalize wd l k = x at hc1 h1
          generalize wd r k = y at hc2 h1
          have h1' : (x : Int) < (y : Int) := by omega
          go_wp2_with fail
          go_region
          go_wp2_with fail
          go_ret
          exact ⟨ret_int HV.out.symm, bdr (Below.refl _ _) (q + 1)⟩
        · by_cases h4 : wd r k < wd l k
          · have HV : Hid (cmpL l r = 1) := by show _ = _; rw [HC.out, if_neg h1, if_pos h4]
            generalize wd l k = x at hc1 h1 h4
            generalize wd r k = y at hc2 h1 h4
            have h1' : ¬ (x : Int) < (y : Int) := by omega
            have h4' : (y : Int) < (x : Int) := by omega
            go_wp2_with fail
            go_region
            go_wp2_with fail
            go_region
            go_wp2_with fail
            go_ret
            exact ⟨ret_int HV.out.symm, bdr (Below.refl _ _) (q + 2)⟩
          · have HXY : Hid (wd l k = wd r k) := by show _ = _; omega
            rw [HXY.out] at hc1
            clear h1 h4
            generalize wd r k = y at hc1 hc2
            have h4' : ¬ (y : Int) < (y : Int) := by omega
            go_wp2_with fail
            go_region
            go_wp2_with fail
            go_region
            go_wp2_with fail
            go_roundw
            case rel => exact ⟨k + 1, q + 2, by omega, by omega, by go_num, rfl, fun j hj => by
              by_cases e : j = k
              · subst e; exact HXY.out
              · exact HE.out j (by omega)⟩
            case measure => simp [intOf]; omega
      · have HV : Hid (cmpL l r = 1) := cmpL_end2 (k := k) (by rw [HN.out]; exact hlt) (by rw [HM.out]; omega) HE.out
        have hkm : ¬ (k : Int) < (m : Int) := by omega
        have hnm : (m : Int) < (n : Int) := by omega
        have hnm2 : ¬ (n : Int) < (m : Int) := by omega
        go_wp2_with fail
        all_goals first | (exfalso; omega) | skip
        all_goals
          go_ret
          exact ⟨ret_int HV.out.symm, bdr (Below.refl _ _) q⟩
    · have hkn : ¬ (k : Int) < (n : Int) := by omega
      by_cases hlm : n < m
      · have HV : Hid (cmpL l r = -1) := cmpL_end1 (k := k) (by rw [HN.out]; omega) (by rw [HM.out]; omega) HE.out
        have hnm : (n : Int) < (m : Int) := by omega
        go_wp2_with fail
        all_goals first | (exfalso; omega) | skip
        all_goals
          go_ret
          exact ⟨ret_int HV.out.symm, bdr (Below.refl _ _) q⟩
      · have HV : Hid (cmpL l r = 0) := cmpL_end3 (k := k) (by rw [HN.out]; omega) (by rw [HM.out]; omega) HE.out
        have hnm : ¬ (n : Int) < (m : Int) := by omega
        have hnm2 : ¬ (m : Int) < (n : Int) := by omega
        go_wp2_with fail
        all_goals first | (exfalso; omega) | skip
        all_goals
          go_ret
          exact ⟨ret_int HV.out.symm, bdr (Below.refl _ _) q⟩

theorem ret_string {a b : ByteArray} (h : a = b) : Ending.returned (.string a) = .returned (.string b) := by rw [h]
theorem digit_ext (m : Nat) (h : m < 10) (t : ByteArray) (ht : t.data.toList = (List.range 10).map (fun j => UInt8.ofNat (48 + j))) : t.extract m (m + 1) = ⟨(Lib.decDigits m).toArray⟩ := by
  apply str_eq
  rw [ext_list, Lib.decDigits_one h, ht]
  rcases (show m = 0 ∨ m = 1 ∨ m = 2 ∨ m = 3 ∨ m = 4 ∨ m = 5 ∨ m = 6 ∨ m = 7 ∨ m = 8 ∨ m = 9 by omega) with rfl | rfl | rfl | rfl | rfl | rfl | rfl | rfl | rfl | rfl <;> rfl
theorem ba_append (a b : List UInt8) : (⟨a.toArray⟩ : ByteArray) ++ (⟨b.toArray⟩ : ByteArray) = ⟨(a ++ b).toArray⟩ := by
  apply ByteArray.ext
  simp [ByteArray.data_append]
theorem size_mk (l : List UInt8) : (⟨l.toArray⟩ : ByteArray).size = l.length := by simp [ByteArray.size]
theorem dec_split {n : Nat} (h : ¬ n < 10) : Lib.decDigits (n / 10) ++ Lib.decDigits (n % 10) = Lib.decDigits n := by
  rw [Lib.decDigits_one (i := n % 10) (by omega)]
  conv => rhs; rw [Lib.decDigits]
  rw [dif_neg h]
theorem digits_any (n : Nat) : ∀ (i : Int) (w : World), i = n → n < 4096 →
    Calls Tryz.prog 90 #[.int .i64 i] w fun e w' => e = .returned (.string ⟨(Lib.decDigits n).toArray⟩) ∧ w' = w := by
  induction n using Nat.strongRecOn with
  | _ n ih =>
    intro i w hi hn
    subst hi
    by_cases h : n < 10
    · have HE := Lib.hid (digit_ext n h)
      go_enter Tryz.func90, Tryz.ntmps90
      go_wp2_with fail
      go_ret
      refine ⟨?_, rfl⟩
      show Ending.returned (.string _) = _
      exact ret_string (HE.out _ (by kernel_rfl))
    · have h1 := dec_small (n / 10) (by omega)
      have h2 := dec_small (n % 10) (by omega)
      have HS : Hid ((⟨(Lib.decDigits (n / 10)).toArray⟩ : ByteArray) ++ (⟨(Lib.decDigits (n % 10)).toArray⟩ : ByteArray) = ⟨(Lib.decDigits n).toArray⟩) := by show _ = _; rw [ba_append, dec_split h]
      have I1 := Lib.hid (ih (n / 10) (by omega) ((n : Int) / 10) w (by omega) (by omega))
      have I2 := Lib.hid (ih (n % 10) (by omega) ((n : Int) % 10) w (by omega) (by omega))
      clear ih
      have h1s : (⟨(Lib.decDigits (n / 10)).toArray⟩ : ByteArray).size ≤ 4 := by rw [size_mk]; exact h1.2
      have h2s : (⟨(Lib.decDigits (n % 10)).toArray⟩ : ByteArray).size ≤ 4 := by rw [size_mk]; exact h2.2
      clear h1 h2
      generalize (⟨(Lib.decDigits n).toArray⟩ : ByteArray) = d at HS ⊢
      generalize (⟨(Lib.decDigits (n / 10)).toArray⟩ : ByteArray) = d1 at HS I1 h1s
      generalize (⟨(Lib.decDigits (n % 10)).toArray⟩ : ByteArray) = d2 at HS I2 h2s
      have hsum : d1.size + d2.size ≤ 140737488355328 := by omega
      go_enter Tryz.func90, Tryz.ntmps90
      go_wp2_with (first
        | (go_at_call 90; (with_reducible refine I1.out.mono ?_); rintro e w2 ⟨rfl, hw⟩; rw [hw]; clear hw)
        | (go_at_call 90; (with_reducible refine I2.out.mono ?_); rintro e w2 ⟨rfl, hw⟩; rw [hw]; clear hw))
      go_ret
      exact ⟨ret_string HS.out, rfl⟩

theorem headB_nil : headB [] = [123] := rfl
end Go.Proofs.YtadomogbakcokaaGreatDoor
end

section
/- Contract of the reference: Bytes. -/
namespace Go.Proofs.YtadomogbakcokaaGreatDoor
open Go.RowKit Go.PlainAid
set_option linter.unusedVariables false
set_option linter.unusedSimpArgs false
set_option maxHeartbeats 2000000

theorem add_bit8 : ∀ b, b < 256 → ∀ m, m < 8 → b.testBit m = false → b + 2 ^ m = b ||| 2 ^ m := by decide +kernel
theorem or_lt8 {b m : Nat} (hb : b < 256) (hm : m < 8) : b ||| 2 ^ m < 256 := by
  have h2 : 2 ^ m < 2 ^ 8 := Nat.pow_lt_pow_right (by omega) hm
  exact Nat.or_lt_two_pow (n := 8) hb h2
theorem last_ge {l : List Nat} (h : Asc l) : ∀ x ∈ l, x ≤ l.getLastD 0 := by
  intro x hx
  have hne : l ≠ [] := List.ne_nil_of_mem hx
  rw [List.getLastD_eq_getLast?, List.getLast?_eq_some_getLast hne, Option.getD_some]
  obtain ⟨j, hj, rfl⟩ := List.getElem_of_mem hx
  rw [List.getLast_eq_getElem]
  by_cases e : j = l.length - 1
  · subst e; exact Nat.le_refl _
  · exact Nat.le_of_lt (List.pairwise_iff_getElem.1 h.1 j (l.length - 1) hj (by omega) (by omega))
theorem BytesOf.wd {bs l : List Nat} (h : BytesOf bs l) (hl : Asc l) (k : Nat) : byteOK l k (wd bs k) := by
  by_cases hk : k < bs.length
  · rw [wd_get hk]; exact h.2.2 k hk
  · rw [wd_out (by omega)]
    refine ⟨by omega, fun j hj => ⟨fun e => by simp at e, fun hm => ?_⟩⟩
    have hne : l ≠ [] := List.ne_nil_of_mem hm
    have h1 := h.2.1 hne
    have h2 := last_ge hl _ hm
    omega
theorem wd_pad (bs : List Nat) (j k : Nat) : wd (bs ++ List.replicate j 0) k = wd bs k := by
  unfold wd
  rw [List.getD_eq_getElem?_getD, List.getD_eq_getElem?_getD]
  by_cases hk : k < bs.length
  · rw [List.getElem?_append_left hk]
  · rw [List.getElem?_append_right (by omega), List.getElem?_replicate, List.getElem?_eq_none (by omega)]
    split <;> rfl
theorem asc_take {l : List Nat} (h : Asc l) (k : Nat) : Asc (l.take k) := ⟨h.1.sublist (List.take_sublist _ _), fun x hx => h.2 x (List.mem_of_mem_take hx)⟩
theorem bytes_len {bs l : List Nat} {k : Nat} (h : BytesOf bs (l.take k)) (hl : Asc l) (hk : k < l.length) : bs.length ≤ wd l k / 8 + 1 := by
  by_cases he : l.take k = []
  · rw [h.1 he]; simp
  · rw [h.2.1 he]
    have hm : (l.take k).getLastD 0 ∈ l.take k := by
      rw [List.getLastD_eq_getLast?, List.getLast?_eq_some_getLast he, Option.getD_some]; exact List.getLast_mem he
    have := take_lt hl hk _ hm
    omega
theorem bytes_len2 {bs l : List Nat} (h : BytesOf bs l) (hl : Asc l) : bs.length ≤ 512 := by
  by_cases he : l = []
  · rw [h.1 he]; simp
  · rw [h.2.1 he]
    have hm : l.getLastD 0 ∈ l := by
      rw [List.getLastD_eq_getLast?, List.getLast?_eq_some_getLast he, Option.getD_some]; exact List.getLast_mem he
    have := hl.2 _ hm
    omega
theorem bytes_next {bs cs l : List Nat} {k x : Nat} (h : BytesOf bs (l.take k)) (hl : Asc l) (hk : k < l.length) (hx : wd l k = x) (hc : cs.length = x / 8 + 1) (hw : ∀ i, wd cs i = wd bs i) :
    wd cs (x / 8) < 256 ∧ wd cs (x / 8) + 2 ^ (x % 8) < 256 ∧ BytesOf (cs.set (x / 8) (wd cs (x / 8) + 2 ^ (x % 8))) (l.take (k + 1)) := by
  have hok : ∀ i, byteOK (l.take k) i (wd cs i) := fun i => by rw [hw]; exact h.wd (asc_take hl k) i
  have h1 := (hok (x / 8)).1
  have hnb : (wd cs (x / 8)).testBit (x % 8) = false := by
    cases e : (wd cs (x / 8)).testBit (x % 8)
    · rfl
    · have h2 := ((hok (x / 8)).2 (x % 8) (by omega)).1 e
      rw [show 8 * (x / 8) + x % 8 = x by omega] at h2
      have := take_lt hl hk _ h2
      omega
  rw [add_bit8 _ h1 _ (by omega) hnb]
  have h3 := or_lt8 h1 (show x % 8 < 8 by omega)
  refine ⟨h1, h3, ?_, ?_, ?_⟩
  · intro e; rw [take_wd hk] at e; simp at e
  · intro _
    rw [List.length_set, hc, take_wd hk, hx]; simp
  · intro i hi
    rw [List.length_set] at hi
    rw [← wd_get (by rw [List.length_set]; exact hi), wd_set (by omega), take_wd hk, hx]
    by_cases e : i = x / 8
    · rw [if_pos e, e]
      refine ⟨h3, fun j hj => ?_⟩
      rw [Nat.testBit_or, Nat.testBit_two_pow, List.mem_append, List.mem_singleton, Bool.or_eq_true, (hok (x / 8)).2 j hj, decide_eq_true_eq]
      constructor
      · rintro (h4 | h4)
        · exact .inl h4
        · exact .inr (by omega)
      · rintro (h4 | h4)
        · exact .inl h4
        · exact .inr (by omega)
    · rw [if_neg e]
      refine ⟨(hok i).1, fun j hj => ?_⟩
      rw [(hok i).2 j hj, List.mem_append, List.mem_singleton]
      constructor
      · exact .inl
      · rintro (h4 | h4)
        · exact h4
        · omega

def RowY (w : World) (B : Nat) (v : Value) (bs : List Nat) : Prop := w.ownsRow B 5 1 v bs.length (bs.map u8v)
theorem RowY.nil (w : World) (B : Nat) : RowY w B (.slice none 0 0) [] := World.ownsRow_nil w B 5 1
theorem RowY.slice {w : World} {B : Nat} {v : Value} {bs : List Nat} (h : RowY w B v bs) : ∃ a cap, v = .slice a bs.length cap ∧ bs.length ≤ cap ∧ cap ≤ 9223372036854775807 := by
  rcases h.2 with ⟨e1, e2⟩ | ⟨g, cap, cur, rfl, _, _, h1, h2, _⟩
  · exact ⟨none, 0, by rw [e1, e2], by omega, by omega⟩
  · exact ⟨_, _, rfl, h1, by unfold maxLen at h2; omega⟩
theorem RowY.bw {w : World} {B : Nat} {v : Value} {bs : List Nat} (h : RowY w B v bs) (hb : ∀ x ∈ bs, x < 256) : ∃ a cap, v = .slice a bs.length cap ∧ Bw w a bs.length cap bs := by
  rcases h.2 with ⟨e1, e2⟩ | ⟨g, cap, cur, rfl, _, hg, h1, h2, _⟩
  · exact ⟨none, 0, by rw [e1, e2], rfl, by omega, by omega, hb, .inl e2⟩
  · refine ⟨_, _, rfl, rfl, h1, by unfold maxLen at h2; omega, hb, .inr ⟨g, 0, rfl, (World.ownsRow.lt h g rfl).2, fun j hj => ?_⟩⟩
    rw [Nat.zero_add, World.ownsRow.cellAt h j (by simpa using hj), List.getElem?_map, List.getElem?_eq_getElem hj, wd_get hj]; rfl
theorem RowY.addr {w : World} {B : Nat} {v : Value} {bs : List Nat} (h : RowY w B v bs) (hb : 0 < bs.length) : ∃ g cap, v = .slice (some ⟨g, 0, none⟩) bs.length cap ∧ B ≤ g ∧ g < w.heap.size ∧ bs.length ≤ cap ∧ cap ≤ 9223372036854775807 := by
  rcases h.2 with ⟨e1, e2⟩ | ⟨g, cap, cur, rfl, _, hg, h1, h2, _⟩
  · omega
  · exact ⟨g, cap, rfl, (World.ownsRow.lt h g rfl).1, (World.ownsRow.lt h g rfl).2, h1, by unfold maxLen at h2; omega⟩
theorem RowY.cell {w : World} {B g cap : Nat} {bs : List Nat} (h : RowY w B (.slice (some ⟨g, 0, none⟩) bs.length cap) bs) {j : Nat} (hj : j < bs.length) : w.cell? ⟨g, j, none⟩ = some (.int .u8 (wd bs j : Nat)) := by
  rw [World.ownsRow.cellAt h j (by simpa using hj), List.getElem?_map, List.getElem?_eq_getElem hj, wd_get hj]; rfl
theorem RowY.set {w : World} {B g cap : Nat} {bs : List Nat} (h : RowY w B (.slice (some ⟨g, 0, none⟩) bs.length cap) bs) (k x : Nat) : RowY (w.setCell ⟨g, k, none⟩ (.int .u8 (x : Nat))) B (.slice (some ⟨g, 0, none⟩) bs.length cap) (bs.set k x) := by
  have := (World.ownsRow.stored h k (.int .u8 (x : Nat))).1
  unfold RowY
  rw [List.length_set, List.map_set]
  exact this
theorem rowY_push {w : World} {B : Nat} {v : Value} {l : List Nat} {x : Nat} (h : w.ownsRow B 5 1 v (l.length + 1) (l.map u8v ++ [.int .u8 (x : Nat)])) : RowY w B v (l ++ [x]) := by
  unfold RowY
  rw [List.length_append, List.map_append]
  exact h
theorem below_pushY {w wr w1 : World} {v : Value} {l : List Nat} {o : Obj} (hb : Below w.heap.size w wr) (hr : RowY wr w.heap.size v l) (hg : (wr.alloc o).grownBy w1 v.ownBlock) : Below w.heap.size w w1 :=
  (hb.alloc hb.size _).grown hg (by have := hb.size; simp; omega) (fun b hb => (World.ownsRow.lt hr b hb).1)
def sliceLen (v : Value) : Nat := match v with | .slice _ m _ => m | _ => 0

set_option maxRecDepth 20000 in
theorem rbytes_any (a : Option Addr) (n cap : Nat) (l : List Nat) (w : World) (h : Iw w a n cap (cs l)) (hl : Asc l) :
    Calls Tryz.prog 86 #[.slice a n cap] w fun e w' => ∃ bs v, e = .returned v ∧ BytesOf bs l ∧ w'.ownsRow w.heap.size 5 1 v bs.length (bs.map u8v) ∧ Below w.heap.size w w' := by
  obtain ⟨i0, hif, hz0, hz1, hz2⟩ := info_parts infoByte
  have HI := Lib.hid h
  have hn : l.length = n := by rw [← cs_length]; exact h.1
  have HN := Lib.hid hn
  have HL := Lib.hid hl
  have h2 := h.2.1
  have h3 := h.2.2.1
  clear h hl hn
  go_enter Tryz.func86, Tryz.ntmps86
  go_wp2_with fail
  go_loopw [3, 11] (fun v3 v11 wr => ∃ (k : Nat) (bs : List Nat), k ≤ n ∧ v11 = .int .i64 k ∧ RowY wr w.heap.size v3 bs ∧ Hid (BytesOf bs (l.take k)) ∧ Below w.heap.size w wr) (fun _ v _ => n - (intOf v).toNat)
  case atStart => exact ⟨0, [], Nat.zero_le _, rfl, RowY.nil _ _, ⟨fun _ => rfl, fun h => absurd rfl h, fun k hk => absurd hk (Nat.not_lt_zero _)⟩, Below.refl _ _⟩
  case round =>
    obtain ⟨k, bs, hk, rfl, hrow, HB, hbel⟩ := hrel
    have hzr := hbel.size
    by_cases hlt : k < n
    · obtain ⟨b, o, rfl, hb, hc0⟩ := HI.out.at hlt
      have hc := (hbel.cell (p := ⟨b, o + k, none⟩) hb).trans hc0
      rw [zg_cs] at hc
      have hlk : k < l.length := by rw [HN.out]; exact hlt
      have hx4 : wd l k < 4096 := by rw [wd_get hlk]; exact HL.out.2 _ (List.getElem_mem _)
      have HLEN := bytes_len HB.out HL.out hlk
      have HNX := Lib.hid (fun (us : List Nat) => bytes_next (cs := us) HB.out HL.out hlk rfl)
      clear hc0 hlk
      generalize wd l k = x at hc hx4 HLEN HNX
      obtain ⟨a0, c0, rfl, hca, hcb⟩ := hrow.slice
      go_wp2_with fail
      go_loopw [3] (fun v3 wq => ∃ j : Nat, bs.length + j ≤ x / 8 + 1 ∧ RowY wq w.heap.size v3 (bs ++ List.replicate j 0) ∧ Below w.heap.size w wq) (fun v _ => x / 8 + 1 - sliceLen v)
      case atStart => exact ⟨0, HLEN, by simpa using hrow, hbel⟩
      case round =>
        obtain ⟨j, hj, hrow1, hbel1⟩ := hrel
        have hz1r := hbel1.size
        obtain ⟨a1, c1, hv1, hcc, hcd⟩ := hrow1.slice
        have hlen1 : (bs ++ List.replicate j 0).length = bs.length + j := by simp
        by_cases hle : bs.length + j ≤ x / 8
        · have HP : Hid (bs ++ List.replicate j 0 ++ [0] = bs ++ List.replicate (j + 1) 0) := by show _ = _; rw [List.append_assoc, ← List.replicate_succ']
          subst hv1
          have hle2 : (((bs ++ List.replicate j 0).length : Nat) : Int) ≤ (x : Int) / 8 := by omega
          have hl512 : (bs ++ List.replicate j 0).length ≤ 512 := by omega
          generalize bs ++ List.replicate j 0 = us at hrow1 HP hlen1 hl512 hle2 hcc ⊢
          have HLEN1 := Lib.hid hlen1
          clear hlen1
          go_wp2_with (at_builtin; refine wpList_append_own _ rfl _ _ 87 rfl w.heap.size 5 i0 (.int .u8 0) 1 1 Tryz.underlying87 hif hz0 hz1 hz2 rfl (by decide) _ _ _ rfl (hrow1.alloc _) ⟨wr.heap.size, 0, none⟩ 1 1 [.int .u8 ((0 : Nat) : Int)] rfl rfl (cell_one_new _ _ _) (by simp [Value.oneCell']) (by unfold maxLen; omega) (by omega) (by simp; omega) ?_)
          intro v' w1 hown' hgrow _
          have hbel' := below_pushY hbel1 hrow1 hgrow
          have hrow' := rowY_push hown'
          obtain ⟨a2, c2, rfl, _, _⟩ := hrow'.slice
          clear hgrow hrow1 hbel1 hown'
          go_wp2_with fail
          go_roundw
          case rel => exact ⟨j + 1, by omega, by rw [← HP.out]; exact hrow', hbel'⟩
          case measure => have := HLEN1.out; simp [sliceLen]; omega
        · have hje : bs.length + j = x / 8 + 1 := by omega
          have hU := HNX.out (bs ++ List.replicate j 0) (by rw [hlen1, hje]) (fun i => wd_pad bs j i)
          have hlen2 : (bs ++ List.replicate j 0).length = x / 8 + 1 := by rw [hlen1, hje]
          clear hlen1 hje hj hle hv1 hcc hcd
          generalize bs ++ List.replicate j 0 = us at hrow1 hU hlen2
          obtain ⟨g, cg, rfl, hg1, hg2, hg3, hg4⟩ := hrow1.addr (by omega)
          have x2 := hrow1.cell (j := x / 8) (by omega)
          have x3 := World.ownsRow.frozenAt hrow1 (x / 8)
          have hb256 := hU.1
          have hs256 := hU.2.1
          have HU := Lib.hid hU.2.2
          have HROW := Lib.hid (hrow1.set (x / 8) (wd us (x / 8) + 2 ^ (x % 8)))
          have hbel2 : Below w.heap.size w (wr.setCell ⟨g, x / 8, none⟩ (.int .u8 ((wd us (x / 8) + 2 ^ (x % 8) : Nat) : Int))) := hbel1.setCell hg1 _
          have HL2 : Hid (us.length = x / 8 + 1) := hlen2
          rw [hlen2] at hg3 ⊢
          have hxx : ¬ (((x / 8 + 1 : Nat) : Int) ≤ (x : Int) / 8) := by omega
          clear hU hrow1 hbel1 hrow HNX hlen2
          go_wp2_with fail
          go_loop [6, 7] (fun v6 v7 => ∃ i : Nat, i ≤ x % 8 ∧ v7 = .int .i64 i ∧ v6 = .int .u8 ((2 ^ i : Nat) : Int)) (fun _ v => x % 8 - (intOf v).toNat)
          case atStart => exact ⟨0, Nat.zero_le _, rfl, rfl⟩
          case round =>
            obtain ⟨i, hi, rfl, rfl⟩ := hrel
            by_cases hix : i < x % 8
            · have hp : 2 ^ i ≤ 2 ^ 6 := Nat.pow_le_pow_right (by omega) (by omega)
              have HP2 : Hid (2 ^ (i + 1) = 2 ^ i * 2) := Nat.pow_succ 2 i
              have hix2 : (i : Int) < (x : Int) % 8 := by omega
              generalize 2 ^ i = y at hp HP2
              have hy2 : y * 2 ≤ 255 := by omega
              go_wp2_with fail
              go_round
              case rel => exact ⟨i + 1, by omega, by go_num, by rw [HP2.out]; go_num⟩
              case measure => simp [intOf]; omega
            · have hie : i = x % 8 := by omega
              have hix2 : ¬ (i : Int) < (x : Int) % 8 := by omega
              rw [← hie] at hs256 HROW hbel2 HU
              clear hie hix hi
              generalize 2 ^ i = y at hs256 HROW hbel2 HU ⊢
              generalize wd us (x / 8) = z at *
              have hz : z + y ≤ 255 := by omega
              go_wp2_with fail
              go_roundw
              case rel => exact ⟨k + 1, _, by omega, by go_num, by have := HROW.out; rw [HL2.out] at this; exact this, HU.out, hbel2⟩
              case measure => simp [intOf]; omega
    · have HK : Hid (BytesOf bs l) := by have := HB.out; rw [List.take_of_length_le (by rw [HN.out]; omega)] at this; exact this
      go_wp2_with fail
      go_ret
      exact ⟨bs, _, rfl, HK.out, hrow, hbel⟩
end Go.Proofs.YtadomogbakcokaaGreatDoor
end

section
/- Contract of the reference: Read. -/
namespace Go.Proofs.YtadomogbakcokaaGreatDoor
open Go.RowKit Go.PlainAid
set_option linter.unusedVariables false
set_option linter.unusedSimpArgs false
set_option maxHeartbeats 2000000

def readTo (ps : List Nat) (m : Nat) : List Nat := (List.range m).filter (fun x => (wd ps (x / 8)).testBit (x % 8))
theorem readTo_zero (ps : List Nat) : readTo ps 0 = [] := rfl
theorem readTo_in {ps : List Nat} {k j : Nat} (hj : j < 8) (h : wd ps k / 2 ^ j % 2 = 1) : readTo ps (8 * k + j + 1) = readTo ps (8 * k + j) ++ [8 * k + j] := by
  unfold readTo
  rw [List.range_succ, List.filter_append]
  have e : (wd ps ((8 * k + j) / 8)).testBit ((8 * k + j) % 8) = true := by
    rw [show (8 * k + j) / 8 = k by omega, show (8 * k + j) % 8 = j by omega, Nat.testBit_eq_decide_div_mod_eq]; exact decide_eq_true h
  simp only [List.filter_cons, List.filter_nil, e, if_true]
theorem readTo_out {ps : List Nat} {k j : Nat} (hj : j < 8) (h : ¬ wd ps k / 2 ^ j % 2 = 1) : readTo ps (8 * k + j + 1) = readTo ps (8 * k + j) := by
  unfold readTo
  rw [List.range_succ, List.filter_append]
  have e : (wd ps ((8 * k + j) / 8)).testBit ((8 * k + j) % 8) = false := by
    rw [show (8 * k + j) / 8 = k by omega, show (8 * k + j) % 8 = j by omega, Nat.testBit_eq_decide_div_mod_eq]; exact decide_eq_false h
  simp only [List.filter_cons, List.filter_nil, e, Bool.false_eq_true, if_false, List.append_nil]
theorem readTo_all {ps : List Nat} (h : ps.length ≤ 512) : readTo ps (8 * ps.length) = readL ps := by
  refine pw_ext ((pw_range _).filter _) (asc_readL ps).1 fun x => ?_
  unfold readTo readL
  rw [List.mem_filter, List.mem_filter, List.mem_range, List.mem_range]
  constructor
  · rintro ⟨h1, h2⟩; exact ⟨by omega, h2⟩
  · rintro ⟨h1, h2⟩
    refine ⟨?_, h2⟩
    by_cases hx : x / 8 < ps.length
    · omega
    · rw [wd_out (by omega)] at h2; simp at h2
theorem readTo_len (ps : List Nat) (m : Nat) : (readTo ps m).length ≤ m := by
  unfold readTo
  refine Nat.le_trans (List.length_filter_le _ _) ?_
  rw [List.length_range]; exact Nat.le_refl _
theorem half_pow (z j : Nat) : ((z / 2 ^ j : Nat) : Int) / 2 = ((z / 2 ^ (j + 1) : Nat) : Int) := by
  rw [Nat.pow_succ, ← Nat.div_div_eq_div_mul]; omega

def RReadPost (ps : List Nat) (w : World) (e : Ending) (w' : World) : Prop :=
  ((readOK ps ∧ ∃ v, e = .returned (.tuple #[v, .bool true]) ∧ RowI w' w.heap.size v (readL ps)) ∨
    (¬ readOK ps ∧ e = .returned (.tuple #[.slice none 0 0, .bool false]))) ∧ Below w.heap.size w w'

end Go.Proofs.YtadomogbakcokaaGreatDoor
end

section
/- Contract: awake. -/
namespace Go.Proofs.YtadomogbakcokaaGreatDoor
open Go.RowKit Go.PlainAid
set_option linter.unusedVariables false
set_option linter.unusedSimpArgs false
set_option maxHeartbeats 4000000

theorem step_call {w w1 w2 : World} (h : Below w.heap.size w w1) (h2 : Below w1.heap.size w1 w2) : Below w.heap.size w w2 := h.trans (h2.mono h.size)
theorem step_lit {w w1 w2 : World} {o : Obj} (h : Below w.heap.size w w1) (h2 : Below (w1.alloc o).heap.size (w1.alloc o) w2) : Below w.heap.size w w2 :=
  (h.alloc h.size _).trans (h2.mono (by rw [World.size_alloc]; have := h.size; omega))
theorem step_box {w w1 : World} {o : Obj} {v : Value} (h : Below w.heap.size w w1) : Below w.heap.size w ((w1.alloc o).setCell ⟨w1.heap.size, 0, none⟩ v) := (h.alloc h.size _).setCell h.size _
theorem iw_lit (w : World) (cells : Array Value) (zs : List Int) (n : Nat) (hc : cells.toList = zs.map fun z => .int .i64 z) (hn : zs.length = n) (hm : n ≤ 1000) :
    Iw (w.alloc (.cells cells 3)) (some ⟨w.heap.size, 0, none⟩) n n zs := by
  have hs : cells.size = n * 1 := by
    have := congrArg List.length hc
    rw [List.length_map, Array.length_toList] at this; omega
  have h := World.ownsRow_lit (base := 0) (size := 1) (e := 3) w cells n (Nat.zero_le _) (by unfold maxLen; omega) hs
  rw [hc] at h
  obtain ⟨a, cap, e, hi⟩ := iw_of_row h hn
  cases e
  exact hi
theorem of_lit (w : World) (cells : Array Value) (zs : List Int) (l : List Nat) (n : Nat) (hc : cells.toList = zs.map fun z => .int .i64 z) (hn : zs.length = n) (hm : n ≤ 1000) (hl : ofL zs = l) :
    Calls Tryz.prog 30 #[.slice (some ⟨w.heap.size, 0, none⟩) n n] (w.alloc (.cells cells 3)) (SetPost (w.alloc (.cells cells 3)) l) := by
  subst hl
  exact of_any _ _ _ _ _ (iw_lit w cells zs n hc hn hm) (by omega)
theorem bw_lit (w : World) (cells : Array Value) (ps : List Nat) (n : Nat) (hc : cells.toList = ps.map u8v) (hn : ps.length = n) (hb : ∀ x ∈ ps, x < 256) (hm : n ≤ 1000) :
    Bw (w.alloc (.cells cells 5)) (some ⟨w.heap.size, 0, none⟩) n n ps := by
  have hs : cells.size = n * 1 := by
    have := congrArg List.length hc
    rw [List.length_map, Array.length_toList] at this; omega
  have h := World.ownsRow_lit (base := 0) (size := 1) (e := 5) w cells n (Nat.zero_le _) (by unfold maxLen; omega) hs
  rw [hc] at h
  subst hn
  obtain ⟨a, cap, e, hi⟩ := RowY.bw h hb
  cases e
  exact hi
theorem ofL_a : ofL [5, 1, 5, -3, 5000] = [1, 5] := asc_ext (asc_ofL _) ⟨by decide, by decide⟩ fun x => by rw [mem_ofL]; simp; omega
theorem ofL_b : ofL [1] = [1] := asc_ext (asc_ofL _) ⟨by decide, by decide⟩ fun x => by rw [mem_ofL]; simp; omega
theorem ofL_c : ofL [1, 9] = [1, 9] := asc_ext (asc_ofL _) ⟨by decide, by decide⟩ fun x => by rw [mem_ofL]; simp; omega
theorem ofL_d : ofL [2] = [2] := asc_ext (asc_ofL _) ⟨by decide, by decide⟩ fun x => by rw [mem_ofL]; simp; omega
theorem below3 : minL (belowL 3) [1] = [0, 2] := by decide
theorem dec1 (x : Nat) (h : x < 10) : Lib.decDigits x = [UInt8.ofNat (48 + x)] := Lib.decDigits_one h
theorem text15 : textB [1, 5] = [123, 49, 32, 53, 125] := by simp [textB, headB, joinB, dig, dec1]
theorem bytes15 : BytesOf [34] [1, 5] := by
  refine ⟨(fun h => by cases h), (fun _ => by decide), fun k hk => ?_⟩
  have : k = 0 := by simpa using hk
  subst this
  show byteOK [1, 5] 0 34
  exact ⟨by decide, by decide⟩
/-- The list that a text would be the text of. -/
def backL (s : List UInt8) : List Nat := (Lib.fieldsD ((s.drop 1).dropLast)).map fun d => match Lib.atoiAll d with | .ok v => v.toNat | _ => 0
theorem back_text {l : List Nat} (hl : ∀ x ∈ l, x < 4096) : backL (textB l) = l := by
  unfold backL textB headB
  rw [List.cons_append, List.drop_succ_cons, List.drop_zero, List.dropLast_concat, fieldsD_join, List.map_map]
  have : ∀ x ∈ l, ((fun d => match Lib.atoiAll d with | .ok v => v.toNat | _ => 0) ∘ Lib.decDigits) x = x := fun x hx => by
    simp only [Function.comp]; rw [atoi_dec x (hl x hx)]; simp
  rw [List.map_congr_left this, List.map_id']
theorem no_text1 : ∀ l, Asc l → ([123, 49, 44, 32, 53, 125] : List UInt8) ≠ textB l := by
  intro l hl e
  have h := back_text hl.2
  rw [← e] at h
  have h2 : backL [123, 49, 44, 32, 53, 125] = [0, 5] := by decide
  rw [h2] at h
  rw [← h] at e
  simp [textB, headB, joinB, dig, dec1] at e
theorem no_text2 : ∀ l, Asc l → ([123, 53, 32, 49, 125] : List UInt8) ≠ textB l := by
  intro l hl e
  have h := back_text hl.2
  rw [← e] at h
  have h2 : backL [123, 53, 32, 49, 125] = [5, 1] := by decide
  rw [h2] at h
  have h3 := hl.1
  rw [← h] at h3
  exact absurd h3 (by decide)
theorem read_bad (a : Option Addr) (n cap : Nat) (ps : List Nat) (w : World) (h : Bw w a n cap ps) (hn : n ≤ 1000000) (hno : ¬ readOK ps) :
    Calls Tryz.prog 110 #[.slice a n cap] w fun e w' => e = .returned (.tuple #[.agg #[.slice none 0 0], .int .i64 6]) ∧ Below w.heap.size w w' := by
  refine (read_any a n cap ps w h hn).mono ?_
  rintro e w' ⟨⟨hy, _⟩ | ⟨_, rfl⟩, hb⟩
  · exact absurd hy hno
  · exact ⟨rfl, hb⟩
theorem of_a (w : World) : Calls Tryz.prog 30 #[.slice (some ⟨w.heap.size, 0, none⟩) 5 5] (w.alloc (.cells #[.int .i64 5, .int .i64 1, .int .i64 5, .int .i64 (-3), .int .i64 5000] 3)) (SetPost (w.alloc (.cells #[.int .i64 5, .int .i64 1, .int .i64 5, .int .i64 (-3), .int .i64 5000] 3)) [1, 5]) :=
  of_lit w _ [5, 1, 5, -3, 5000] [1, 5] 5 rfl rfl (by omega) ofL_a
theorem of_b (w : World) : Calls Tryz.prog 30 #[.slice (some ⟨w.heap.size, 0, none⟩) 1 1] (w.alloc (.cells #[.int .i64 1] 3)) (SetPost (w.alloc (.cells #[.int .i64 1] 3)) [1]) :=
  of_lit w _ [1] [1] 1 rfl rfl (by omega) ofL_b
theorem of_c (w : World) : Calls Tryz.prog 30 #[.slice (some ⟨w.heap.size, 0, none⟩) 2 2] (w.alloc (.cells #[.int .i64 1, .int .i64 9] 3)) (SetPost (w.alloc (.cells #[.int .i64 1, .int .i64 9] 3)) [1, 9]) :=
  of_lit w _ [1, 9] [1, 9] 2 rfl rfl (by omega) ofL_c
theorem of_d (w : World) : Calls Tryz.prog 30 #[.slice (some ⟨w.heap.size, 0, none⟩) 1 1] (w.alloc (.cells #[.int .i64 2] 3)) (SetPost (w.alloc (.cells #[.int .i64 2] 3)) [2]) :=
  of_lit w _ [2] [2] 1 rfl rfl (by omega) ofL_d
theorem read_a (w : World) (g : Nat) (hg : g = w.heap.size) : Calls Tryz.prog 110 #[.slice (some ⟨g, 0, none⟩) 2 2] (w.alloc (.cells #[.int .u8 1, .int .u8 0] 5)) fun e w' => e = .returned (.tuple #[.agg #[.slice none 0 0], .int .i64 6]) ∧ Below (w.alloc (.cells #[.int .u8 1, .int .u8 0] 5)).heap.size (w.alloc (.cells #[.int .u8 1, .int .u8 0] 5)) w' := by
  subst hg
  exact read_bad _ _ _ [1, 0] _ (bw_lit w _ [1, 0] 2 rfl rfl (by decide) (by omega)) (by omega) (fun h => h.2 (by decide) rfl)
theorem Bw.below {w w' : World} {a : Option Addr} {n cap : Nat} {ps : List Nat} (h : Bw w a n cap ps) (hb : Below w.heap.size w w') : Bw w' a n cap ps := by
  obtain ⟨h1, h2, h3, h4, h5⟩ := h
  refine ⟨h1, h2, h3, h4, ?_⟩
  rcases h5 with h5 | ⟨b, o, h5, h6, h7⟩
  · exact .inl h5
  · exact .inr ⟨b, o, h5, Nat.lt_of_lt_of_le h6 hb.size, fun j hj => (hb.cell (p := ⟨b, o + j, none⟩) h6).trans (h7 j hj)⟩
theorem equalB_a (a : Option Addr) (c : Nat) (w : World) (h : Bw w a 1 c [34]) : Calls Tryz.prog 55 #[.slice a 1 c, .slice (some ⟨w.heap.size, 0, none⟩) 1 1] (w.alloc (.cells #[.int .u8 34] 5)) fun e w' => e = .returned (.bool true) ∧ Below (w.alloc (.cells #[.int .u8 34] 5)).heap.size (w.alloc (.cells #[.int .u8 34] 5)) w' :=
  equalB_any _ _ _ _ _ _ [34] [34] _ (h.below ((Below.refl _ _).alloc (Nat.le_refl _) _)) (bw_lit w _ [34] 1 rfl rfl (by decide) (by omega))
theorem equalI_a (a : Option Addr) (c : Nat) (w : World) (h : Iw w a 2 c [0, 2]) : Calls Tryz.prog 45 #[.slice a 2 c, .slice (some ⟨w.heap.size, 0, none⟩) 2 2] (w.alloc (.cells #[.int .i64 0, .int .i64 2] 3)) fun e w' => e = .returned (.bool true) ∧ Below (w.alloc (.cells #[.int .i64 0, .int .i64 2] 3)).heap.size (w.alloc (.cells #[.int .i64 0, .int .i64 2] 3)) w' :=
  equalI_any _ _ _ _ _ _ [0, 2] [0, 2] _ (h.below ((Below.refl _ _).alloc (Nat.le_refl _) _)) (iw_lit w _ [0, 2] 2 rfl rfl (by omega))
theorem bytes_a (a : Option Addr) (n cap : Nat) (w : World) (h : Bs w a n cap [1, 5]) :
    Calls Tryz.prog 115 #[.agg #[.slice a n cap]] w fun e w' => ∃ b c, e = .returned (.slice b 1 c) ∧ Bw w' b 1 c [34] ∧ Below w.heap.size w w' := by
  refine (bytes_any a n cap _ w h).mono ?_
  rintro e w' ⟨bs, v, rfl, hbs, hr, hb⟩
  obtain rfl := hbs.uniq bytes15
  obtain ⟨b, c, rfl, hbw⟩ := RowY.bw hr (by decide)
  exact ⟨b, c, rfl, hbw, hb⟩
theorem list_a (a : Option Addr) (n cap : Nat) (w : World) (h : Bs w a n cap [0, 2]) (hT : Tz w) :
    Calls Tryz.prog 47 #[.agg #[.slice a n cap]] w fun e w' => ∃ b c, e = .returned (.slice b 2 c) ∧ Iw w' b 2 c [0, 2] ∧ Below w.heap.size w w' := by
  refine (list_any a n cap _ w h hT).mono ?_
  rintro e w' ⟨v, rfl, hr, hb⟩
  obtain ⟨b, c, rfl, hi⟩ := iw_of_i64 hr rfl
  exact ⟨b, c, rfl, hi, hb⟩
theorem keep_box {w1 w2 : World} {o : Obj} {p : Addr} {v : Value} (h : w1.cell? p = some v) (hp : p.block < w1.heap.size) (h2 : Below (w1.alloc o).heap.size (w1.alloc o) w2) : w2.cell? p = some v := by
  rw [h2.cell (by rw [World.size_alloc]; omega), World.cell?_alloc_lt _ _ _ hp]; exact h
end Go.Proofs.YtadomogbakcokaaGreatDoor
end
