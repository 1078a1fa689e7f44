/- Several of the texts below, joined: RxA RxB RxC RxD RxE. -/
import Derived.Test.YtfjpbkmnlmecgaaGreatDoorQgu
import Derived.Test.YtfjpbkmnlmecgaaGreatDoorQgs
import Derived.Test.YtfjpbkmnlmecgaaGreatDoorQgi
import Derived.Deep.DeepCutAuto
import Derived.Test.YtfjpbkmnlmecgaaGreatDoorQge
section
/- The error of a rule: the program's words and the reference's words are one. -/
namespace Go.Proofs.YtfjpbkmnlmecgaaGreatDoor.Ru
open Go.RowKit Go.PlainAid Go.Proofs.YtfjpbkmnlmecgaaGreatDoor Go.Proofs.YtfjpbkmnlmecgaaGreatDoor.Bz
set_option linter.unusedVariables false
set_option linter.unusedSimpArgs false

/-- The program's words. -/
def chkL (r : Rl) (roles : Int) (adm : List Nat) : Int :=
  if decide (roles < 0) || decide (63 < roles) then 1
  else if !hasB (withoutL (belowL (roles + 1)) 0) r.admin || (!hasB (withoutL (belowL (roles + 1)) 0) r.target || !subB (orL r.yes r.no) (withoutL (belowL (roles + 1)) 0)) then 4
  else if !hasB adm r.admin || (hasB adm r.target || meetB (orL r.yes r.no) adm) then 10
  else if emptyC (r.yes, r.no) || (r.revoke && (!decide (orL r.yes r.no = []) || !decide (r.longest = 0))) then 6
  else if decide (r.longest < 0) || decide (30000 < r.longest) then 2 else 0
/-- A role in a mask. -/
def inM (s : Nat) (r : Int) : Bool := decide (0 ≤ r) && (decide (r < 64) && s.testBit r.toNat)
def badX (s : Nat) (roles : Int) (k : Nat) : Bool := inM s k && (decide ((k : Int) < 1) || decide (roles < (k : Int)))
/-- The reference's words. -/
def chkF (f : Fr) (roles : Int) (adm : Nat) : Int :=
  if decide (roles < 0) || decide (63 < roles) then 1
  else if decide (f.admin < 1) || (decide (roles < f.admin) || (decide (f.target < 1) || decide (roles < f.target))) then 4
  else if (List.range 64).any (badX (f.yes ||| f.no) roles) then 4
  else if !inM adm f.admin || (inM adm f.target || !decide ((f.yes ||| f.no) &&& adm = 0)) then 10
  else if !decide (f.yes &&& f.no = 0) || (f.revoke && (!decide (f.yes ||| f.no = 0) || !decide (f.longest = 0))) then 6
  else if decide (f.longest < 0) || decide (30000 < f.longest) then 2 else 0
theorem has_all {roles : Int} (h0 : 0 ≤ roles) (h1 : roles ≤ 63) (i : Int) : hasB (withoutL (belowL (roles + 1)) 0) i = (decide (1 ≤ i) && decide (i ≤ roles)) := by
  unfold hasB withoutL belowL
  rw [Bool.eq_iff_iff]
  simp
  omega
theorem has_mask {m : Nat} {i : Int} (h : 1 ≤ i) : hasB (maskL m) i = inM m i := by
  unfold hasB inM maskL
  rw [Bool.eq_iff_iff]
  simp only [Bool.and_eq_true, decide_eq_true_eq, mem_mask]
  constructor
  · rintro ⟨a, b, c, d⟩; exact ⟨a, by omega, d⟩
  · rintro ⟨a, b, c⟩; exact ⟨a, by omega, by omega, c⟩
theorem tb_lt {m k : Nat} (hm : m < 18446744073709551616) (h : m.testBit k = true) : k < 64 := by
  by_cases hk : k < 64
  · exact hk
  · have h2 : (2 : Nat) ^ 64 ≤ 2 ^ k := Nat.pow_le_pow_right (by decide) (by omega)
    rw [Nat.testBit_lt_two_pow (Nat.lt_of_lt_of_le (by simpa using hm) h2)] at h
    cases h
theorem mem_or_mask {y z x : Nat} : x ∈ orL (maskL y) (maskL z) ↔ x < 64 ∧ 1 ≤ x ∧ (y ||| z).testBit x = true := by
  unfold orL maskL
  simp only [List.mem_filter, List.mem_range, Bool.or_eq_true, decide_eq_true_eq, mem_mask, Nat.testBit_or]
  constructor
  · rintro ⟨a, ⟨b, c, d⟩ | ⟨b, c, d⟩⟩
    · exact ⟨b, c, .inl d⟩
    · exact ⟨b, c, .inr d⟩
  · rintro ⟨a, b, c | c⟩
    · exact ⟨by omega, .inl ⟨a, b, c⟩⟩
    · exact ⟨by omega, .inr ⟨a, b, c⟩⟩
theorem even_bit {m x : Nat} (he : m % 2 = 0) (h : m.testBit x = true) : 1 ≤ x := by
  rcases x with _ | x
  · rw [Nat.testBit_zero, he] at h; cases h
  · omega
theorem zero_iff {m : Nat} (hm : m < 18446744073709551616) : m = 0 ↔ ∀ x, x < 64 → m.testBit x = false := by
  constructor
  · rintro rfl x _; exact Nat.zero_testBit x
  · intro h
    apply Nat.eq_of_testBit_eq
    intro i
    rw [Nat.zero_testBit]
    by_cases hi : i < 64
    · exact h i hi
    · cases hb : m.testBit i
      · rfl
      · exact absurd (tb_lt hm hb) hi
theorem or_lt {y z : Nat} (hy : y < 18446744073709551616) (hz : z < 18446744073709551616) : y ||| z < 18446744073709551616 := by
  have := Nat.or_lt_two_pow (n := 64) (by simpa using hy) (by simpa using hz)
  simpa using this
theorem and_lt {y z : Nat} (hz : z < 18446744073709551616) : y &&& z < 18446744073709551616 := Nat.lt_of_le_of_lt Nat.and_le_right hz
theorem or_even {y z : Nat} (hy : y % 2 = 0) (hz : z % 2 = 0) : (y ||| z) % 2 = 0 := by
  have h := Nat.testBit_or y z 0
  simp only [Nat.testBit_zero, hy, hz] at h
  have := Nat.mod_two_eq_zero_or_one (y ||| z)
  rcases this with e | e
  · exact e
  · rw [e] at h; simp at h
theorem sub_law {y z : Nat} (hy : y < 18446744073709551616) (hz : z < 18446744073709551616) (ey : y % 2 = 0) (ez : z % 2 = 0) {roles : Int} (h0 : 0 ≤ roles) (h1 : roles ≤ 63) :
    (!subB (orL (maskL y) (maskL z)) (withoutL (belowL (roles + 1)) 0)) = (List.range 64).any (badX (y ||| z) roles) := by
  rw [Bool.eq_iff_iff]
  unfold subB badX inM
  simp only [Bool.not_eq_true', decide_eq_false_iff_not, List.any_eq_true, List.mem_range, Bool.and_eq_true, Bool.or_eq_true, decide_eq_true_eq, Int.toNat_natCast]
  constructor
  · intro h
    have ⟨x, hx⟩ := Classical.not_forall.1 h
    have ⟨hm, hn⟩ := Classical.not_imp.1 hx
    obtain ⟨a, b, c⟩ := mem_or_mask.1 hm
    refine ⟨x, a, ⟨by omega, by omega, c⟩, .inr ?_⟩
    have hh := has_all h0 h1 (x : Int)
    unfold hasB at hh
    rw [Int.toNat_natCast, decide_eq_false hn] at hh
    simp at hh
    omega
  · rintro ⟨x, a, ⟨-, -, c⟩, d⟩ h
    have hb := even_bit (or_even ey ez) c
    have hm := h x (mem_or_mask.2 ⟨a, hb, c⟩)
    have hh := has_all h0 h1 (x : Int)
    unfold hasB at hh
    rw [Int.toNat_natCast, decide_eq_true hm] at hh
    simp at hh
    omega
theorem meet_law {y z m : Nat} (hy : y < 18446744073709551616) (hz : z < 18446744073709551616) (hm : m < 18446744073709551616) (ey : y % 2 = 0) (ez : z % 2 = 0) :
    meetB (orL (maskL y) (maskL z)) (maskL m) = !decide ((y ||| z) &&& m = 0) := by
  rw [Bool.eq_iff_iff]
  unfold meetB
  simp only [decide_eq_true_eq, Bool.not_eq_true', decide_eq_false_iff_not]
  rw [zero_iff (and_lt hm)]
  constructor
  · rintro ⟨x, hx, hx2⟩ h
    obtain ⟨a, b, c⟩ := mem_or_mask.1 hx
    obtain ⟨-, -, d⟩ := mem_mask.1 hx2
    have := h x a
    rw [Nat.testBit_and, c, d] at this
    cases this
  · intro h
    have ⟨x, hx⟩ := Classical.not_forall.1 h
    have ⟨a, hn⟩ := Classical.not_imp.1 hx
    have hb : ((y ||| z) &&& m).testBit x = true := by cases hc : ((y ||| z) &&& m).testBit x <;> simp_all
    rw [Nat.testBit_and, Bool.and_eq_true] at hb
    have h1 := even_bit (or_even ey ez) hb.1
    exact ⟨x, mem_or_mask.2 ⟨a, h1, hb.1⟩, mem_mask.2 ⟨a, h1, hb.2⟩⟩
theorem empty_law {y z : Nat} (hy : y < 18446744073709551616) (hz : z < 18446744073709551616) (ey : y % 2 = 0) : emptyC (maskL y, maskL z) = !decide (y &&& z = 0) := by
  rw [Bool.eq_iff_iff]
  unfold emptyC meetB
  simp only [decide_eq_true_eq, Bool.not_eq_true', decide_eq_false_iff_not]
  rw [zero_iff (and_lt hz)]
  constructor
  · rintro ⟨x, hx, hx2⟩ h
    obtain ⟨a, b, c⟩ := mem_mask.1 hx
    obtain ⟨-, -, d⟩ := mem_mask.1 hx2
    have := h x a
    rw [Nat.testBit_and, c, d] at this
    cases this
  · intro h
    have ⟨x, hx⟩ := Classical.not_forall.1 h
    have ⟨a, hn⟩ := Classical.not_imp.1 hx
    have hb : (y &&& z).testBit x = true := by cases hc : (y &&& z).testBit x <;> simp_all
    rw [Nat.testBit_and, Bool.and_eq_true] at hb
    have h1 := even_bit ey hb.1
    exact ⟨x, mem_mask.2 ⟨a, h1, hb.1⟩, mem_mask.2 ⟨a, h1, hb.2⟩⟩
theorem none_law {y z : Nat} (hy : y < 18446744073709551616) (hz : z < 18446744073709551616) (ey : y % 2 = 0) (ez : z % 2 = 0) : decide (orL (maskL y) (maskL z) = []) = decide (y ||| z = 0) := by
  rw [Bool.eq_iff_iff]
  simp only [decide_eq_true_eq]
  rw [zero_iff (or_lt hy hz), List.eq_nil_iff_forall_not_mem]
  constructor
  · intro h x hx
    cases hc : (y ||| z).testBit x
    · rfl
    · exact absurd (mem_or_mask.2 ⟨hx, even_bit (or_even ey ez) hc, hc⟩) (h x)
  · intro h x hx
    obtain ⟨a, b, c⟩ := mem_or_mask.1 hx
    rw [h x a] at c
    cases c
theorem chk_law (f : Fr) (roles : Int) (adm : Nat) (hy : f.yes < 18446744073709551616) (hz : f.no < 18446744073709551616) (hm : adm < 18446744073709551616) (ey : f.yes % 2 = 0) (ez : f.no % 2 = 0) :
    chkL (toRl f) roles (maskL adm) = chkF f roles adm := by
  unfold chkL chkF toRl
  dsimp only
  by_cases hr : roles < 0 ∨ 63 < roles
  · have : (decide (roles < 0) || decide (63 < roles)) = true := by simpa using hr
    rw [this]; rfl
  have hr' : (decide (roles < 0) || decide (63 < roles)) = false := by simp; omega
  have h0 : 0 ≤ roles := by omega
  have h1 : roles ≤ 63 := by omega
  rw [hr', has_all h0 h1, has_all h0 h1, sub_law hy hz ey ez h0 h1, meet_law hy hz hm ey ez, empty_law hy hz ey, none_law hy hz ey ez]
  by_cases ha : (1 ≤ f.admin ∧ f.admin ≤ roles) ∧ (1 ≤ f.target ∧ f.target ≤ roles)
  · rw [has_mask ha.1.1, has_mask ha.2.1]
    have e1 : decide (1 ≤ f.admin) = true := by simpa using ha.1.1
    have e2 : decide (f.admin ≤ roles) = true := by simpa using ha.1.2
    have e3 : decide (1 ≤ f.target) = true := by simpa using ha.2.1
    have e4 : decide (f.target ≤ roles) = true := by simpa using ha.2.2
    have e5 : decide (f.admin < 1) = false := by simp; omega
    have e6 : decide (roles < f.admin) = false := by simp; omega
    have e7 : decide (f.target < 1) = false := by simp; omega
    have e8 : decide (roles < f.target) = false := by simp; omega
    rw [e1, e2, e3, e4, e5, e6, e7, e8]
    cases (List.range 64).any (badX (f.yes ||| f.no) roles) <;> rfl
  · have e1 : (decide (f.admin < 1) || (decide (roles < f.admin) || (decide (f.target < 1) || decide (roles < f.target)))) = true := by simp; omega
    rw [e1]
    have e2 : (!(decide (1 ≤ f.admin) && decide (f.admin ≤ roles)) || (!(decide (1 ≤ f.target) && decide (f.target ≤ roles)) || (List.range 64).any (badX (f.yes ||| f.no) roles))) = true := by
      by_cases g1 : 1 ≤ f.admin ∧ f.admin ≤ roles
      · have g2 : ¬ (1 ≤ f.target ∧ f.target ≤ roles) := fun h => ha ⟨g1, h⟩
        have : (decide (1 ≤ f.target) && decide (f.target ≤ roles)) = false := by simp; omega
        rw [this]; simp
      · have : (decide (1 ≤ f.admin) && decide (f.admin ≤ roles)) = false := by simp; omega
        rw [this]; simp
    rw [e2]; rfl
theorem mask_inj {y z : Nat} (hy : y < 18446744073709551616) (hz : z < 18446744073709551616) (ey : y % 2 = 0) (ez : z % 2 = 0) (h : maskL y = maskL z) : y = z := by
  apply Nat.eq_of_testBit_eq
  intro i
  have hm : i ∈ maskL y ↔ i ∈ maskL z := by rw [h]
  unfold maskL at hm
  rw [mem_mask, mem_mask] at hm
  have h1 : y.testBit i = true → i < 64 ∧ 1 ≤ i := fun h => ⟨tb_lt hy h, even_bit ey h⟩
  have h2 : z.testBit i = true → i < 64 ∧ 1 ≤ i := fun h => ⟨tb_lt hz h, even_bit ez h⟩
  rw [Bool.eq_iff_iff]
  constructor
  · intro g; exact (hm.1 ⟨(h1 g).1, (h1 g).2, g⟩).2.2
  · intro g; exact (hm.2 ⟨(h2 g).1, (h2 g).2, g⟩).2.2
/-- rule.Equal's words. -/
def eqRl (a b : Rl) : Bool := decide (a.revoke = b.revoke) && (decide (a.admin = b.admin) && (decide (a.target = b.target) && (decide ((a.yes, a.no) = (b.yes, b.no)) && (decide (a.days = b.days) && decide (a.longest = b.longest)))))
/-- The words of the reference's Same. -/
def sameF (a b : Fr) : Bool := decide (a.revoke = b.revoke) && (decide (a.admin = b.admin) && (decide (a.target = b.target) && (decide (a.yes = b.yes) && (decide (a.no = b.no) && (decide (a.longest = b.longest) && decide (a.days = b.days))))))
/-- A rule of the specification as the harness makes it. -/
def FrOk (f : Fr) : Prop := f.yes < 18446744073709551616 ∧ f.no < 18446744073709551616 ∧ f.yes % 2 = 0 ∧ f.no % 2 = 0 ∧ Dy.Can f.days
theorem eq_law {a b : Fr} (ha : FrOk a) (hb : FrOk b) : eqRl (toRl a) (toRl b) = sameF a b := by
  obtain ⟨a1, a2, a3, a4, -⟩ := ha
  obtain ⟨b1, b2, b3, b4, -⟩ := hb
  unfold eqRl sameF toRl
  dsimp only
  have e1 : decide ((maskL a.yes, maskL a.no) = (maskL b.yes, maskL b.no)) = (decide (a.yes = b.yes) && decide (a.no = b.no)) := by
    rw [Bool.eq_iff_iff]
    simp only [decide_eq_true_eq, Bool.and_eq_true, Prod.mk.injEq]
    constructor
    · rintro ⟨h, k⟩; exact ⟨mask_inj a1 b1 a3 b3 h, mask_inj a2 b2 a4 b4 k⟩
    · rintro ⟨h, k⟩; rw [h, k]; exact ⟨rfl, rfl⟩
  rw [e1]
  generalize decide (a.revoke = b.revoke) = x1
  generalize decide (a.admin = b.admin) = x2
  generalize decide (a.target = b.target) = x3
  generalize decide (a.yes = b.yes) = x4
  generalize decide (a.no = b.no) = x5
  generalize decide (a.longest = b.longest) = x6
  generalize decide (a.days = b.days) = x7
  cases x1 <;> cases x2 <;> cases x3 <;> cases x4 <;> cases x5 <;> cases x6 <;> cases x7 <;> rfl
theorem eqRl_self (a : Rl) : eqRl a a = true := by unfold eqRl; simp
end Go.Proofs.YtfjpbkmnlmecgaaGreatDoor.Ru
end

section
/- rule.Check. -/
namespace Go.Proofs.YtfjpbkmnlmecgaaGreatDoor.Ru
open Go.RowKit Go.PlainAid Go.Maps Go.Proofs.YtfjpbkmnlmecgaaGreatDoor Go.Proofs.YtfjpbkmnlmecgaaGreatDoor.Bz
set_option linter.unusedVariables false
set_option linter.unusedSimpArgs false
set_option maxHeartbeats 4000000
set_option maxRecDepth 20000

theorem check_any {N : Nat} (h : Hr) (r : Rl) (roles : Int) (e : Option Addr) (k f : Nat) (adm : List Nat) (w : World) (hr : Rw N w h r) (hm : Bs w e k f adm) :
    Calls Tryz.prog 34 #[.agg (hrL h).toArray, .int .i64 roles, .agg #[.slice e k f]] w (IntPost w (chkL r roles adm)) := by
  obtain ⟨rv, ad, tg, p1, q1, z1, p2, q2, z2, p3, q3, z3, lg⟩ := h
  obtain ⟨h0, h1, h2, h3, h4, h5, h6, h7⟩ := hr
  dsimp only at h0 h1 h2 h3 h4 h5 h6
  dsimp only [hrL]
  have HO := Lib.hid (fun w' (hb : Below w.heap.size w w') => or_any p1 p2 q1 q2 z1 z2 r.yes r.no w' (h3.1.below hb) (h4.1.below hb))
  have HL := Lib.hid (fun w' => below_any (roles + 1) w')
  have HE := Lib.hid (fun w' (hb : Below w.heap.size w w') => emptyC_any p1 p2 q1 z1 q2 z2 (r.yes, r.no) w' ⟨h3.1.below hb, h4.1.below hb⟩)
  have HM := Lib.hid (fun w' (hb : Below w.heap.size w w') => hm.below hb)
  have hb0 := ((Below.refl w.heap.size w).alloc (Nat.le_refl _) (.cells #[.bool rv, .int .i64 ad, .int .i64 tg, .slice p1 q1 z1, .slice p2 q2 z2, .slice p3 q3 z3, .int .i64 lg] 46)).alloc (by simp) (.cells #[.slice e k f] 39)
  have HB0 := Lib.hid hb0
  have HP : Hid (chkL r roles adm = (if decide (roles < 0) || decide (63 < roles) then 1
    else if !hasB (withoutL (belowL (roles + 1)) 0) ad || (!hasB (withoutL (belowL (roles + 1)) 0) tg || !subB (orL r.yes r.no) (withoutL (belowL (roles + 1)) 0)) then 4
    else if !hasB adm ad || (hasB adm tg || meetB (orL r.yes r.no) adm) then 10
    else if emptyC (r.yes, r.no) || (rv && (!decide (orL r.yes r.no = []) || !decide (lg = 0))) then 6
    else if decide (lg < 0) || decide (30000 < lg) then 2 else 0)) := by
    unfold chkL; rw [h0, h1, h2, h6]; exact rfl
  clear h0 h1 h2 h3 h4 h5 h6 h7 hm hb0
  generalize chkL r roles adm = res at *
  by_cases g0 : roles < 0
  · go_enter Tryz.func34, Tryz.ntmps34
    go_wp2_with fail
    go_ret
    exact ⟨by rw [HP.out, decide_eq_true g0]; rfl, HB0.out⟩
  by_cases g1 : 63 < roles
  · go_enter Tryz.func34, Tryz.ntmps34
    go_wp2_with fail
    go_ret
    exact ⟨by rw [HP.out, decide_eq_true g1, Bool.or_true]; rfl, HB0.out⟩
  have HP2 : Hid (res = (if !hasB (withoutL (belowL (roles + 1)) 0) ad || (!hasB (withoutL (belowL (roles + 1)) 0) tg || !subB (orL r.yes r.no) (withoutL (belowL (roles + 1)) 0)) then 4
    else if !hasB adm ad || (hasB adm tg || meetB (orL r.yes r.no) adm) then 10
    else if emptyC (r.yes, r.no) || (rv && (!decide (orL r.yes r.no = []) || !decide (lg = 0))) then 6
    else if decide (lg < 0) || decide (30000 < lg) then 2 else 0)) := by
    show _ = _
    rw [HP.out, decide_eq_false g0, decide_eq_false g1]; rfl
  clear HP
  have e1 : IntKind.i64.wrap (roles + 1) = roles + 1 := by rw [IntKind.wrap_i64]; omega
  go_enter Tryz.func34, Tryz.ntmps34
  go_upto_region 5 with (first
    | (go_at_call 24; refine (HO.out _ HB0.out).mono ?_; rintro en w3 ⟨a3, n3, c3, rfl, hs3, hb3⟩)
    | (go_at_call 82; refine (HL.out _).mono ?_; rintro en w4 ⟨a4, n4, c4, rfl, hs4, hb4⟩)
    | (go_at_call 83; refine (without_any a4 n4 c4 (belowL (roles + 1)) 0 _ hs4).mono ?_; rintro en w5 ⟨a5, n5, c5, rfl, hs5, hb5⟩))
  generalize hall : withoutL (belowL (roles + 1)) 0 = all at *
  clear hall
  generalize hlit : orL r.yes r.no = lit at *
  clear hlit
  obtain ⟨W6, hW6⟩ : ∃ W6, W6 = w5.alloc (.cells #[.slice a5 n5 c5] 39) := ⟨_, rfl⟩
  rw [← hW6]
  have hb34 : Below w3.heap.size w3 w5 := (bel1 hb4).trans (hb5.mono (by have := hb4.size; simp at this; omega))
  have hb56 : Below w5.heap.size w5 W6 := by rw [hW6]; exact (Below.refl _ _).alloc (Nat.le_refl _) _
  have hz56 : W6.heap.size = w5.heap.size + 1 := by rw [hW6]; simp
  have hz3 := hb3.size
  have hz35 := hb34.size
  have hz4 := hb4.size
  have hz45 := hb5.size
  simp only [World.size_alloc] at hz3 hz4
  have n8 : W6.heap[w5.heap.size]? = some (.cells #[.slice a5 n5 c5] 39 (0, 0)) := by rw [hW6]; exact heap_alloc_new _ _
  have n7 : W6.heap[w3.heap.size]? = some (.cells #[.slice a3 n3 c3] 39 (0, 0)) := (hb56.block _ (by omega)).trans ((hb5.block _ (by omega)).trans ((hb4.block _ (by rw [World.size_alloc]; omega)).trans (heap_alloc_new _ _)))
  have hq0 : Below (w.heap.size + 2) ((w.alloc (.cells #[.bool rv, .int .i64 ad, .int .i64 tg, .slice p1 q1 z1, .slice p2 q2 z2, .slice p3 q3 z3, .int .i64 lg] 46)).alloc (.cells #[.slice e k f] 39)) W6 :=
    (hb3.mono (by simp)).trans ((hb34.mono (by omega)).trans (hb56.mono (by omega)))
  have HQ : Hid (∀ w', Below W6.heap.size W6 w' → ((w'.cell? ⟨w.heap.size, 0, none⟩ = some (.bool rv) ∧ w'.cell? ⟨w.heap.size, 1, none⟩ = some (.int .i64 ad) ∧ w'.cell? ⟨w.heap.size, 2, none⟩ = some (.int .i64 tg) ∧ w'.cell? ⟨w.heap.size, 3, none⟩ = some (.slice p1 q1 z1) ∧ w'.cell? ⟨w.heap.size, 4, none⟩ = some (.slice p2 q2 z2) ∧ w'.cell? ⟨w.heap.size, 5, none⟩ = some (.slice p3 q3 z3) ∧ w'.cell? ⟨w.heap.size, 6, none⟩ = some (.int .i64 lg)) ∧ w'.cell? ⟨w.heap.size + 1, 0, none⟩ = some (.slice e k f) ∧ Below w.heap.size w w') ∧ w'.cell? ⟨w3.heap.size, 0, none⟩ = some (.slice a3 n3 c3) ∧ w'.cell? ⟨w5.heap.size, 0, none⟩ = some (.slice a5 n5 c5)) := fun w' hb =>
    ⟨box71 (hq0.trans (hb.mono (by omega))), (cell1 ((hb.block _ (by omega)).trans n7)).1, (cell1 ((hb.block _ (by omega)).trans n8)).1⟩
  have HS3 : Hid (∀ w', Below W6.heap.size W6 w' → Bs w' a3 n3 c3 lit) := fun w' hb => ((hs3.below hb34).below hb56).below hb
  have HS5 : Hid (∀ w', Below W6.heap.size W6 w' → Bs w' a5 n5 c5 all) := fun w' hb => (hs5.below hb56).below hb
  have hk := Below.refl W6.heap.size W6
  obtain ⟨⟨⟨d0, d1, d2, d3, d4, d5, d6⟩, y0, hB⟩, y7, y8⟩ := HQ.out _ hk
  clear hs3 hs4 hs5 hb3 hb4 hb5 hb34 hb56 hz56 hz3 hz35 hz4 hz45 n7 n8 hq0 hW6 HO HL
  have HA1 := Lib.hid (fun w' (hb : Below W6.heap.size W6 w') => has_any a5 n5 c5 all ad w' (HS5.out w' hb))
  have HA2 := Lib.hid (fun w' (hb : Below W6.heap.size W6 w') => has_any a5 n5 c5 all tg w' (HS5.out w' hb))
  have HA3 := Lib.hid (fun w' (hb : Below W6.heap.size W6 w') => within_c a3 a5 n3 n5 c3 c5 lit all w' (HS3.out w' hb) (HS5.out w' hb))
  have HT1 := Lib.hid (fun w' (hb : Below W6.heap.size W6 w') => has_any e k f adm ad w' (HM.out w' (HQ.out w' hb).1.2.2))
  have HT2 := Lib.hid (fun w' (hb : Below W6.heap.size W6 w') => has_any e k f adm tg w' (HM.out w' (HQ.out w' hb).1.2.2))
  have HT3 := Lib.hid (fun w' (hb : Below W6.heap.size W6 w') => meets_c a3 e n3 k c3 f lit adm w' (HS3.out w' hb) (HM.out w' (HQ.out w' hb).1.2.2))
  have HE1 := Lib.hid (fun w' (hb : Below W6.heap.size W6 w') => HE.out w' (HQ.out w' hb).1.2.2)
  have HE2 := Lib.hid (fun w' (hb : Below W6.heap.size W6 w') => empty_any a3 n3 c3 lit w' (HS3.out w' hb))
  clear HE HM HS3 HS5 HB0
  generalize hasB all ad = A1 at *
  generalize hasB all tg = A2 at *
  generalize subB lit all = A3 at *
  generalize hasB adm ad = T1 at *
  generalize hasB adm tg = T2 at *
  generalize meetB lit adm = T3 at *
  generalize emptyC (r.yes, r.no) = E at *
  generalize hlz : decide (lit = []) = L at *
  clear hlz

  cases A1
  · go_wp2_with (first | (go_at_call 77; (with_reducible refine (HA1.out _ hk).mono ?_); rintro en wn ⟨rfl, hbn⟩; have hk := hk.trans (hbn.mono hk.size); obtain ⟨⟨⟨d0, d1, d2, d3, d4, d5, d6⟩, y0, hB⟩, y7, y8⟩ := HQ.out _ hk) | (go_at_call 77; (with_reducible refine (HA2.out _ hk).mono ?_); rintro en wn ⟨rfl, hbn⟩; have hk := hk.trans (hbn.mono hk.size); obtain ⟨⟨⟨d0, d1, d2, d3, d4, d5, d6⟩, y0, hB⟩, y7, y8⟩ := HQ.out _ hk) | (go_at_call 61; (with_reducible refine (HA3.out _ hk).mono ?_); rintro en wn ⟨rfl, hbn⟩; have hk := hk.trans (hbn.mono hk.size); obtain ⟨⟨⟨d0, d1, d2, d3, d4, d5, d6⟩, y0, hB⟩, y7, y8⟩ := HQ.out _ hk) | (go_at_call 77; (with_reducible refine (HT1.out _ hk).mono ?_); rintro en wn ⟨rfl, hbn⟩; have hk := hk.trans (hbn.mono hk.size); obtain ⟨⟨⟨d0, d1, d2, d3, d4, d5, d6⟩, y0, hB⟩, y7, y8⟩ := HQ.out _ hk) | (go_at_call 77; (with_reducible refine (HT2.out _ hk).mono ?_); rintro en wn ⟨rfl, hbn⟩; have hk := hk.trans (hbn.mono hk.size); obtain ⟨⟨⟨d0, d1, d2, d3, d4, d5, d6⟩, y0, hB⟩, y7, y8⟩ := HQ.out _ hk) | (go_at_call 62; (with_reducible refine (HT3.out _ hk).mono ?_); rintro en wn ⟨rfl, hbn⟩; have hk := hk.trans (hbn.mono hk.size); obtain ⟨⟨⟨d0, d1, d2, d3, d4, d5, d6⟩, y0, hB⟩, y7, y8⟩ := HQ.out _ hk) | (go_at_call 84; (with_reducible refine (HE1.out _ hk).mono ?_); rintro en wn ⟨rfl, hbn⟩; have hk := hk.trans (hbn.mono hk.size); obtain ⟨⟨⟨d0, d1, d2, d3, d4, d5, d6⟩, y0, hB⟩, y7, y8⟩ := HQ.out _ hk) | (go_at_call 23; (with_reducible refine (HE2.out _ hk).mono ?_); rintro en wn ⟨rfl, hbn⟩; have hk := hk.trans (hbn.mono hk.size); obtain ⟨⟨⟨d0, d1, d2, d3, d4, d5, d6⟩, y0, hB⟩, y7, y8⟩ := HQ.out _ hk))
    go_ret
    exact ⟨by rw [HP2.out]; rfl, hB⟩
  · cases A2
    · go_wp2_with (first | (go_at_call 77; (with_reducible refine (HA1.out _ hk).mono ?_); rintro en wn ⟨rfl, hbn⟩; have hk := hk.trans (hbn.mono hk.size); obtain ⟨⟨⟨d0, d1, d2, d3, d4, d5, d6⟩, y0, hB⟩, y7, y8⟩ := HQ.out _ hk) | (go_at_call 77; (with_reducible refine (HA2.out _ hk).mono ?_); rintro en wn ⟨rfl, hbn⟩; have hk := hk.trans (hbn.mono hk.size); obtain ⟨⟨⟨d0, d1, d2, d3, d4, d5, d6⟩, y0, hB⟩, y7, y8⟩ := HQ.out _ hk) | (go_at_call 61; (with_reducible refine (HA3.out _ hk).mono ?_); rintro en wn ⟨rfl, hbn⟩; have hk := hk.trans (hbn.mono hk.size); obtain ⟨⟨⟨d0, d1, d2, d3, d4, d5, d6⟩, y0, hB⟩, y7, y8⟩ := HQ.out _ hk) | (go_at_call 77; (with_reducible refine (HT1.out _ hk).mono ?_); rintro en wn ⟨rfl, hbn⟩; have hk := hk.trans (hbn.mono hk.size); obtain ⟨⟨⟨d0, d1, d2, d3, d4, d5, d6⟩, y0, hB⟩, y7, y8⟩ := HQ.out _ hk) | (go_at_call 77; (with_reducible refine (HT2.out _ hk).mono ?_); rintro en wn ⟨rfl, hbn⟩; have hk := hk.trans (hbn.mono hk.size); obtain ⟨⟨⟨d0, d1, d2, d3, d4, d5, d6⟩, y0, hB⟩, y7, y8⟩ := HQ.out _ hk) | (go_at_call 62; (with_reducible refine (HT3.out _ hk).mono ?_); rintro en wn ⟨rfl, hbn⟩; have hk := hk.trans (hbn.mono hk.size); obtain ⟨⟨⟨d0, d1, d2, d3, d4, d5, d6⟩, y0, hB⟩, y7, y8⟩ := HQ.out _ hk) | (go_at_call 84; (with_reducible refine (HE1.out _ hk).mono ?_); rintro en wn ⟨rfl, hbn⟩; have hk := hk.trans (hbn.mono hk.size); obtain ⟨⟨⟨d0, d1, d2, d3, d4, d5, d6⟩, y0, hB⟩, y7, y8⟩ := HQ.out _ hk) | (go_at_call 23; (with_reducible refine (HE2.out _ hk).mono ?_); rintro en wn ⟨rfl, hbn⟩; have hk := hk.trans (hbn.mono hk.size); obtain ⟨⟨⟨d0, d1, d2, d3, d4, d5, d6⟩, y0, hB⟩, y7, y8⟩ := HQ.out _ hk))
      go_ret
      exact ⟨by rw [HP2.out]; rfl, hB⟩
    · cases A3
      · go_wp2_with (first | (go_at_call 77; (with_reducible refine (HA1.out _ hk).mono ?_); rintro en wn ⟨rfl, hbn⟩; have hk := hk.trans (hbn.mono hk.size); obtain ⟨⟨⟨d0, d1, d2, d3, d4, d5, d6⟩, y0, hB⟩, y7, y8⟩ := HQ.out _ hk) | (go_at_call 77; (with_reducible refine (HA2.out _ hk).mono ?_); rintro en wn ⟨rfl, hbn⟩; have hk := hk.trans (hbn.mono hk.size); obtain ⟨⟨⟨d0, d1, d2, d3, d4, d5, d6⟩, y0, hB⟩, y7, y8⟩ := HQ.out _ hk) | (go_at_call 61; (with_reducible refine (HA3.out _ hk).mono ?_); rintro en wn ⟨rfl, hbn⟩; have hk := hk.trans (hbn.mono hk.size); obtain ⟨⟨⟨d0, d1, d2, d3, d4, d5, d6⟩, y0, hB⟩, y7, y8⟩ := HQ.out _ hk) | (go_at_call 77; (with_reducible refine (HT1.out _ hk).mono ?_); rintro en wn ⟨rfl, hbn⟩; have hk := hk.trans (hbn.mono hk.size); obtain ⟨⟨⟨d0, d1, d2, d3, d4, d5, d6⟩, y0, hB⟩, y7, y8⟩ := HQ.out _ hk) | (go_at_call 77; (with_reducible refine (HT2.out _ hk).mono ?_); rintro en wn ⟨rfl, hbn⟩; have hk := hk.trans (hbn.mono hk.size); obtain ⟨⟨⟨d0, d1, d2, d3, d4, d5, d6⟩, y0, hB⟩, y7, y8⟩ := HQ.out _ hk) | (go_at_call 62; (with_reducible refine (HT3.out _ hk).mono ?_); rintro en wn ⟨rfl, hbn⟩; have hk := hk.trans (hbn.mono hk.size); obtain ⟨⟨⟨d0, d1, d2, d3, d4, d5, d6⟩, y0, hB⟩, y7, y8⟩ := HQ.out _ hk) | (go_at_call 84; (with_reducible refine (HE1.out _ hk).mono ?_); rintro en wn ⟨rfl, hbn⟩; have hk := hk.trans (hbn.mono hk.size); obtain ⟨⟨⟨d0, d1, d2, d3, d4, d5, d6⟩, y0, hB⟩, y7, y8⟩ := HQ.out _ hk) | (go_at_call 23; (with_reducible refine (HE2.out _ hk).mono ?_); rintro en wn ⟨rfl, hbn⟩; have hk := hk.trans (hbn.mono hk.size); obtain ⟨⟨⟨d0, d1, d2, d3, d4, d5, d6⟩, y0, hB⟩, y7, y8⟩ := HQ.out _ hk))
        go_ret
        exact ⟨by rw [HP2.out]; rfl, hB⟩
      · cases T1
        · go_wp2_with (first | (go_at_call 77; (with_reducible refine (HA1.out _ hk).mono ?_); rintro en wn ⟨rfl, hbn⟩; have hk := hk.trans (hbn.mono hk.size); obtain ⟨⟨⟨d0, d1, d2, d3, d4, d5, d6⟩, y0, hB⟩, y7, y8⟩ := HQ.out _ hk) | (go_at_call 77; (with_reducible refine (HA2.out _ hk).mono ?_); rintro en wn ⟨rfl, hbn⟩; have hk := hk.trans (hbn.mono hk.size); obtain ⟨⟨⟨d0, d1, d2, d3, d4, d5, d6⟩, y0, hB⟩, y7, y8⟩ := HQ.out _ hk) | (go_at_call 61; (with_reducible refine (HA3.out _ hk).mono ?_); rintro en wn ⟨rfl, hbn⟩; have hk := hk.trans (hbn.mono hk.size); obtain ⟨⟨⟨d0, d1, d2, d3, d4, d5, d6⟩, y0, hB⟩, y7, y8⟩ := HQ.out _ hk) | (go_at_call 77; (with_reducible refine (HT1.out _ hk).mono ?_); rintro en wn ⟨rfl, hbn⟩; have hk := hk.trans (hbn.mono hk.size); obtain ⟨⟨⟨d0, d1, d2, d3, d4, d5, d6⟩, y0, hB⟩, y7, y8⟩ := HQ.out _ hk) | (go_at_call 77; (with_reducible refine (HT2.out _ hk).mono ?_); rintro en wn ⟨rfl, hbn⟩; have hk := hk.trans (hbn.mono hk.size); obtain ⟨⟨⟨d0, d1, d2, d3, d4, d5, d6⟩, y0, hB⟩, y7, y8⟩ := HQ.out _ hk) | (go_at_call 62; (with_reducible refine (HT3.out _ hk).mono ?_); rintro en wn ⟨rfl, hbn⟩; have hk := hk.trans (hbn.mono hk.size); obtain ⟨⟨⟨d0, d1, d2, d3, d4, d5, d6⟩, y0, hB⟩, y7, y8⟩ := HQ.out _ hk) | (go_at_call 84; (with_reducible refine (HE1.out _ hk).mono ?_); rintro en wn ⟨rfl, hbn⟩; have hk := hk.trans (hbn.mono hk.size); obtain ⟨⟨⟨d0, d1, d2, d3, d4, d5, d6⟩, y0, hB⟩, y7, y8⟩ := HQ.out _ hk) | (go_at_call 23; (with_reducible refine (HE2.out _ hk).mono ?_); rintro en wn ⟨rfl, hbn⟩; have hk := hk.trans (hbn.mono hk.size); obtain ⟨⟨⟨d0, d1, d2, d3, d4, d5, d6⟩, y0, hB⟩, y7, y8⟩ := HQ.out _ hk))
          go_ret
          exact ⟨by rw [HP2.out]; rfl, hB⟩
        · cases T2
          · cases T3
            · cases E
              · cases rv
                · by_cases g3 : lg < 0
                  · go_wp2_with (first | (go_at_call 77; (with_reducible refine (HA1.out _ hk).mono ?_); rintro en wn ⟨rfl, hbn⟩; have hk := hk.trans (hbn.mono hk.size); obtain ⟨⟨⟨d0, d1, d2, d3, d4, d5, d6⟩, y0, hB⟩, y7, y8⟩ := HQ.out _ hk) | (go_at_call 77; (with_reducible refine (HA2.out _ hk).mono ?_); rintro en wn ⟨rfl, hbn⟩; have hk := hk.trans (hbn.mono hk.size); obtain ⟨⟨⟨d0, d1, d2, d3, d4, d5, d6⟩, y0, hB⟩, y7, y8⟩ := HQ.out _ hk) | (go_at_call 61; (with_reducible refine (HA3.out _ hk).mono ?_); rintro en wn ⟨rfl, hbn⟩; have hk := hk.trans (hbn.mono hk.size); obtain ⟨⟨⟨d0, d1, d2, d3, d4, d5, d6⟩, y0, hB⟩, y7, y8⟩ := HQ.out _ hk) | (go_at_call 77; (with_reducible refine (HT1.out _ hk).mono ?_); rintro en wn ⟨rfl, hbn⟩; have hk := hk.trans (hbn.mono hk.size); obtain ⟨⟨⟨d0, d1, d2, d3, d4, d5, d6⟩, y0, hB⟩, y7, y8⟩ := HQ.out _ hk) | (go_at_call 77; (with_reducible refine (HT2.out _ hk).mono ?_); rintro en wn ⟨rfl, hbn⟩; have hk := hk.trans (hbn.mono hk.size); obtain ⟨⟨⟨d0, d1, d2, d3, d4, d5, d6⟩, y0, hB⟩, y7, y8⟩ := HQ.out _ hk) | (go_at_call 62; (with_reducible refine (HT3.out _ hk).mono ?_); rintro en wn ⟨rfl, hbn⟩; have hk := hk.trans (hbn.mono hk.size); obtain ⟨⟨⟨d0, d1, d2, d3, d4, d5, d6⟩, y0, hB⟩, y7, y8⟩ := HQ.out _ hk) | (go_at_call 84; (with_reducible refine (HE1.out _ hk).mono ?_); rintro en wn ⟨rfl, hbn⟩; have hk := hk.trans (hbn.mono hk.size); obtain ⟨⟨⟨d0, d1, d2, d3, d4, d5, d6⟩, y0, hB⟩, y7, y8⟩ := HQ.out _ hk) | (go_at_call 23; (with_reducible refine (HE2.out _ hk).mono ?_); rintro en wn ⟨rfl, hbn⟩; have hk := hk.trans (hbn.mono hk.size); obtain ⟨⟨⟨d0, d1, d2, d3, d4, d5, d6⟩, y0, hB⟩, y7, y8⟩ := HQ.out _ hk))
                    go_ret
                    exact ⟨by rw [HP2.out, decide_eq_true g3]; rfl, hB⟩
                  · by_cases g4 : 30000 < lg
                    · go_wp2_with (first | (go_at_call 77; (with_reducible refine (HA1.out _ hk).mono ?_); rintro en wn ⟨rfl, hbn⟩; have hk := hk.trans (hbn.mono hk.size); obtain ⟨⟨⟨d0, d1, d2, d3, d4, d5, d6⟩, y0, hB⟩, y7, y8⟩ := HQ.out _ hk) | (go_at_call 77; (with_reducible refine (HA2.out _ hk).mono ?_); rintro en wn ⟨rfl, hbn⟩; have hk := hk.trans (hbn.mono hk.size); obtain ⟨⟨⟨d0, d1, d2, d3, d4, d5, d6⟩, y0, hB⟩, y7, y8⟩ := HQ.out _ hk) | (go_at_call 61; (with_reducible refine (HA3.out _ hk).mono ?_); rintro en wn ⟨rfl, hbn⟩; have hk := hk.trans (hbn.mono hk.size); obtain ⟨⟨⟨d0, d1, d2, d3, d4, d5, d6⟩, y0, hB⟩, y7, y8⟩ := HQ.out _ hk) | (go_at_call 77; (with_reducible refine (HT1.out _ hk).mono ?_); rintro en wn ⟨rfl, hbn⟩; have hk := hk.trans (hbn.mono hk.size); obtain ⟨⟨⟨d0, d1, d2, d3, d4, d5, d6⟩, y0, hB⟩, y7, y8⟩ := HQ.out _ hk) | (go_at_call 77; (with_reducible refine (HT2.out _ hk).mono ?_); rintro en wn ⟨rfl, hbn⟩; have hk := hk.trans (hbn.mono hk.size); obtain ⟨⟨⟨d0, d1, d2, d3, d4, d5, d6⟩, y0, hB⟩, y7, y8⟩ := HQ.out _ hk) | (go_at_call 62; (with_reducible refine (HT3.out _ hk).mono ?_); rintro en wn ⟨rfl, hbn⟩; have hk := hk.trans (hbn.mono hk.size); obtain ⟨⟨⟨d0, d1, d2, d3, d4, d5, d6⟩, y0, hB⟩, y7, y8⟩ := HQ.out _ hk) | (go_at_call 84; (with_reducible refine (HE1.out _ hk).mono ?_); rintro en wn ⟨rfl, hbn⟩; have hk := hk.trans (hbn.mono hk.size); obtain ⟨⟨⟨d0, d1, d2, d3, d4, d5, d6⟩, y0, hB⟩, y7, y8⟩ := HQ.out _ hk) | (go_at_call 23; (with_reducible refine (HE2.out _ hk).mono ?_); rintro en wn ⟨rfl, hbn⟩; have hk := hk.trans (hbn.mono hk.size); obtain ⟨⟨⟨d0, d1, d2, d3, d4, d5, d6⟩, y0, hB⟩, y7, y8⟩ := HQ.out _ hk))
                      all_goals (try (exfalso; omega))
                      go_ret
                      exact ⟨by rw [HP2.out, decide_eq_false (p := lg < 0) (by omega), decide_eq_true g4]; rfl, hB⟩
                    · go_wp2_with (first | (go_at_call 77; (with_reducible refine (HA1.out _ hk).mono ?_); rintro en wn ⟨rfl, hbn⟩; have hk := hk.trans (hbn.mono hk.size); obtain ⟨⟨⟨d0, d1, d2, d3, d4, d5, d6⟩, y0, hB⟩, y7, y8⟩ := HQ.out _ hk) | (go_at_call 77; (with_reducible refine (HA2.out _ hk).mono ?_); rintro en wn ⟨rfl, hbn⟩; have hk := hk.trans (hbn.mono hk.size); obtain ⟨⟨⟨d0, d1, d2, d3, d4, d5, d6⟩, y0, hB⟩, y7, y8⟩ := HQ.out _ hk) | (go_at_call 61; (with_reducible refine (HA3.out _ hk).mono ?_); rintro en wn ⟨rfl, hbn⟩; have hk := hk.trans (hbn.mono hk.size); obtain ⟨⟨⟨d0, d1, d2, d3, d4, d5, d6⟩, y0, hB⟩, y7, y8⟩ := HQ.out _ hk) | (go_at_call 77; (with_reducible refine (HT1.out _ hk).mono ?_); rintro en wn ⟨rfl, hbn⟩; have hk := hk.trans (hbn.mono hk.size); obtain ⟨⟨⟨d0, d1, d2, d3, d4, d5, d6⟩, y0, hB⟩, y7, y8⟩ := HQ.out _ hk) | (go_at_call 77; (with_reducible refine (HT2.out _ hk).mono ?_); rintro en wn ⟨rfl, hbn⟩; have hk := hk.trans (hbn.mono hk.size); obtain ⟨⟨⟨d0, d1, d2, d3, d4, d5, d6⟩, y0, hB⟩, y7, y8⟩ := HQ.out _ hk) | (go_at_call 62; (with_reducible refine (HT3.out _ hk).mono ?_); rintro en wn ⟨rfl, hbn⟩; have hk := hk.trans (hbn.mono hk.size); obtain ⟨⟨⟨d0, d1, d2, d3, d4, d5, d6⟩, y0, hB⟩, y7, y8⟩ := HQ.out _ hk) | (go_at_call 84; (with_reducible refine (HE1.out _ hk).mono ?_); rintro en wn ⟨rfl, hbn⟩; have hk := hk.trans (hbn.mono hk.size); obtain ⟨⟨⟨d0, d1, d2, d3, d4, d5, d6⟩, y0, hB⟩, y7, y8⟩ := HQ.out _ hk) | (go_at_call 23; (with_reducible refine (HE2.out _ hk).mono ?_); rintro en wn ⟨rfl, hbn⟩; have hk := hk.trans (hbn.mono hk.size); obtain ⟨⟨⟨d0, d1, d2, d3, d4, d5, d6⟩, y0, hB⟩, y7, y8⟩ := HQ.out _ hk))
                      all_goals (try (exfalso; omega))
                      go_ret
                      exact ⟨by rw [HP2.out, decide_eq_false (p := lg < 0) (by omega), decide_eq_false (p := 30000 < lg) (by omega)]; rfl, hB⟩
                · cases L
                  · go_wp2_with (first | (go_at_call 77; (with_reducible refine (HA1.out _ hk).mono ?_); rintro en wn ⟨rfl, hbn⟩; have hk := hk.trans (hbn.mono hk.size); obtain ⟨⟨⟨d0, d1, d2, d3, d4, d5, d6⟩, y0, hB⟩, y7, y8⟩ := HQ.out _ hk) | (go_at_call 77; (with_reducible refine (HA2.out _ hk).mono ?_); rintro en wn ⟨rfl, hbn⟩; have hk := hk.trans (hbn.mono hk.size); obtain ⟨⟨⟨d0, d1, d2, d3, d4, d5, d6⟩, y0, hB⟩, y7, y8⟩ := HQ.out _ hk) | (go_at_call 61; (with_reducible refine (HA3.out _ hk).mono ?_); rintro en wn ⟨rfl, hbn⟩; have hk := hk.trans (hbn.mono hk.size); obtain ⟨⟨⟨d0, d1, d2, d3, d4, d5, d6⟩, y0, hB⟩, y7, y8⟩ := HQ.out _ hk) | (go_at_call 77; (with_reducible refine (HT1.out _ hk).mono ?_); rintro en wn ⟨rfl, hbn⟩; have hk := hk.trans (hbn.mono hk.size); obtain ⟨⟨⟨d0, d1, d2, d3, d4, d5, d6⟩, y0, hB⟩, y7, y8⟩ := HQ.out _ hk) | (go_at_call 77; (with_reducible refine (HT2.out _ hk).mono ?_); rintro en wn ⟨rfl, hbn⟩; have hk := hk.trans (hbn.mono hk.size); obtain ⟨⟨⟨d0, d1, d2, d3, d4, d5, d6⟩, y0, hB⟩, y7, y8⟩ := HQ.out _ hk) | (go_at_call 62; (with_reducible refine (HT3.out _ hk).mono ?_); rintro en wn ⟨rfl, hbn⟩; have hk := hk.trans (hbn.mono hk.size); obtain ⟨⟨⟨d0, d1, d2, d3, d4, d5, d6⟩, y0, hB⟩, y7, y8⟩ := HQ.out _ hk) | (go_at_call 84; (with_reducible refine (HE1.out _ hk).mono ?_); rintro en wn ⟨rfl, hbn⟩; have hk := hk.trans (hbn.mono hk.size); obtain ⟨⟨⟨d0, d1, d2, d3, d4, d5, d6⟩, y0, hB⟩, y7, y8⟩ := HQ.out _ hk) | (go_at_call 23; (with_reducible refine (HE2.out _ hk).mono ?_); rintro en wn ⟨rfl, hbn⟩; have hk := hk.trans (hbn.mono hk.size); obtain ⟨⟨⟨d0, d1, d2, d3, d4, d5, d6⟩, y0, hB⟩, y7, y8⟩ := HQ.out _ hk))
                    go_ret
                    exact ⟨by rw [HP2.out]; rfl, hB⟩
                  · by_cases g2 : lg = 0
                    · subst g2
                      go_wp2_with (first | (go_at_call 77; (with_reducible refine (HA1.out _ hk).mono ?_); rintro en wn ⟨rfl, hbn⟩; have hk := hk.trans (hbn.mono hk.size); obtain ⟨⟨⟨d0, d1, d2, d3, d4, d5, d6⟩, y0, hB⟩, y7, y8⟩ := HQ.out _ hk) | (go_at_call 77; (with_reducible refine (HA2.out _ hk).mono ?_); rintro en wn ⟨rfl, hbn⟩; have hk := hk.trans (hbn.mono hk.size); obtain ⟨⟨⟨d0, d1, d2, d3, d4, d5, d6⟩, y0, hB⟩, y7, y8⟩ := HQ.out _ hk) | (go_at_call 61; (with_reducible refine (HA3.out _ hk).mono ?_); rintro en wn ⟨rfl, hbn⟩; have hk := hk.trans (hbn.mono hk.size); obtain ⟨⟨⟨d0, d1, d2, d3, d4, d5, d6⟩, y0, hB⟩, y7, y8⟩ := HQ.out _ hk) | (go_at_call 77; (with_reducible refine (HT1.out _ hk).mono ?_); rintro en wn ⟨rfl, hbn⟩; have hk := hk.trans (hbn.mono hk.size); obtain ⟨⟨⟨d0, d1, d2, d3, d4, d5, d6⟩, y0, hB⟩, y7, y8⟩ := HQ.out _ hk) | (go_at_call 77; (with_reducible refine (HT2.out _ hk).mono ?_); rintro en wn ⟨rfl, hbn⟩; have hk := hk.trans (hbn.mono hk.size); obtain ⟨⟨⟨d0, d1, d2, d3, d4, d5, d6⟩, y0, hB⟩, y7, y8⟩ := HQ.out _ hk) | (go_at_call 62; (with_reducible refine (HT3.out _ hk).mono ?_); rintro en wn ⟨rfl, hbn⟩; have hk := hk.trans (hbn.mono hk.size); obtain ⟨⟨⟨d0, d1, d2, d3, d4, d5, d6⟩, y0, hB⟩, y7, y8⟩ := HQ.out _ hk) | (go_at_call 84; (with_reducible refine (HE1.out _ hk).mono ?_); rintro en wn ⟨rfl, hbn⟩; have hk := hk.trans (hbn.mono hk.size); obtain ⟨⟨⟨d0, d1, d2, d3, d4, d5, d6⟩, y0, hB⟩, y7, y8⟩ := HQ.out _ hk) | (go_at_call 23; (with_reducible refine (HE2.out _ hk).mono ?_); rintro en wn ⟨rfl, hbn⟩; have hk := hk.trans (hbn.mono hk.size); obtain ⟨⟨⟨d0, d1, d2, d3, d4, d5, d6⟩, y0, hB⟩, y7, y8⟩ := HQ.out _ hk))
                      go_ret
                      exact ⟨by rw [HP2.out]; rfl, hB⟩
                    · go_wp2_with (first | (go_at_call 77; (with_reducible refine (HA1.out _ hk).mono ?_); rintro en wn ⟨rfl, hbn⟩; have hk := hk.trans (hbn.mono hk.size); obtain ⟨⟨⟨d0, d1, d2, d3, d4, d5, d6⟩, y0, hB⟩, y7, y8⟩ := HQ.out _ hk) | (go_at_call 77; (with_reducible refine (HA2.out _ hk).mono ?_); rintro en wn ⟨rfl, hbn⟩; have hk := hk.trans (hbn.mono hk.size); obtain ⟨⟨⟨d0, d1, d2, d3, d4, d5, d6⟩, y0, hB⟩, y7, y8⟩ := HQ.out _ hk) | (go_at_call 61; (with_reducible refine (HA3.out _ hk).mono ?_); rintro en wn ⟨rfl, hbn⟩; have hk := hk.trans (hbn.mono hk.size); obtain ⟨⟨⟨d0, d1, d2, d3, d4, d5, d6⟩, y0, hB⟩, y7, y8⟩ := HQ.out _ hk) | (go_at_call 77; (with_reducible refine (HT1.out _ hk).mono ?_); rintro en wn ⟨rfl, hbn⟩; have hk := hk.trans (hbn.mono hk.size); obtain ⟨⟨⟨d0, d1, d2, d3, d4, d5, d6⟩, y0, hB⟩, y7, y8⟩ := HQ.out _ hk) | (go_at_call 77; (with_reducible refine (HT2.out _ hk).mono ?_); rintro en wn ⟨rfl, hbn⟩; have hk := hk.trans (hbn.mono hk.size); obtain ⟨⟨⟨d0, d1, d2, d3, d4, d5, d6⟩, y0, hB⟩, y7, y8⟩ := HQ.out _ hk) | (go_at_call 62; (with_reducible refine (HT3.out _ hk).mono ?_); rintro en wn ⟨rfl, hbn⟩; have hk := hk.trans (hbn.mono hk.size); obtain ⟨⟨⟨d0, d1, d2, d3, d4, d5, d6⟩, y0, hB⟩, y7, y8⟩ := HQ.out _ hk) | (go_at_call 84; (with_reducible refine (HE1.out _ hk).mono ?_); rintro en wn ⟨rfl, hbn⟩; have hk := hk.trans (hbn.mono hk.size); obtain ⟨⟨⟨d0, d1, d2, d3, d4, d5, d6⟩, y0, hB⟩, y7, y8⟩ := HQ.out _ hk) | (go_at_call 23; (with_reducible refine (HE2.out _ hk).mono ?_); rintro en wn ⟨rfl, hbn⟩; have hk := hk.trans (hbn.mono hk.size); obtain ⟨⟨⟨d0, d1, d2, d3, d4, d5, d6⟩, y0, hB⟩, y7, y8⟩ := HQ.out _ hk))
                      all_goals (try (exfalso; omega))
                      go_ret
                      exact ⟨by rw [HP2.out, decide_eq_false (p := lg = 0) (by omega)]; rfl, hB⟩
              · go_wp2_with (first | (go_at_call 77; (with_reducible refine (HA1.out _ hk).mono ?_); rintro en wn ⟨rfl, hbn⟩; have hk := hk.trans (hbn.mono hk.size); obtain ⟨⟨⟨d0, d1, d2, d3, d4, d5, d6⟩, y0, hB⟩, y7, y8⟩ := HQ.out _ hk) | (go_at_call 77; (with_reducible refine (HA2.out _ hk).mono ?_); rintro en wn ⟨rfl, hbn⟩; have hk := hk.trans (hbn.mono hk.size); obtain ⟨⟨⟨d0, d1, d2, d3, d4, d5, d6⟩, y0, hB⟩, y7, y8⟩ := HQ.out _ hk) | (go_at_call 61; (with_reducible refine (HA3.out _ hk).mono ?_); rintro en wn ⟨rfl, hbn⟩; have hk := hk.trans (hbn.mono hk.size); obtain ⟨⟨⟨d0, d1, d2, d3, d4, d5, d6⟩, y0, hB⟩, y7, y8⟩ := HQ.out _ hk) | (go_at_call 77; (with_reducible refine (HT1.out _ hk).mono ?_); rintro en wn ⟨rfl, hbn⟩; have hk := hk.trans (hbn.mono hk.size); obtain ⟨⟨⟨d0, d1, d2, d3, d4, d5, d6⟩, y0, hB⟩, y7, y8⟩ := HQ.out _ hk) | (go_at_call 77; (with_reducible refine (HT2.out _ hk).mono ?_); rintro en wn ⟨rfl, hbn⟩; have hk := hk.trans (hbn.mono hk.size); obtain ⟨⟨⟨d0, d1, d2, d3, d4, d5, d6⟩, y0, hB⟩, y7, y8⟩ := HQ.out _ hk) | (go_at_call 62; (with_reducible refine (HT3.out _ hk).mono ?_); rintro en wn ⟨rfl, hbn⟩; have hk := hk.trans (hbn.mono hk.size); obtain ⟨⟨⟨d0, d1, d2, d3, d4, d5, d6⟩, y0, hB⟩, y7, y8⟩ := HQ.out _ hk) | (go_at_call 84; (with_reducible refine (HE1.out _ hk).mono ?_); rintro en wn ⟨rfl, hbn⟩; have hk := hk.trans (hbn.mono hk.size); obtain ⟨⟨⟨d0, d1, d2, d3, d4, d5, d6⟩, y0, hB⟩, y7, y8⟩ := HQ.out _ hk) | (go_at_call 23; (with_reducible refine (HE2.out _ hk).mono ?_); rintro en wn ⟨rfl, hbn⟩; have hk := hk.trans (hbn.mono hk.size); obtain ⟨⟨⟨d0, d1, d2, d3, d4, d5, d6⟩, y0, hB⟩, y7, y8⟩ := HQ.out _ hk))
                go_ret
                exact ⟨by rw [HP2.out]; rfl, hB⟩
            · go_wp2_with (first | (go_at_call 77; (with_reducible refine (HA1.out _ hk).mono ?_); rintro en wn ⟨rfl, hbn⟩; have hk := hk.trans (hbn.mono hk.size); obtain ⟨⟨⟨d0, d1, d2, d3, d4, d5, d6⟩, y0, hB⟩, y7, y8⟩ := HQ.out _ hk) | (go_at_call 77; (with_reducible refine (HA2.out _ hk).mono ?_); rintro en wn ⟨rfl, hbn⟩; have hk := hk.trans (hbn.mono hk.size); obtain ⟨⟨⟨d0, d1, d2, d3, d4, d5, d6⟩, y0, hB⟩, y7, y8⟩ := HQ.out _ hk) | (go_at_call 61; (with_reducible refine (HA3.out _ hk).mono ?_); rintro en wn ⟨rfl, hbn⟩; have hk := hk.trans (hbn.mono hk.size); obtain ⟨⟨⟨d0, d1, d2, d3, d4, d5, d6⟩, y0, hB⟩, y7, y8⟩ := HQ.out _ hk) | (go_at_call 77; (with_reducible refine (HT1.out _ hk).mono ?_); rintro en wn ⟨rfl, hbn⟩; have hk := hk.trans (hbn.mono hk.size); obtain ⟨⟨⟨d0, d1, d2, d3, d4, d5, d6⟩, y0, hB⟩, y7, y8⟩ := HQ.out _ hk) | (go_at_call 77; (with_reducible refine (HT2.out _ hk).mono ?_); rintro en wn ⟨rfl, hbn⟩; have hk := hk.trans (hbn.mono hk.size); obtain ⟨⟨⟨d0, d1, d2, d3, d4, d5, d6⟩, y0, hB⟩, y7, y8⟩ := HQ.out _ hk) | (go_at_call 62; (with_reducible refine (HT3.out _ hk).mono ?_); rintro en wn ⟨rfl, hbn⟩; have hk := hk.trans (hbn.mono hk.size); obtain ⟨⟨⟨d0, d1, d2, d3, d4, d5, d6⟩, y0, hB⟩, y7, y8⟩ := HQ.out _ hk) | (go_at_call 84; (with_reducible refine (HE1.out _ hk).mono ?_); rintro en wn ⟨rfl, hbn⟩; have hk := hk.trans (hbn.mono hk.size); obtain ⟨⟨⟨d0, d1, d2, d3, d4, d5, d6⟩, y0, hB⟩, y7, y8⟩ := HQ.out _ hk) | (go_at_call 23; (with_reducible refine (HE2.out _ hk).mono ?_); rintro en wn ⟨rfl, hbn⟩; have hk := hk.trans (hbn.mono hk.size); obtain ⟨⟨⟨d0, d1, d2, d3, d4, d5, d6⟩, y0, hB⟩, y7, y8⟩ := HQ.out _ hk))
              go_ret
              exact ⟨by rw [HP2.out]; rfl, hB⟩
          · go_wp2_with (first | (go_at_call 77; (with_reducible refine (HA1.out _ hk).mono ?_); rintro en wn ⟨rfl, hbn⟩; have hk := hk.trans (hbn.mono hk.size); obtain ⟨⟨⟨d0, d1, d2, d3, d4, d5, d6⟩, y0, hB⟩, y7, y8⟩ := HQ.out _ hk) | (go_at_call 77; (with_reducible refine (HA2.out _ hk).mono ?_); rintro en wn ⟨rfl, hbn⟩; have hk := hk.trans (hbn.mono hk.size); obtain ⟨⟨⟨d0, d1, d2, d3, d4, d5, d6⟩, y0, hB⟩, y7, y8⟩ := HQ.out _ hk) | (go_at_call 61; (with_reducible refine (HA3.out _ hk).mono ?_); rintro en wn ⟨rfl, hbn⟩; have hk := hk.trans (hbn.mono hk.size); obtain ⟨⟨⟨d0, d1, d2, d3, d4, d5, d6⟩, y0, hB⟩, y7, y8⟩ := HQ.out _ hk) | (go_at_call 77; (with_reducible refine (HT1.out _ hk).mono ?_); rintro en wn ⟨rfl, hbn⟩; have hk := hk.trans (hbn.mono hk.size); obtain ⟨⟨⟨d0, d1, d2, d3, d4, d5, d6⟩, y0, hB⟩, y7, y8⟩ := HQ.out _ hk) | (go_at_call 77; (with_reducible refine (HT2.out _ hk).mono ?_); rintro en wn ⟨rfl, hbn⟩; have hk := hk.trans (hbn.mono hk.size); obtain ⟨⟨⟨d0, d1, d2, d3, d4, d5, d6⟩, y0, hB⟩, y7, y8⟩ := HQ.out _ hk) | (go_at_call 62; (with_reducible refine (HT3.out _ hk).mono ?_); rintro en wn ⟨rfl, hbn⟩; have hk := hk.trans (hbn.mono hk.size); obtain ⟨⟨⟨d0, d1, d2, d3, d4, d5, d6⟩, y0, hB⟩, y7, y8⟩ := HQ.out _ hk) | (go_at_call 84; (with_reducible refine (HE1.out _ hk).mono ?_); rintro en wn ⟨rfl, hbn⟩; have hk := hk.trans (hbn.mono hk.size); obtain ⟨⟨⟨d0, d1, d2, d3, d4, d5, d6⟩, y0, hB⟩, y7, y8⟩ := HQ.out _ hk) | (go_at_call 23; (with_reducible refine (HE2.out _ hk).mono ?_); rintro en wn ⟨rfl, hbn⟩; have hk := hk.trans (hbn.mono hk.size); obtain ⟨⟨⟨d0, d1, d2, d3, d4, d5, d6⟩, y0, hB⟩, y7, y8⟩ := HQ.out _ hk))
            go_ret
            exact ⟨by rw [HP2.out]; rfl, hB⟩
end Go.Proofs.YtfjpbkmnlmecgaaGreatDoor.Ru
end

section
/- The reference's in and Check. -/
namespace Go.Proofs.YtfjpbkmnlmecgaaGreatDoor.Ru
open Go.RowKit Go.PlainAid Go.Maps Go.Proofs.YtfjpbkmnlmecgaaGreatDoor Go.Proofs.YtfjpbkmnlmecgaaGreatDoor.Bz
set_option linter.unusedVariables false
set_option linter.unusedSimpArgs false
set_option maxHeartbeats 4000000
set_option maxRecDepth 20000

theorem in_any (s : Nat) (r : Int) (w : World) : Calls Tryz.prog 78 #[.int .u64 (s : Nat), .int .i64 r] w (BoolPost w (inM s r)) := by
  by_cases g0 : 0 ≤ r
  · by_cases g1 : r < 64
    · obtain ⟨k, rfl⟩ : ∃ k : Nat, r = k := ⟨r.toNat, by omega⟩
      have hsh := shr_bit s k
      have HP : Hid (inM s (k : Int) = s.testBit k) := by show _ = _; unfold inM; rw [decide_eq_true g0, decide_eq_true g1, Int.toNat_natCast]; rfl
      cases hb : s.testBit k
      · rw [hb] at hsh HP
        clear hb
        go_enter Tryz.func78, Tryz.ntmps78
        go_wp2_with fail
        go_ret
        exact ⟨by rw [HP.out] <;> rfl, Below.refl _ _⟩
      · rw [hb] at hsh HP
        clear hb
        go_enter Tryz.func78, Tryz.ntmps78
        go_wp2_with fail
        go_ret
        exact ⟨by rw [HP.out] <;> rfl, Below.refl _ _⟩
    · have HP : Hid (inM s r = false) := by show _ = _; unfold inM; rw [decide_eq_false g1]; simp
      go_enter Tryz.func78, Tryz.ntmps78
      go_wp2_with fail
      go_ret
      exact ⟨by rw [HP.out] <;> rfl, Below.refl _ _⟩
  · have HP : Hid (inM s r = false) := by show _ = _; unfold inM; rw [decide_eq_false g0]; simp
    go_enter Tryz.func78, Tryz.ntmps78
    go_wp2_with fail
    go_ret
    exact ⟨by rw [HP.out] <;> rfl, Below.refl _ _⟩
theorem any_at {P : Nat → Bool} {j n : Nat} (hj : j < n) (h : P j = true) : (List.range n).any P = true := List.any_eq_true.2 ⟨j, List.mem_range.2 hj, h⟩
theorem any_step {P : Nat → Bool} {j : Nat} (h : (List.range j).any P = false) (hp : P j = false) : (List.range (j + 1)).any P = false := by
  rw [List.range_succ, List.any_append, h]
  simp [hp]
theorem rcheck_any (rv : Bool) (ad tg lg : Int) (y z adm : Nat) (a : Option Addr) (n c : Nat) (days : List (Int × Int)) (roles : Int) (w : World) (hy : y < 18446744073709551616) (hz : z < 18446744073709551616) (hm : adm < 18446744073709551616) :
    Calls Tryz.prog 35 #[.agg #[.bool rv, .int .i64 ad, .int .i64 tg, .int .u64 (y : Nat), .int .u64 (z : Nat), .slice a n c, .int .i64 lg], .int .i64 roles, .int .u64 (adm : Nat)] w (IntPost w (chkF ⟨rv, ad, tg, y, z, days, lg⟩ roles adm)) := by
  have hor : bits .or .u64 ((y : Nat) : Int) ((z : Nat) : Int) = ((y ||| z : Nat) : Int) := u64_or_nat _ _ hy hz
  have hyz : bits .and .u64 ((y : Nat) : Int) ((z : Nat) : Int) = ((y &&& z : Nat) : Int) := u64_and_nat _ _ hy hz
  have htm : bits .and .u64 ((y ||| z : Nat) : Int) ((adm : Nat) : Int) = (((y ||| z) &&& adm : Nat) : Int) := u64_and_nat _ _ (or_lt hy hz) hm
  have HI := Lib.hid (fun (s : Nat) (r : Int) (w' : World) => in_any s r w')
  have HP : Hid (chkF ⟨rv, ad, tg, y, z, days, lg⟩ roles adm = (if decide (roles < 0) || decide (63 < roles) then 1
    else if decide (ad < 1) || (decide (roles < ad) || (decide (tg < 1) || decide (roles < tg))) then 4
    else if (List.range 64).any (badX (y ||| z) roles) then 4
    else if !inM adm ad || (inM adm tg || !decide ((y ||| z) &&& adm = 0)) then 10
    else if !decide (y &&& z = 0) || (rv && (!decide (y ||| z = 0) || !decide (lg = 0))) then 6
    else if decide (lg < 0) || decide (30000 < lg) then 2 else 0)) := rfl
  generalize chkF ⟨rv, ad, tg, y, z, days, lg⟩ roles adm = res at *
  generalize (y ||| z) &&& adm = q at *
  generalize y ||| z = t at *
  generalize y &&& z = p at *
  have HIT := Lib.hid (fun (r : Int) (w' : World) => HI.out t r w')
  have HA1 := Lib.hid (fun (w' : World) => HI.out adm ad w')
  have HA2 := Lib.hid (fun (w' : World) => HI.out adm tg w')
  clear HI
  generalize inM adm ad = A1 at *
  generalize inM adm tg = A2 at *
  obtain ⟨W1, hW1⟩ : ∃ W1, W1 = w.alloc (.cells #[.bool rv, .int .i64 ad, .int .i64 tg, .int .u64 (y : Nat), .int .u64 (z : Nat), .slice a n c, .int .i64 lg] 35) := ⟨_, rfl⟩
  have HQ : Hid (∀ w', Below W1.heap.size W1 w' → (w'.cell? ⟨w.heap.size, 0, none⟩ = some (.bool rv) ∧ w'.cell? ⟨w.heap.size, 1, none⟩ = some (.int .i64 ad) ∧ w'.cell? ⟨w.heap.size, 2, none⟩ = some (.int .i64 tg) ∧ w'.cell? ⟨w.heap.size, 3, none⟩ = some (.int .u64 (y : Nat)) ∧ w'.cell? ⟨w.heap.size, 4, none⟩ = some (.int .u64 (z : Nat)) ∧ w'.cell? ⟨w.heap.size, 5, none⟩ = some (.slice a n c) ∧ w'.cell? ⟨w.heap.size, 6, none⟩ = some (.int .i64 lg)) ∧ Below w.heap.size w w') := fun w' hb => by
    rw [hW1] at hb
    exact box7 (by simp) hb
  have hk := Below.refl W1.heap.size W1
  obtain ⟨⟨d0, d1, d2, d3, d4, d5, d6⟩, hB⟩ := HQ.out _ hk
  by_cases g0 : roles < 0
  · go_enter Tryz.func35, Tryz.ntmps35
    go_wp2_with fail
    go_ret
    exact ⟨by rw [HP.out, decide_eq_true g0]; rfl, by rw [hW1] at hB; exact hB⟩
  by_cases g1 : 63 < roles
  · go_enter Tryz.func35, Tryz.ntmps35
    go_wp2_with fail
    go_ret
    exact ⟨by rw [HP.out, decide_eq_true g1, Bool.or_true]; rfl, by rw [hW1] at hB; exact hB⟩
  by_cases g2 : ad < 1
  · go_enter Tryz.func35, Tryz.ntmps35
    go_wp2_with fail
    go_ret
    exact ⟨by rw [HP.out, decide_eq_false (p := roles < 0) (by omega), decide_eq_false (p := 63 < roles) (by omega), decide_eq_true g2]; rfl, by rw [hW1] at hB; exact hB⟩
  by_cases g3 : roles < ad
  · go_enter Tryz.func35, Tryz.ntmps35
    go_wp2_with fail
    go_ret
    exact ⟨by rw [HP.out, decide_eq_false (p := roles < 0) (by omega), decide_eq_false (p := 63 < roles) (by omega), decide_eq_false (p := ad < 1) (by omega), decide_eq_true g3]; rfl, by rw [hW1] at hB; exact hB⟩
  by_cases g4 : tg < 1
  · go_enter Tryz.func35, Tryz.ntmps35
    go_wp2_with fail
    go_ret
    exact ⟨by rw [HP.out, decide_eq_false (p := roles < 0) (by omega), decide_eq_false (p := 63 < roles) (by omega), decide_eq_false (p := ad < 1) (by omega), decide_eq_false (p := roles < ad) (by omega), decide_eq_true g4]; rfl, by rw [hW1] at hB; exact hB⟩
  by_cases g5 : roles < tg
  · go_enter Tryz.func35, Tryz.ntmps35
    go_wp2_with fail
    go_ret
    exact ⟨by rw [HP.out, decide_eq_false (p := roles < 0) (by omega), decide_eq_false (p := 63 < roles) (by omega), decide_eq_false (p := ad < 1) (by omega), decide_eq_false (p := roles < ad) (by omega), decide_eq_false (p := tg < 1) (by omega), decide_eq_true g5]; rfl, by rw [hW1] at hB; exact hB⟩
  have HP2 : Hid (res = (if (List.range 64).any (badX t roles) then 4
    else if !A1 || (A2 || !decide (q = 0)) then 10
    else if !decide (p = 0) || (rv && (!decide (t = 0) || !decide (lg = 0))) then 6
    else if decide (lg < 0) || decide (30000 < lg) then 2 else 0)) := by
    show _ = _
    rw [HP.out, decide_eq_false (p := roles < 0) (by omega), decide_eq_false (p := 63 < roles) (by omega), decide_eq_false (p := ad < 1) (by omega), decide_eq_false (p := roles < ad) (by omega), decide_eq_false (p := tg < 1) (by omega), decide_eq_false (p := roles < tg) (by omega)]; rfl
  clear HP
  have HG := Lib.hid g1
  go_enter Tryz.func35, Tryz.ntmps35
  go_wp2_with fail
  rw [← hW1]
  clear hW1
  clear d0 d1 d2 d3 d4 d5 d6 hB hk
  go_loopw [7] (fun v wr => ∃ j : Nat, j ≤ 64 ∧ v = .int .i64 j ∧ (List.range j).any (badX t roles) = false ∧ Below W1.heap.size W1 wr) (fun v _ => 64 - (intOf v).toNat)
  case atStart => exact ⟨0, by omega, rfl, rfl, Below.refl _ _⟩
  case round =>
    obtain ⟨j, hj, rfl, hany, hk⟩ := hrel
    obtain ⟨⟨d0, d1, d2, d3, d4, d5, d6⟩, hB⟩ := HQ.out _ hk
    have HAN := Lib.hid hany
    clear hany
    by_cases hj6 : j < 64
    · have hj7 : (j : Int) < 64 := by omega
      have HJ := Lib.hid (HIT.out (j : Int))
      have HBX : Hid (badX t roles j = (inM t (j : Int) && (decide ((j : Int) < 1) || decide (roles < (j : Int))))) := rfl
      generalize inM t (j : Int) = B at *
      cases B
      · go_wp2_with (go_at_call 78; refine (HJ.out _).mono ?_; rintro en wn ⟨rfl, hbn⟩; have hk := hk.trans (hbn.mono hk.size))
        go_roundw
        case rel => exact ⟨j + 1, by omega, by go_num, any_step HAN.out (by rw [HBX.out]; rfl), hk⟩
        case measure => simp [intOf]; omega
      · by_cases h1 : (j : Int) < 1
        · go_wp2_with (go_at_call 78; refine (HJ.out _).mono ?_; rintro en wn ⟨rfl, hbn⟩; have hk := hk.trans (hbn.mono hk.size); obtain ⟨⟨d0, d1, d2, d3, d4, d5, d6⟩, hB⟩ := HQ.out _ hk)
          go_ret
          exact ⟨by rw [HP2.out, any_at hj6 (by rw [HBX.out, decide_eq_true h1]; rfl)]; rfl, hB⟩
        · by_cases h2 : roles < (j : Int)
          · go_wp2_with (go_at_call 78; refine (HJ.out _).mono ?_; rintro en wn ⟨rfl, hbn⟩; have hk := hk.trans (hbn.mono hk.size); obtain ⟨⟨d0, d1, d2, d3, d4, d5, d6⟩, hB⟩ := HQ.out _ hk)
            go_ret
            exact ⟨by rw [HP2.out, any_at hj6 (by rw [HBX.out, decide_eq_true h2]; simp)]; rfl, hB⟩
          · go_wp2_with (go_at_call 78; refine (HJ.out _).mono ?_; rintro en wn ⟨rfl, hbn⟩; have hk := hk.trans (hbn.mono hk.size))
            go_roundw
            case rel => exact ⟨j + 1, by omega, by go_num, any_step HAN.out (by rw [HBX.out, decide_eq_false (p := (j : Int) < 1) (by omega), decide_eq_false (p := roles < (j : Int)) (by omega)]; rfl), hk⟩
            case measure => simp [intOf]; omega
    · obtain rfl : j = 64 := by omega
      have HP3 : Hid (res = (if !A1 || (A2 || !decide (q = 0)) then 10
        else if !decide (p = 0) || (rv && (!decide (t = 0) || !decide (lg = 0))) then 6
        else if decide (lg < 0) || decide (30000 < lg) then 2 else 0)) := by
        show _ = _
        rw [HP2.out, HAN.out]; rfl
      clear HP2 HAN hj HIT
      cases A1
      · go_wp2_with (first | (go_at_call 78; (with_reducible refine (HA1.out _).mono ?_); rintro en wn ⟨rfl, hbn⟩; have hk := hk.trans (hbn.mono hk.size); obtain ⟨⟨d0, d1, d2, d3, d4, d5, d6⟩, hB⟩ := HQ.out _ hk) | (go_at_call 78; (with_reducible refine (HA2.out _).mono ?_); rintro en wn ⟨rfl, hbn⟩; have hk := hk.trans (hbn.mono hk.size); obtain ⟨⟨d0, d1, d2, d3, d4, d5, d6⟩, hB⟩ := HQ.out _ hk))
        go_ret
        exact ⟨by rw [HP3.out]; rfl, hB⟩
      · cases A2
        · by_cases q0 : q = 0
          · subst q0
            by_cases p0 : p = 0
            · subst p0
              cases rv
              · by_cases r1 : lg < 0
                · go_wp2_with (first | (go_at_call 78; (with_reducible refine (HA1.out _).mono ?_); rintro en wn ⟨rfl, hbn⟩; have hk := hk.trans (hbn.mono hk.size); obtain ⟨⟨d0, d1, d2, d3, d4, d5, d6⟩, hB⟩ := HQ.out _ hk) | (go_at_call 78; (with_reducible refine (HA2.out _).mono ?_); rintro en wn ⟨rfl, hbn⟩; have hk := hk.trans (hbn.mono hk.size); obtain ⟨⟨d0, d1, d2, d3, d4, d5, d6⟩, hB⟩ := HQ.out _ hk))
                  all_goals (try (exfalso; omega))
                  go_ret
                  exact ⟨by rw [HP3.out, decide_eq_true r1]; rfl, hB⟩
                · by_cases r2 : 30000 < lg
                  · go_wp2_with (first | (go_at_call 78; (with_reducible refine (HA1.out _).mono ?_); rintro en wn ⟨rfl, hbn⟩; have hk := hk.trans (hbn.mono hk.size); obtain ⟨⟨d0, d1, d2, d3, d4, d5, d6⟩, hB⟩ := HQ.out _ hk) | (go_at_call 78; (with_reducible refine (HA2.out _).mono ?_); rintro en wn ⟨rfl, hbn⟩; have hk := hk.trans (hbn.mono hk.size); obtain ⟨⟨d0, d1, d2, d3, d4, d5, d6⟩, hB⟩ := HQ.out _ hk))
                    all_goals (try (exfalso; omega))
                    go_ret
                    exact ⟨by rw [HP3.out, decide_eq_false (p := lg < 0) (by omega), decide_eq_true r2]; rfl, hB⟩
                  · go_wp2_with (first | (go_at_call 78; (with_reducible refine (HA1.out _).mono ?_); rintro en wn ⟨rfl, hbn⟩; have hk := hk.trans (hbn.mono hk.size); obtain ⟨⟨d0, d1, d2, d3, d4, d5, d6⟩, hB⟩ := HQ.out _ hk) | (go_at_call 78; (with_reducible refine (HA2.out _).mono ?_); rintro en wn ⟨rfl, hbn⟩; have hk := hk.trans (hbn.mono hk.size); obtain ⟨⟨d0, d1, d2, d3, d4, d5, d6⟩, hB⟩ := HQ.out _ hk))
                    all_goals (try (exfalso; omega))
                    go_ret
                    exact ⟨by rw [HP3.out, decide_eq_false (p := lg < 0) (by omega), decide_eq_false (p := 30000 < lg) (by omega)]; rfl, hB⟩
              · by_cases t0 : t = 0
                · subst t0
                  have htm2 : bits .and .u64 0 ((adm : Nat) : Int) = 0 := htm
                  by_cases l0 : lg = 0
                  · subst l0
                    go_wp2_with (first | (go_at_call 78; (with_reducible refine (HA1.out _).mono ?_); rintro en wn ⟨rfl, hbn⟩; have hk := hk.trans (hbn.mono hk.size); obtain ⟨⟨d0, d1, d2, d3, d4, d5, d6⟩, hB⟩ := HQ.out _ hk) | (go_at_call 78; (with_reducible refine (HA2.out _).mono ?_); rintro en wn ⟨rfl, hbn⟩; have hk := hk.trans (hbn.mono hk.size); obtain ⟨⟨d0, d1, d2, d3, d4, d5, d6⟩, hB⟩ := HQ.out _ hk))
                    go_ret
                    exact ⟨by rw [show res = 0 by rw [HP3.out]; simp] <;> rfl, hB⟩
                  · go_wp2_with (first | (go_at_call 78; (with_reducible refine (HA1.out _).mono ?_); rintro en wn ⟨rfl, hbn⟩; have hk := hk.trans (hbn.mono hk.size); obtain ⟨⟨d0, d1, d2, d3, d4, d5, d6⟩, hB⟩ := HQ.out _ hk) | (go_at_call 78; (with_reducible refine (HA2.out _).mono ?_); rintro en wn ⟨rfl, hbn⟩; have hk := hk.trans (hbn.mono hk.size); obtain ⟨⟨d0, d1, d2, d3, d4, d5, d6⟩, hB⟩ := HQ.out _ hk))
                    all_goals (try (exfalso; omega))
                    go_ret
                    exact ⟨by rw [HP3.out, decide_eq_false (p := lg = 0) (by omega)]; rfl, hB⟩
                · have t0i : ¬ ((t : Nat) : Int) = 0 := by omega
                  go_wp2_with (first | (go_at_call 78; (with_reducible refine (HA1.out _).mono ?_); rintro en wn ⟨rfl, hbn⟩; have hk := hk.trans (hbn.mono hk.size); obtain ⟨⟨d0, d1, d2, d3, d4, d5, d6⟩, hB⟩ := HQ.out _ hk) | (go_at_call 78; (with_reducible refine (HA2.out _).mono ?_); rintro en wn ⟨rfl, hbn⟩; have hk := hk.trans (hbn.mono hk.size); obtain ⟨⟨d0, d1, d2, d3, d4, d5, d6⟩, hB⟩ := HQ.out _ hk))
                  go_ret
                  exact ⟨by rw [HP3.out, decide_eq_false (p := t = 0) (by omega)]; rfl, hB⟩
            · have p0i : ¬ ((p : Nat) : Int) = 0 := by omega
              go_wp2_with (first | (go_at_call 78; (with_reducible refine (HA1.out _).mono ?_); rintro en wn ⟨rfl, hbn⟩; have hk := hk.trans (hbn.mono hk.size); obtain ⟨⟨d0, d1, d2, d3, d4, d5, d6⟩, hB⟩ := HQ.out _ hk) | (go_at_call 78; (with_reducible refine (HA2.out _).mono ?_); rintro en wn ⟨rfl, hbn⟩; have hk := hk.trans (hbn.mono hk.size); obtain ⟨⟨d0, d1, d2, d3, d4, d5, d6⟩, hB⟩ := HQ.out _ hk))
              go_ret
              exact ⟨by rw [HP3.out, decide_eq_false (p := p = 0) (by omega)]; rfl, hB⟩
          · have q0i : ¬ ((q : Nat) : Int) = 0 := by omega
            go_wp2_with (first | (go_at_call 78; (with_reducible refine (HA1.out _).mono ?_); rintro en wn ⟨rfl, hbn⟩; have hk := hk.trans (hbn.mono hk.size); obtain ⟨⟨d0, d1, d2, d3, d4, d5, d6⟩, hB⟩ := HQ.out _ hk) | (go_at_call 78; (with_reducible refine (HA2.out _).mono ?_); rintro en wn ⟨rfl, hbn⟩; have hk := hk.trans (hbn.mono hk.size); obtain ⟨⟨d0, d1, d2, d3, d4, d5, d6⟩, hB⟩ := HQ.out _ hk))
            go_ret
            exact ⟨by rw [HP3.out, decide_eq_false (p := q = 0) (by omega)]; rfl, hB⟩
        · go_wp2_with (first | (go_at_call 78; (with_reducible refine (HA1.out _).mono ?_); rintro en wn ⟨rfl, hbn⟩; have hk := hk.trans (hbn.mono hk.size); obtain ⟨⟨d0, d1, d2, d3, d4, d5, d6⟩, hB⟩ := HQ.out _ hk) | (go_at_call 78; (with_reducible refine (HA2.out _).mono ?_); rintro en wn ⟨rfl, hbn⟩; have hk := hk.trans (hbn.mono hk.size); obtain ⟨⟨d0, d1, d2, d3, d4, d5, d6⟩, hB⟩ := HQ.out _ hk))
          go_ret
          exact ⟨by rw [HP3.out]; rfl, hB⟩
end Go.Proofs.YtfjpbkmnlmecgaaGreatDoor.Ru
end

section
/- rule.Equal. -/
namespace Go.Proofs.YtfjpbkmnlmecgaaGreatDoor.Ru
open Go.RowKit Go.PlainAid Go.Maps Go.Shelf Go.Proofs.YtfjpbkmnlmecgaaGreatDoor Go.Proofs.YtfjpbkmnlmecgaaGreatDoor.Bz
set_option linter.unusedVariables false
set_option linter.unusedSimpArgs false
set_option maxHeartbeats 4000000
set_option maxRecDepth 20000

theorem box77 {w wr : World} {v0 v1 v2 v3 v4 v5 v6 u0 u1 u2 u3 u4 u5 u6 : Value} {T : TypeId} (h : Below (w.heap.size + 2) ((w.alloc (.cells #[v0, v1, v2, v3, v4, v5, v6] T)).alloc (.cells #[u0, u1, u2, u3, u4, u5, u6] T)) wr) :
    (wr.cell? ⟨w.heap.size, 0, none⟩ = some v0 ∧ wr.cell? ⟨w.heap.size, 1, none⟩ = some v1 ∧ wr.cell? ⟨w.heap.size, 2, none⟩ = some v2 ∧ wr.cell? ⟨w.heap.size, 3, none⟩ = some v3 ∧ wr.cell? ⟨w.heap.size, 4, none⟩ = some v4 ∧ wr.cell? ⟨w.heap.size, 5, none⟩ = some v5 ∧ wr.cell? ⟨w.heap.size, 6, none⟩ = some v6) ∧ (wr.cell? ⟨w.heap.size + 1, 0, none⟩ = some u0 ∧ wr.cell? ⟨w.heap.size + 1, 1, none⟩ = some u1 ∧ wr.cell? ⟨w.heap.size + 1, 2, none⟩ = some u2 ∧ wr.cell? ⟨w.heap.size + 1, 3, none⟩ = some u3 ∧ wr.cell? ⟨w.heap.size + 1, 4, none⟩ = some u4 ∧ wr.cell? ⟨w.heap.size + 1, 5, none⟩ = some u5 ∧ wr.cell? ⟨w.heap.size + 1, 6, none⟩ = some u6) ∧ Below w.heap.size w wr := by
  have h1 : Below (w.heap.size + 1) (w.alloc (.cells #[v0, v1, v2, v3, v4, v5, v6] T)) wr := ((Below.refl _ _).alloc (by simp) _).trans (h.mono (by omega))
  obtain ⟨hc, hb⟩ := box7 (Nat.le_refl _) h1
  have hz : ((w.alloc (.cells #[v0, v1, v2, v3, v4, v5, v6] T)).alloc (.cells #[u0, u1, u2, u3, u4, u5, u6] T)).heap[w.heap.size + 1]? = some (.cells #[u0, u1, u2, u3, u4, u5, u6] T (0, 0)) := by
    have := heap_alloc_new (w.alloc (.cells #[v0, v1, v2, v3, v4, v5, v6] T)) (.cells #[u0, u1, u2, u3, u4, u5, u6] T)
    rwa [World.size_alloc] at this
  exact ⟨hc, (cell7 ((h.block (w.heap.size + 1) (by omega)).trans hz)).1, hb⟩
theorem eqr_any {N M : Nat} (h g : Hr) (r s : Rl) (w : World) (hr : Rw N w h r) (hs : Rw M w g s) :
    Calls Tryz.prog 37 #[.agg (hrL h).toArray, .agg (hrL g).toArray] w (BoolPost w (eqRl r s)) := by
  obtain ⟨rv, ad, tg, p1, q1, z1, p2, q2, z2, p3, q3, z3, lg⟩ := h
  obtain ⟨rv', ad', tg', p1', q1', z1', p2', q2', z2', p3', q3', z3', lg'⟩ := g
  obtain ⟨h0, h1, h2, h3, h4, h5, h6, h7⟩ := hr
  obtain ⟨k0, k1, k2, k3, k4, k5, k6, k7⟩ := hs
  dsimp only at h0 h1 h2 h3 h4 h5 h6 k0 k1 k2 k3 k4 k5 k6
  dsimp only [hrL]
  obtain ⟨W2, hW2⟩ : ∃ W2, W2 = (w.alloc (.cells #[.bool rv, .int .i64 ad, .int .i64 tg, .slice p1 q1 z1, .slice p2 q2 z2, .slice p3 q3 z3, .int .i64 lg] 46)).alloc (.cells #[.bool rv', .int .i64 ad', .int .i64 tg', .slice p1' q1' z1', .slice p2' q2' z2', .slice p3' q3' z3', .int .i64 lg'] 46) := ⟨_, rfl⟩
  have HQ : Hid (∀ w', Below W2.heap.size W2 w' → (w'.cell? ⟨w.heap.size, 0, none⟩ = some (.bool rv) ∧ w'.cell? ⟨w.heap.size, 1, none⟩ = some (.int .i64 ad) ∧ w'.cell? ⟨w.heap.size, 2, none⟩ = some (.int .i64 tg) ∧ w'.cell? ⟨w.heap.size, 3, none⟩ = some (.slice p1 q1 z1) ∧ w'.cell? ⟨w.heap.size, 4, none⟩ = some (.slice p2 q2 z2) ∧ w'.cell? ⟨w.heap.size, 5, none⟩ = some (.slice p3 q3 z3) ∧ w'.cell? ⟨w.heap.size, 6, none⟩ = some (.int .i64 lg)) ∧ (w'.cell? ⟨w.heap.size + 1, 0, none⟩ = some (.bool rv') ∧ w'.cell? ⟨w.heap.size + 1, 1, none⟩ = some (.int .i64 ad') ∧ w'.cell? ⟨w.heap.size + 1, 2, none⟩ = some (.int .i64 tg') ∧ w'.cell? ⟨w.heap.size + 1, 3, none⟩ = some (.slice p1' q1' z1') ∧ w'.cell? ⟨w.heap.size + 1, 4, none⟩ = some (.slice p2' q2' z2') ∧ w'.cell? ⟨w.heap.size + 1, 5, none⟩ = some (.slice p3' q3' z3') ∧ w'.cell? ⟨w.heap.size + 1, 6, none⟩ = some (.int .i64 lg')) ∧ Below w.heap.size w w') := fun w' hb => by
    rw [hW2] at hb
    exact box77 (hb.mono (by simp))
  have HC := Lib.hid (fun w' (hb : Below w.heap.size w w') => equalC_any p1 p2 p1' p2' q1 z1 q2 z2 q1' z1' q2' z2' (r.yes, r.no) (s.yes, s.no) w' ⟨h3.1.below hb, h4.1.below hb⟩ ⟨k3.1.below hb, k4.1.below hb⟩)
  have HD := Lib.hid (fun w' (hb : Below w.heap.size w w') => Dy.setEqual_any p3 p3' q3 q3' z3 z3' r.days s.days w' (h5.1.below hb (Nat.le_refl _)) (k5.1.below hb (Nat.le_refl _)))
  have HP : Hid (eqRl r s = (decide (rv = rv') && (decide (ad = ad') && (decide (tg = tg') && (decide ((r.yes, r.no) = (s.yes, s.no)) && (decide (r.days = s.days) && decide (lg = lg'))))))) := by
    show _ = _
    unfold eqRl; rw [h0, h1, h2, h6, k0, k1, k2, k6]
  clear h0 h1 h2 h3 h4 h5 h6 h7 k0 k1 k2 k3 k4 k5 k6 k7
  generalize eqRl r s = res at *
  generalize hC : decide ((r.yes, r.no) = (s.yes, s.no)) = C at *
  generalize hD : decide (r.days = s.days) = D at *
  clear hC hD
  have hk := Below.refl W2.heap.size W2
  obtain ⟨⟨d0, d1, d2, d3, d4, d5, d6⟩, ⟨e0, e1, e2, e3, e4, e5, e6⟩, hB⟩ := HQ.out _ hk
  by_cases v0 : rv = rv'
  · subst v0
    have HP2 : Hid (res = (decide (ad = ad') && (decide (tg = tg') && (C && (D && decide (lg = lg')))))) := by show _ = _; rw [HP.out, decide_eq_true (Eq.refl rv)]; rfl
    clear HP
    have HP := HP2
    clear HP2
    by_cases a0 : ad = ad'
    · subst a0
      by_cases t0 : tg = tg'
      · subst t0
        cases C
        · go_enter Tryz.func37, Tryz.ntmps37
          subst hW2
          go_wp2_with (first | (go_at_call 86; refine (HC.out _ hB).mono ?_; rintro en wn ⟨rfl, hbn⟩; have hk := hk.trans (hbn.mono hk.size); obtain ⟨⟨d0, d1, d2, d3, d4, d5, d6⟩, ⟨e0, e1, e2, e3, e4, e5, e6⟩, hB⟩ := HQ.out _ hk) | (go_at_call 87; refine (HD.out _ hB).mono ?_; rintro en wn ⟨rfl, hbn⟩; have hk := hk.trans (hbn.mono hk.size); obtain ⟨⟨d0, d1, d2, d3, d4, d5, d6⟩, ⟨e0, e1, e2, e3, e4, e5, e6⟩, hB⟩ := HQ.out _ hk))
          go_ret
          exact ⟨by rw [show res = false by rw [HP.out]; simp []] <;> rfl, hB⟩
        · cases D
          · go_enter Tryz.func37, Tryz.ntmps37
            subst hW2
            go_wp2_with (first | (go_at_call 86; refine (HC.out _ hB).mono ?_; rintro en wn ⟨rfl, hbn⟩; have hk := hk.trans (hbn.mono hk.size); obtain ⟨⟨d0, d1, d2, d3, d4, d5, d6⟩, ⟨e0, e1, e2, e3, e4, e5, e6⟩, hB⟩ := HQ.out _ hk) | (go_at_call 87; refine (HD.out _ hB).mono ?_; rintro en wn ⟨rfl, hbn⟩; have hk := hk.trans (hbn.mono hk.size); obtain ⟨⟨d0, d1, d2, d3, d4, d5, d6⟩, ⟨e0, e1, e2, e3, e4, e5, e6⟩, hB⟩ := HQ.out _ hk))
            go_ret
            exact ⟨by rw [show res = false by rw [HP.out]; simp []] <;> rfl, hB⟩
          · by_cases l0 : lg = lg'
            · subst l0
              go_enter Tryz.func37, Tryz.ntmps37
              subst hW2
              go_wp2_with (first | (go_at_call 86; refine (HC.out _ hB).mono ?_; rintro en wn ⟨rfl, hbn⟩; have hk := hk.trans (hbn.mono hk.size); obtain ⟨⟨d0, d1, d2, d3, d4, d5, d6⟩, ⟨e0, e1, e2, e3, e4, e5, e6⟩, hB⟩ := HQ.out _ hk) | (go_at_call 87; refine (HD.out _ hB).mono ?_; rintro en wn ⟨rfl, hbn⟩; have hk := hk.trans (hbn.mono hk.size); obtain ⟨⟨d0, d1, d2, d3, d4, d5, d6⟩, ⟨e0, e1, e2, e3, e4, e5, e6⟩, hB⟩ := HQ.out _ hk))
              go_ret
              exact ⟨by rw [show res = true by rw [HP.out]; simp []] <;> rfl, hB⟩
            · have lb : (lg == lg') = false := beq_eq_false_iff_ne.2 l0
              go_enter Tryz.func37, Tryz.ntmps37
              subst hW2
              go_wp2_with (first | (go_at_call 86; refine (HC.out _ hB).mono ?_; rintro en wn ⟨rfl, hbn⟩; have hk := hk.trans (hbn.mono hk.size); obtain ⟨⟨d0, d1, d2, d3, d4, d5, d6⟩, ⟨e0, e1, e2, e3, e4, e5, e6⟩, hB⟩ := HQ.out _ hk) | (go_at_call 87; refine (HD.out _ hB).mono ?_; rintro en wn ⟨rfl, hbn⟩; have hk := hk.trans (hbn.mono hk.size); obtain ⟨⟨d0, d1, d2, d3, d4, d5, d6⟩, ⟨e0, e1, e2, e3, e4, e5, e6⟩, hB⟩ := HQ.out _ hk))
              go_ret
              exact ⟨by rw [show res = false by rw [HP.out]; simp [l0]] <;> rfl, hB⟩
      · go_enter Tryz.func37, Tryz.ntmps37
        subst hW2
        go_wp2_with (first | (go_at_call 86; refine (HC.out _ hB).mono ?_; rintro en wn ⟨rfl, hbn⟩; have hk := hk.trans (hbn.mono hk.size); obtain ⟨⟨d0, d1, d2, d3, d4, d5, d6⟩, ⟨e0, e1, e2, e3, e4, e5, e6⟩, hB⟩ := HQ.out _ hk) | (go_at_call 87; refine (HD.out _ hB).mono ?_; rintro en wn ⟨rfl, hbn⟩; have hk := hk.trans (hbn.mono hk.size); obtain ⟨⟨d0, d1, d2, d3, d4, d5, d6⟩, ⟨e0, e1, e2, e3, e4, e5, e6⟩, hB⟩ := HQ.out _ hk))
        go_ret
        exact ⟨by rw [show res = false by rw [HP.out]; simp [t0]] <;> rfl, hB⟩
    · go_enter Tryz.func37, Tryz.ntmps37
      subst hW2
      go_wp2_with (first | (go_at_call 86; refine (HC.out _ hB).mono ?_; rintro en wn ⟨rfl, hbn⟩; have hk := hk.trans (hbn.mono hk.size); obtain ⟨⟨d0, d1, d2, d3, d4, d5, d6⟩, ⟨e0, e1, e2, e3, e4, e5, e6⟩, hB⟩ := HQ.out _ hk) | (go_at_call 87; refine (HD.out _ hB).mono ?_; rintro en wn ⟨rfl, hbn⟩; have hk := hk.trans (hbn.mono hk.size); obtain ⟨⟨d0, d1, d2, d3, d4, d5, d6⟩, ⟨e0, e1, e2, e3, e4, e5, e6⟩, hB⟩ := HQ.out _ hk))
      go_ret
      exact ⟨by rw [show res = false by rw [HP.out]; simp [a0]] <;> rfl, hB⟩
  · cases rv
    · cases rv'
      · exact absurd rfl v0
      · go_enter Tryz.func37, Tryz.ntmps37
        subst hW2
        go_wp2_with (first | (go_at_call 86; refine (HC.out _ hB).mono ?_; rintro en wn ⟨rfl, hbn⟩; have hk := hk.trans (hbn.mono hk.size); obtain ⟨⟨d0, d1, d2, d3, d4, d5, d6⟩, ⟨e0, e1, e2, e3, e4, e5, e6⟩, hB⟩ := HQ.out _ hk) | (go_at_call 87; refine (HD.out _ hB).mono ?_; rintro en wn ⟨rfl, hbn⟩; have hk := hk.trans (hbn.mono hk.size); obtain ⟨⟨d0, d1, d2, d3, d4, d5, d6⟩, ⟨e0, e1, e2, e3, e4, e5, e6⟩, hB⟩ := HQ.out _ hk))
        go_ret
        exact ⟨by rw [show res = false by rw [HP.out]; simp []] <;> rfl, hB⟩
    · cases rv'
      · go_enter Tryz.func37, Tryz.ntmps37
        subst hW2
        go_wp2_with (first | (go_at_call 86; refine (HC.out _ hB).mono ?_; rintro en wn ⟨rfl, hbn⟩; have hk := hk.trans (hbn.mono hk.size); obtain ⟨⟨d0, d1, d2, d3, d4, d5, d6⟩, ⟨e0, e1, e2, e3, e4, e5, e6⟩, hB⟩ := HQ.out _ hk) | (go_at_call 87; refine (HD.out _ hB).mono ?_; rintro en wn ⟨rfl, hbn⟩; have hk := hk.trans (hbn.mono hk.size); obtain ⟨⟨d0, d1, d2, d3, d4, d5, d6⟩, ⟨e0, e1, e2, e3, e4, e5, e6⟩, hB⟩ := HQ.out _ hk))
        go_ret
        exact ⟨by rw [show res = false by rw [HP.out]; simp []] <;> rfl, hB⟩
      · exact absurd rfl v0
end Go.Proofs.YtfjpbkmnlmecgaaGreatDoor.Ru
end

section
/- The reference's Same. -/
namespace Go.Proofs.YtfjpbkmnlmecgaaGreatDoor.Ru
open Go.RowKit Go.PlainAid Go.Maps Go.Shelf Go.Proofs.YtfjpbkmnlmecgaaGreatDoor Go.Proofs.YtfjpbkmnlmecgaaGreatDoor.Bz
set_option linter.unusedVariables false
set_option linter.unusedSimpArgs false
set_option maxHeartbeats 4000000
set_option maxRecDepth 20000

theorem eqI2 (a b c d : Int) (w : World) : (Op.equalIn 10000 80 (.agg #[.int .i64 a, .int .i64 b]) (.agg #[.int .i64 c, .int .i64 d])).run Tryz.prog w = .ok (a == c && b == d) w := by
  have u3 := Tryz.underlying3
  have a3 := Tryz.isAgg3
  have z3 := Tryz.sizeOf3
  rw [show (10000 : Nat) = 9999 + 1 from rfl, Op.equalIn]
  simp only [Sem.run_bind, run_underlying Tryz.underlying80, Result.andThen_ok]
  simp only [Std.Legacy.Range.forIn_eq_forIn_range', Std.Legacy.Range.size, Nat.sub_zero, Nat.add_sub_cancel, Nat.div_one, List.range'_succ, List.range'_zero, List.forIn_cons, List.forIn_nil]
  go_simp
  by_cases h1 : a = c <;> by_cases h2 : b = d <;> simp [h1, h2]
theorem take_step {l l' : List (Int × Int)} {j : Nat} {p : Int × Int} (h : l.take j = l'.take j) (h1 : l[j]? = some p) (h2 : l'[j]? = some p) : l.take (j + 1) = l'.take (j + 1) := by
  rw [List.take_add_one, List.take_add_one, h, h1, h2]
theorem ne_at {l l' : List (Int × Int)} {j : Nat} {p q : Int × Int} (h1 : l[j]? = some p) (h2 : l'[j]? = some q) (h : p ≠ q) : decide (l = l') = false := by
  rw [decide_eq_false_iff_not]
  rintro rfl
  rw [h1] at h2
  exact h (Option.some.inj h2)
theorem rsame_any (rv : Bool) (ad tg lg : Int) (y z : Nat) (a : Option Addr) (n c : Nat) (l : List (Int × Int)) (rv' : Bool) (ad' tg' lg' : Int) (y' z' : Nat) (a' : Option Addr) (n' c' : Nat) (l' : List (Int × Int)) (w : World) (hd : Dy.Ds w a n c l) (hd' : Dy.Ds w a' n' c' l') :
    Calls Tryz.prog 38 #[.agg #[.bool rv, .int .i64 ad, .int .i64 tg, .int .u64 (y : Nat), .int .u64 (z : Nat), .slice a n c, .int .i64 lg], .agg #[.bool rv', .int .i64 ad', .int .i64 tg', .int .u64 (y' : Nat), .int .u64 (z' : Nat), .slice a' n' c', .int .i64 lg']] w (BoolPost w (sameF ⟨rv, ad, tg, y, z, l, lg⟩ ⟨rv', ad', tg', y', z', l', lg'⟩)) := by
  have HP : Hid (sameF ⟨rv, ad, tg, y, z, l, lg⟩ ⟨rv', ad', tg', y', z', l', lg'⟩ = (decide (rv = rv') && (decide (ad = ad') && (decide (tg = tg') && (decide (y = y') && (decide (z = z') && (decide (lg = lg') && decide (l = l')))))))) := rfl
  generalize sameF ⟨rv, ad, tg, y, z, l, lg⟩ ⟨rv', ad', tg', y', z', l', lg'⟩ = res at *
  have HLL : Hid (l.length = n ∧ l'.length = n') := ⟨hd.1, hd'.1⟩
  have hcap := hd.2.1
  have hmx := hd.2.2.1
  have hcap' := hd'.2.1
  have hmx' := hd'.2.2.1
  unfold maxLen at hmx hmx'
  have H4 := Lib.hid hd.2.2.2
  have H4' := Lib.hid hd'.2.2.2
  clear hd hd'
  obtain ⟨W2, hW2⟩ : ∃ W2, W2 = (w.alloc (.cells #[.bool rv, .int .i64 ad, .int .i64 tg, .int .u64 (y : Nat), .int .u64 (z : Nat), .slice a n c, .int .i64 lg] 35)).alloc (.cells #[.bool rv', .int .i64 ad', .int .i64 tg', .int .u64 (y' : Nat), .int .u64 (z' : Nat), .slice a' n' c', .int .i64 lg'] 35) := ⟨_, rfl⟩
  have HQ : Hid (∀ w', Below W2.heap.size W2 w' → (w'.cell? ⟨w.heap.size, 0, none⟩ = some (.bool rv) ∧ w'.cell? ⟨w.heap.size, 1, none⟩ = some (.int .i64 ad) ∧ w'.cell? ⟨w.heap.size, 2, none⟩ = some (.int .i64 tg) ∧ w'.cell? ⟨w.heap.size, 3, none⟩ = some (.int .u64 (y : Nat)) ∧ w'.cell? ⟨w.heap.size, 4, none⟩ = some (.int .u64 (z : Nat)) ∧ w'.cell? ⟨w.heap.size, 5, none⟩ = some (.slice a n c) ∧ w'.cell? ⟨w.heap.size, 6, none⟩ = some (.int .i64 lg)) ∧ (w'.cell? ⟨w.heap.size + 1, 0, none⟩ = some (.bool rv') ∧ w'.cell? ⟨w.heap.size + 1, 1, none⟩ = some (.int .i64 ad') ∧ w'.cell? ⟨w.heap.size + 1, 2, none⟩ = some (.int .i64 tg') ∧ w'.cell? ⟨w.heap.size + 1, 3, none⟩ = some (.int .u64 (y' : Nat)) ∧ w'.cell? ⟨w.heap.size + 1, 4, none⟩ = some (.int .u64 (z' : Nat)) ∧ w'.cell? ⟨w.heap.size + 1, 5, none⟩ = some (.slice a' n' c') ∧ w'.cell? ⟨w.heap.size + 1, 6, none⟩ = some (.int .i64 lg')) ∧ Below w.heap.size w w') := fun w' hb => by
    rw [hW2] at hb
    exact box77 (hb.mono (by simp))
  have hz2 : W2.heap.size = w.heap.size + 2 := by rw [hW2]; simp
  have hk := Below.refl W2.heap.size W2
  obtain ⟨⟨d0, d1, d2, d3, d4, d5, d6⟩, ⟨e0, e1, e2, e3, e4, e5, e6⟩, hB⟩ := HQ.out _ hk
  by_cases v0 : rv = rv'
  rotate_left
  · cases rv
    · cases rv'
      · exact absurd rfl v0
      · clear H4 H4'
        subst hW2
        go_enter Tryz.func38, Tryz.ntmps38
        go_wp2_with fail
        go_ret
        exact ⟨by rw [show res = false by rw [HP.out]; simp []] <;> rfl, hB⟩
    · cases rv'
      · clear H4 H4'
        subst hW2
        go_enter Tryz.func38, Tryz.ntmps38
        go_wp2_with fail
        go_ret
        exact ⟨by rw [show res = false by rw [HP.out]; simp []] <;> rfl, hB⟩
      · exact absurd rfl v0
  subst v0
  by_cases a0 : ad = ad'
  rotate_left
  · clear H4 H4'
    subst hW2
    go_enter Tryz.func38, Tryz.ntmps38
    go_wp2_with fail
    go_ret
    exact ⟨by rw [show res = false by rw [HP.out]; simp [a0]] <;> rfl, hB⟩
  subst a0
  by_cases t0 : tg = tg'
  rotate_left
  · clear H4 H4'
    subst hW2
    go_enter Tryz.func38, Tryz.ntmps38
    go_wp2_with fail
    go_ret
    exact ⟨by rw [show res = false by rw [HP.out]; simp [t0]] <;> rfl, hB⟩
  subst t0
  by_cases y0 : y = y'
  rotate_left
  · have y0n : ¬ ((y : Nat) : Int) = ((y' : Nat) : Int) := by omega
    clear H4 H4'
    subst hW2
    go_enter Tryz.func38, Tryz.ntmps38
    go_wp2_with fail
    go_ret
    exact ⟨by rw [show res = false by rw [HP.out]; simp [y0]] <;> rfl, hB⟩
  subst y0
  by_cases z0 : z = z'
  rotate_left
  · have z0n : ¬ ((z : Nat) : Int) = ((z' : Nat) : Int) := by omega
    clear H4 H4'
    subst hW2
    go_enter Tryz.func38, Tryz.ntmps38
    go_wp2_with fail
    go_ret
    exact ⟨by rw [show res = false by rw [HP.out]; simp [z0]] <;> rfl, hB⟩
  subst z0
  by_cases l0 : lg = lg'
  rotate_left
  · clear H4 H4'
    subst hW2
    go_enter Tryz.func38, Tryz.ntmps38
    go_wp2_with fail
    go_ret
    exact ⟨by rw [show res = false by rw [HP.out]; simp [l0]] <;> rfl, hB⟩
  subst l0
  by_cases n0 : n = n'
  rotate_left
  · have n0n : ¬ ((n : Nat) : Int) = ((n' : Nat) : Int) := by omega
    have n1 : ¬ l = l' := fun h => n0 (by rw [← HLL.out.1, ← HLL.out.2, h])
    clear H4 H4'
    subst hW2
    go_enter Tryz.func38, Tryz.ntmps38
    go_wp2_with fail
    go_ret
    exact ⟨by rw [show res = false by rw [HP.out]; simp [n1]] <;> rfl, hB⟩
  subst n0
  have HP2 : Hid (res = decide (l = l')) := by show _ = _; rw [HP.out]; simp
  clear HP
  go_enter Tryz.func38, Tryz.ntmps38
  go_wp2_with fail
  rw [← hW2]
  clear hW2 d0 d1 d2 d3 d4 d5 d6 e0 e1 e2 e3 e4 e5 e6 hB hk
  go_loopw [59] (fun v wr => ∃ j : Nat, j ≤ n ∧ v = .int .i64 j ∧ l.take j = l'.take j ∧ Below W2.heap.size W2 wr) (fun v _ => n - (intOf v).toNat)
  case atStart => exact ⟨0, by omega, rfl, rfl, Below.refl _ _⟩
  case round =>
    obtain ⟨j, hj, rfl, htk, hk⟩ := hrel
    obtain ⟨⟨d0, d1, d2, d3, d4, d5, d6⟩, ⟨e0, e1, e2, e3, e4, e5, e6⟩, hB⟩ := HQ.out _ hk
    have HT := Lib.hid htk
    clear htk
    by_cases hjn : j < n
    · rcases H4.out with h0 | ⟨b, o, rfl, hb, hcell⟩
      · omega
      rcases H4'.out with h0 | ⟨b', o', rfl, hb', hcell'⟩
      · omega
      have hl1 := HLL.out.1
      have hl2 := HLL.out.2
      obtain ⟨⟨p1, p2⟩, hp⟩ : ∃ p, l[j]? = some p := ⟨_, List.getElem?_eq_getElem (by omega)⟩
      obtain ⟨⟨u1, u2⟩, hu⟩ : ∃ p, l'[j]? = some p := ⟨_, List.getElem?_eq_getElem (by omega)⟩
      clear hl1 hl2
      obtain ⟨x1, x2⟩ := hcell j _ hp
      obtain ⟨y1, y2⟩ := hcell' j _ hu
      have x1 := (hB.cell (p := ⟨b, _, none⟩) hb).trans x1
      have x2 := (hB.cell (p := ⟨b, _, none⟩) hb).trans x2
      have y1 := (hB.cell (p := ⟨b', _, none⟩) hb').trans y1
      have y2 := (hB.cell (p := ⟨b', _, none⟩) hb').trans y2
      dsimp only at x1 x2 y1 y2
      have HPU := Lib.hid (And.intro hp hu)
      clear hp hu hcell hcell'
      have hj0 : (0 : Int) ≤ (j : Int) := Int.natCast_nonneg _
      have hj1 : (j : Int) < (n : Int) := by omega
      have hb51 : Below wr.heap.size wr (wr.alloc (.cells #[.int .i64 p1, .int .i64 p2] 80)).drew := ((Below.refl _ _).alloc (Nat.le_refl _) _).drew
      have hk5 := hk.trans (hb51.mono hk.size)
      have hlw := hk.size
      have hb5 := hB.trans (hb51.mono hB.size)
      have hS5 : (wr.alloc (.cells #[.int .i64 p1, .int .i64 p2] 80)).drew.cell? ⟨wr.heap.size, 0, none⟩ = some (.int .i64 p1) ∧ (wr.alloc (.cells #[.int .i64 p1, .int .i64 p2] 80)).drew.cell? ⟨wr.heap.size, 1, none⟩ = some (.int .i64 p2) ∧ (wr.alloc (.cells #[.int .i64 p1, .int .i64 p2] 80)).drew.cell? ⟨w.heap.size + 1, 5, none⟩ = some (.slice (some ⟨b', o', none⟩) n c') ∧ (wr.alloc (.cells #[.int .i64 p1, .int .i64 p2] 80)).drew.cell? ⟨b', o' + j * 2, none⟩ = some (.int .i64 u1) ∧ (wr.alloc (.cells #[.int .i64 p1, .int .i64 p2] 80)).drew.cell? ⟨b', o' + j * 2 + 1, none⟩ = some (.int .i64 u2) := by
        refine ⟨by simp [go_sem], by simp [go_sem], ?_, ?_, ?_⟩
        · exact (hb51.cell (p := ⟨w.heap.size + 1, 5, none⟩) (by dsimp only; omega)).trans e5
        · exact (hb51.cell (p := ⟨b', _, none⟩) (by have := hB.size; dsimp only; omega)).trans y1
        · exact (hb51.cell (p := ⟨b', _, none⟩) (by have := hB.size; dsimp only; omega)).trans y2
      go_wp2_with fail
      refine wp_region_noPanic ?_
      refine region_ord (S := fun w' => w'.cell? ⟨wr.heap.size, 0, none⟩ = some (.int .i64 p1) ∧ w'.cell? ⟨wr.heap.size, 1, none⟩ = some (.int .i64 p2) ∧ w'.cell? ⟨w.heap.size + 1, 5, none⟩ = some (.slice (some ⟨b', o', none⟩) n c') ∧ w'.cell? ⟨b', o' + j * 2, none⟩ = some (.int .i64 u1) ∧ w'.cell? ⟨b', o' + j * 2 + 1, none⟩ = some (.int .i64 u2)) [0, 1, 2, 3, 4, 5, 6] (by kernel_rfl) (by decide +kernel) (fun _ _ _ _ _ h => h) hS5 (fun _ => ?_)
      have heq2 := eqI2 p1 p2 u1 u2
      by_cases q1 : p1 = u1
      · subst q1
        by_cases q2 : p2 = u2
        · subst q2
          repeat (first
            | (refine' ord_light (v := _) rfl rfl rfl (fun w' hSw => ?_) ?_; rotate_left; (focus ((try dsimp only at hSw); go_simp <;> (with_reducible rfl))); (try simp only [Act.put, List.setIfInBounds_toArray, List.set_cons_zero, List.set_cons_succ])))
          refine ord_nil (NoPanic.normal ?_)
          go_wp2_with fail
          go_roundw
          case rel => exact ⟨j + 1, by omega, by go_num, take_step HT.out HPU.out.1 HPU.out.2, hk5⟩
          case measure => simp [intOf]; omega
        · have b2 : (p2 == u2) = false := beq_eq_false_iff_ne.2 q2
          repeat (first
            | (refine' ord_light (v := _) rfl rfl rfl (fun w' hSw => ?_) ?_; rotate_left; (focus ((try dsimp only at hSw); go_simp <;> (with_reducible rfl))); (try simp only [Act.put, List.setIfInBounds_toArray, List.set_cons_zero, List.set_cons_succ])))
          refine ord_nil (NoPanic.normal ?_)
          go_wp2_with fail
          go_ret
          exact ⟨by rw [HP2.out, ne_at HPU.out.1 HPU.out.2 (fun h => q2 (congrArg Prod.snd h))] <;> rfl, hb5⟩
      · have b1 : (p1 == u1) = false := beq_eq_false_iff_ne.2 q1
        repeat (first
          | (refine' ord_light (v := _) rfl rfl rfl (fun w' hSw => ?_) ?_; rotate_left; (focus ((try dsimp only at hSw); go_simp <;> (with_reducible rfl))); (try simp only [Act.put, List.setIfInBounds_toArray, List.set_cons_zero, List.set_cons_succ])))
        refine ord_nil (NoPanic.normal ?_)
        go_wp2_with fail
        go_ret
        exact ⟨by rw [HP2.out, ne_at HPU.out.1 HPU.out.2 (fun h => q1 (congrArg Prod.fst h))] <;> rfl, hb5⟩
    · obtain rfl : j = n := by omega
      have HR : Hid (res = true) := by
        show _ = _
        rw [HP2.out]
        have h := HT.out
        rw [List.take_of_length_le (by rw [HLL.out.1]; exact Nat.le_refl _), List.take_of_length_le (by rw [HLL.out.2]; exact Nat.le_refl _)] at h
        exact decide_eq_true h
      clear HLL
      go_wp2_with fail
      go_ret
      exact ⟨by rw [HR.out] <;> rfl, hB⟩
end Go.Proofs.YtfjpbkmnlmecgaaGreatDoor.Ru
end
