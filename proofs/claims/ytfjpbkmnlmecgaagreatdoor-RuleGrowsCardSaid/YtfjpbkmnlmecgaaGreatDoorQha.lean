/- Several of the texts below, joined: RyA RyB. -/
import Derived.Test.YtfjpbkmnlmecgaaGreatDoorQgx
import Derived.Test.YtfjpbkmnlmecgaaGreatDoorQgr
import Derived.Test.YtfjpbkmnlmecgaaGreatDoorQgw
section
/- Rows of rules of the specification. -/
namespace Go.Proofs.YtfjpbkmnlmecgaaGreatDoor.Ru
open Go.RowKit Go.PlainAid Go.Maps Go.Shelf Go.Proofs.YtfjpbkmnlmecgaaGreatDoor Go.Proofs.YtfjpbkmnlmecgaaGreatDoor.Bz
set_option linter.unusedVariables false
set_option linter.unusedSimpArgs false
set_option maxHeartbeats 4000000
set_option maxRecDepth 20000

/-- The cells of a rule of the specification. -/
structure Hf where
  rv : Bool
  ad : Int
  tg : Int
  y : Nat
  z : Nat
  a : Option Addr
  n : Nat
  c : Nat
  lg : Int
def hfL (h : Hf) : List Value := [.bool h.rv, .int .i64 h.ad, .int .i64 h.tg, .int .u64 (h.y : Nat), .int .u64 (h.z : Nat), .slice h.a h.n h.c, .int .i64 h.lg]
def frE : Enc Hf 7 := ⟨hfL, fun _ => rfl, fun h u hu => by
  unfold hfL at hu
  simp only [List.mem_cons, List.not_mem_nil, or_false] at hu
  rcases hu with rfl | rfl | rfl | rfl | rfl | rfl | rfl <;> rfl⟩
theorem infoFr : (Tryz.prog.info? 35).map (fun i => (i.zero, i.size, i.bytes)) = some (some (.agg #[.bool false, .int .i64 0, .int .i64 0, .int .u64 0, .int .u64 0, .slice none 0 0, .int .i64 0]), 7, 72) := by kernel_rfl
def Far2 (w : World) (r : Nat) : Prop := ¬ ∃ cs fz, w.heap[r]? = some (.cells cs 80 fz)
theorem Dt.far {w w' : World} {a : Option Addr} {n cap : Nat} {l : List (Int × Int)} {row : Option Nat} (h : Dt w a n cap l) (hg : w.grownBy w' row) (hr : ∀ r, row = some r → Far2 w r) : Dt w' a n cap l := by
  obtain ⟨⟨h1, h2, h3, h4⟩, h5⟩ := h
  have key : ∀ p, a = some p → w'.heap[p.block]? = w.heap[p.block]? := fun p hp => hg.block _ (h5 p hp).1 fun e => hr _ e.symm (h5 p hp).2
  refine ⟨⟨h1, h2, h3, ?_⟩, fun p hp => ?_⟩
  · rcases h4 with h4 | ⟨b, o, ha, hlt, hc⟩
    · exact .inl h4
    · have hbk : w'.heap[b]? = w.heap[b]? := key _ ha
      refine .inr ⟨b, o, ha, Nat.lt_of_lt_of_le hlt hg.size, fun j q hq => ?_⟩
      constructor
      · rw [World.cell?_of_block (w := w) hbk]; exact (hc j q hq).1
      · rw [World.cell?_of_block (w := w) hbk]; exact (hc j q hq).2
  · obtain ⟨k2, ds, gz, k3⟩ := h5 p hp
    exact ⟨Nat.lt_of_lt_of_le k2 hg.size, ds, gz, (key p hp).trans k3⟩
theorem FrC.far {w w' : World} {cs : List Value} {f : Fr} {row : Option Nat} (h : FrC w cs f) (hg : w.grownBy w' row) (hr : ∀ r, row = some r → Far2 w r) : FrC w' cs f := by
  obtain ⟨a, n, c, e, hd, hk⟩ := h; exact ⟨a, n, c, e, hd.far hg hr, hk⟩
/-- All rules of a list. -/
def AllF (w : World) (hs : List Hf) (l : List Fr) : Prop := hs.length = l.length ∧ ∀ (j : Nat) h x, hs[j]? = some h → l[j]? = some x → FrC w (hfL h) x
theorem AllF.below {w w' : World} {hs : List Hf} {l : List Fr} (h : AllF w hs l) (hb : Below w.heap.size w w') : AllF w' hs l := ⟨h.1, fun j k x hk hx => (h.2 j k x hk hx).below hb⟩
theorem AllF.nil (w : World) : AllF w [] [] := ⟨rfl, fun j h x hk => by simp at hk⟩
theorem AllF.far {w w' : World} {hs : List Hf} {l : List Fr} {row : Option Nat} (h : AllF w hs l) (hg : w.grownBy w' row) (hr : ∀ r, row = some r → Far2 w r) : AllF w' hs l := ⟨h.1, fun j k x hk hx => (h.2 j k x hk hx).far hg hr⟩
theorem AllF.fill {w : World} {hs : List Hf} {l : List Fr} {g : Nat} {us zs : List Value} (h : AllF w hs l) (hg : w.heap[g]? = some (.cells zs.toArray 35 (0, 0))) : AllF (Bk.fillC w g 0 us) hs l := ⟨h.1, fun j k x hk hx => (h.2 j k x hk hx).fill hg⟩
theorem AllF.snoc {w : World} {hs : List Hf} {l : List Fr} {h : Hf} {r : Fr} (k : AllF w hs l) (hr : FrC w (hfL h) r) : AllF w (hs ++ [h]) (l ++ [r]) := by
  refine ⟨by rw [List.length_append, List.length_append, k.1]; rfl, fun j g x hg hx => ?_⟩
  by_cases hj : j < hs.length
  · rw [List.getElem?_append_left hj] at hg
    rw [List.getElem?_append_left (by rw [← k.1]; exact hj)] at hx
    exact k.2 j g x hg hx
  · rw [List.getElem?_append_right (by omega)] at hg
    rw [List.getElem?_append_right (by rw [← k.1]; omega), ← k.1] at hx
    obtain ⟨i, hi⟩ : ∃ i, j - hs.length = i := ⟨_, rfl⟩
    rw [hi] at hg hx
    match i, hg, hx with
    | 0, hg, hx => cases hg; cases hx; exact hr
    | i + 1, hg, hx => simp at hg
/-- The slice (a, n, cap) holds the rules l. -/
def Fs (w : World) (a : Option Addr) (n cap : Nat) (l : List Fr) : Prop := ∃ hs, Dk frE w a n cap hs ∧ AllF w hs l
theorem Fs.below {w w' : World} {a : Option Addr} {n cap : Nat} {l : List Fr} (h : Fs w a n cap l) (hb : Below w.heap.size w w') : Fs w' a n cap l := by
  obtain ⟨hs, h1, h2⟩ := h
  exact ⟨hs, h1.below hb, h2.below hb⟩
theorem Fs.len {w : World} {a : Option Addr} {n cap : Nat} {l : List Fr} (h : Fs w a n cap l) : n = l.length := by
  obtain ⟨hs, h1, h2⟩ := h
  rw [← h2.1, h1.1]
/-- The slice holds the bytes ps. -/
def Bw (w : World) (a : Option Addr) (n cap : Nat) (ps : List Nat) : Prop :=
  ps.length = n ∧ n ≤ cap ∧ cap ≤ 9223372036854775807 ∧ (∀ x ∈ ps, x < 256) ∧ (n = 0 ∨ ∃ b o, a = some ⟨b, o, none⟩ ∧ b < w.heap.size ∧ ∀ j, j < n → w.cell? ⟨b, o + j, none⟩ = some (.int .u8 (wd ps j : Nat)))
theorem Bw.below {w w' : World} {a : Option Addr} {n cap : Nat} {ps : List Nat} (h : Bw w a n cap ps) (hb : Below w.heap.size w w') : Bw w' a n cap ps := by
  obtain ⟨h1, h2, h3, h4, h5⟩ := h
  refine ⟨h1, h2, h3, h4, ?_⟩
  rcases h5 with h5 | ⟨b, o, ha, hlt, hc⟩
  · exact .inl h5
  · exact .inr ⟨b, o, ha, Nat.lt_of_lt_of_le hlt hb.size, fun j hj => (hb.cell (p := ⟨b, _, none⟩) hlt).trans (hc j hj)⟩
/-- A byte of p; 0 if there is none. -/
theorem at_any (a : Option Addr) (n c : Nat) (ps : List Nat) (i : Nat) (w : World) (h : Bw w a n c ps) (hi : i < 1000) :
    Calls Tryz.prog 173 #[.slice a n c, .int .i64 (i : Nat)] w fun e w' => ∃ v : Nat, e = .returned (.int .i64 (v : Nat)) ∧ v ≤ 255 ∧ Below w.heap.size w w' := by
  obtain ⟨h1, h2, h3, h4, h5⟩ := h
  by_cases hin : i < n
  · have hj : (i : Int) < (n : Int) := by omega
    have hj0 : (0 : Int) ≤ (i : Int) := by omega
    rcases h5 with h5 | ⟨b, o, rfl, hb, hc⟩
    · omega
    have hx := hc i hin
    have hv : wd ps i ≤ 255 := by
      unfold wd
      rw [List.getD_eq_getElem?_getD, List.getElem?_eq_getElem (by omega)]
      have := h4 _ (List.getElem_mem (l := ps) (n := i) (by omega))
      simp only [Option.getD_some]; omega
    have HV := Lib.hid hv
    generalize wd ps i = v at *
    have hw : IntKind.i64.wrap (v : Int) = (v : Int) := by rw [IntKind.wrap_i64]; omega
    clear hc h4 hv
    go_enter Tryz.func173, Tryz.ntmps173
    go_wp2_with fail
    go_ret
    exact ⟨v, rfl, HV.out, Below.refl _ _⟩
  · have hj : ¬ (i : Int) < (n : Int) := by omega
    go_enter Tryz.func173, Tryz.ntmps173
    go_wp2_with fail
    go_ret
    exact ⟨0, rfl, by omega, Below.refl _ _⟩
end Go.Proofs.YtfjpbkmnlmecgaaGreatDoor.Ru
end

section
/- The rules that ref.Make makes, in plain words; ref.All. -/
namespace Go.Proofs.YtfjpbkmnlmecgaaGreatDoor.Ru
open Go.RowKit Go.PlainAid Go.Maps Go.Shelf Go.Proofs.YtfjpbkmnlmecgaaGreatDoor Go.Proofs.YtfjpbkmnlmecgaaGreatDoor.Bz
set_option linter.unusedVariables false
set_option linter.unusedSimpArgs false
set_option maxHeartbeats 4000000
set_option maxRecDepth 20000

/-- Two masks of some roles that have none in common. -/
def YZ (R : List Int) (y z : Nat) : Prop := y < 18446744073709551616 ∧ z < 18446744073709551616 ∧ y % 2 = 0 ∧ z % 2 = 0 ∧ (∀ x, (y ||| z).testBit x = true → ((x : Nat) : Int) ∈ R) ∧ y &&& z = 0
theorem YZ.zero (R : List Int) : YZ R 0 0 := ⟨by omega, by omega, rfl, rfl, fun x h => by simp at h, rfl⟩
theorem pow_lt64 {k : Nat} (hk : k < 64) : 2 ^ k < 18446744073709551616 := by
  have : 2 ^ k < 2 ^ 64 := Nat.pow_lt_pow_right (by decide) hk
  simpa using this
theorem pow_even {k : Nat} (hk : 1 ≤ k) : 2 ^ k % 2 = 0 := by
  obtain ⟨j, rfl⟩ : ∃ j, k = j + 1 := ⟨k - 1, by omega⟩
  rw [Nat.pow_succ]; omega
theorem tb_pow {k x : Nat} : (2 ^ k).testBit x = true ↔ k = x := by rw [Nat.testBit_two_pow]; simp
theorem YZ.symm {R : List Int} {y z : Nat} (h : YZ R y z) : YZ R z y := by
  obtain ⟨h1, h2, h3, h4, h5, h6⟩ := h
  exact ⟨h2, h1, h4, h3, fun x hx => h5 x (by rw [Nat.or_comm]; exact hx), by rw [Nat.and_comm]; exact h6⟩
theorem YZ.add {R : List Int} {y z k : Nat} (h : YZ R y z) (hk1 : 1 ≤ k) (hk : k < 64) (hm : ((k : Nat) : Int) ∈ R) (hn : (y ||| z).testBit k = false) : YZ R (y ||| 2 ^ k) z := by
  obtain ⟨h1, h2, h3, h4, h5, h6⟩ := h
  rw [Nat.testBit_or, Bool.or_eq_false_iff] at hn
  refine ⟨or_lt h1 (pow_lt64 hk), h2, or_even h3 (pow_even hk1), h4, fun x hx => ?_, ?_⟩
  · rw [Nat.testBit_or, Nat.testBit_or, Bool.or_eq_true, Bool.or_eq_true] at hx
    rcases hx with (hx | hx) | hx
    · exact h5 x (by rw [Nat.testBit_or, hx]; rfl)
    · rw [tb_pow] at hx; subst hx; exact hm
    · exact h5 x (by rw [Nat.testBit_or, hx, Bool.or_true])
  · apply Nat.eq_of_testBit_eq
    intro i
    have e : (y &&& z).testBit i = false := by rw [h6]; exact Nat.zero_testBit i
    rw [Nat.testBit_and] at e
    rw [Nat.testBit_and, Nat.testBit_or, Nat.zero_testBit]
    by_cases hi : k = i
    · subst hi; rw [hn.2, Bool.and_false]
    · have : (2 ^ k).testBit i = false := by
        cases hb : (2 ^ k).testBit i
        · rfl
        · exact absurd (tb_pow.1 hb) hi
      rw [this, Bool.or_false]; exact e
/-- What ref.Make makes. -/
def Val (R A : List Int) (f : Fr) : Prop := f.target ∈ R ∧ f.admin ∈ A ∧ YZ R f.yes f.no ∧ (f.revoke = true → f.yes = 0 ∧ f.no = 0 ∧ f.longest = 0) ∧ 0 ≤ f.longest ∧ f.longest ≤ 9
theorem or_shl {y k : Nat} (hy : y < 18446744073709551616) (hk : k < 64) : bits .or .u64 ((y : Nat) : Int) (IntKind.u64.wrap (2 ^ k)) = ((y ||| 2 ^ k : Nat) : Int) := by
  have h1 : IntKind.u64.wrap (2 ^ k) = ((2 ^ k : Nat) : Int) := by
    rw [IntKind.wrap_u64]
    have : ((2 : Int) ^ k) = ((2 ^ k : Nat) : Int) := by simp
    rw [this]
    have := pow_lt64 hk
    generalize 2 ^ k = y at *
    omega
  rw [h1]
  exact u64_or_nat _ _ hy (pow_lt64 hk)
theorem can_allF : Dy.Can [((0 : Int), (30000 : Int))] := Dy.can_cons (by unfold Dy.Okp; dsimp only; omega) Dy.can_nil (fun q hq => by cases hq)
theorem rall_any (w : World) : Calls Tryz.prog 161 #[] w fun e w' => ∃ a n c, e = .returned (.slice a n c) ∧ Dt w' a n c [(0, 30000)] ∧ Below w.heap.size w w' := by
  have hW : Dt (w.alloc (.cells #[.int .i64 0, .int .i64 30000] 80)) (some ⟨w.heap.size, 0, none⟩) 1 1 [(0, 30000)] := by
    refine ⟨⟨rfl, by omega, by decide, .inr ⟨_, 0, rfl, by simp, fun i p hp => ?_⟩⟩, fun p hp => ?_⟩
    · rcases i with _ | i
      · cases hp
        constructor <;> simp [go_sem]
      · cases hp
    · cases hp
      exact ⟨by simp, _, _, heap_alloc_new _ _⟩
  have hB : Below w.heap.size w (w.alloc (.cells #[.int .i64 0, .int .i64 30000] 80)) := (Below.refl _ _).alloc (Nat.le_refl _) _
  go_enter Tryz.func161, Tryz.ntmps161
  go_wp2_with fail
  go_ret
  exact ⟨_, _, _, rfl, hW, hB⟩
/-- One cell of a rule's block is written. -/
theorem wr1 {N g i : Nat} {w0 w : World} {cs : Array Value} {a : Option Addr} {n c : Nat} {l : List (Int × Int)} (v : Value) (hb : Below N w0 w) (hN : N ≤ g) (h : w.heap[g]? = some (.cells cs 35 (0, 0))) (hd : Dt w a n c l) :
    (w.setCell ⟨g, i, none⟩ v).heap[g]? = some (.cells (cs.setIfInBounds i v) 35 (0, 0)) ∧ Dt (w.setCell ⟨g, i, none⟩ v) a n c l ∧ Below N w0 (w.setCell ⟨g, i, none⟩ v) :=
  ⟨Bk.set_cell1 h, hd.fill h (by decide) (by simp) (fun b hbg => Below.heap_setCell _ _ _ b (by dsimp only; omega)), hb.setCell (p := ⟨g, i, none⟩) hN _⟩
end Go.Proofs.YtfjpbkmnlmecgaaGreatDoor.Ru
end
