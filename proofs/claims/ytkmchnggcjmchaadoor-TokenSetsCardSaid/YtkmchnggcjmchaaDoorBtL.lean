/- Contract: Text. -/
import Derived.Test.YtkmchnggcjmchaaDoorBtK
import Derived.Lib.OthersKept
import Derived.Lib.AppendIntMem
namespace Go.Proofs.YtkmchnggcjmchaaDoor.Bz
open Go.RowKit Go.PlainAid Go.Shelf
attribute [local go_sem] Oper.semAt_some
set_option linter.unusedVariables false
set_option linter.unusedSimpArgs false
set_option maxHeartbeats 4000000

def dig (x : Nat) : List UInt8 := 32 :: Lib.decDigits x
def joinB (l : List Nat) : List UInt8 := (l.flatMap dig).tail
def headB (l : List Nat) : List UInt8 := 123 :: joinB l
def textB (l : List Nat) : List UInt8 := headB l ++ [125]
theorem itoa_nat (x : Nat) : Lib.itoa (x : Int) = Lib.decDigits x := by rw [Lib.itoa, if_neg (by omega)]; rfl
theorem headB_first (x : Nat) : headB [x] = [123] ++ Lib.decDigits x := by simp [headB, joinB, dig]
theorem headB_snoc (l : List Nat) (x : Nat) (h : l ≠ []) : headB (l ++ [x]) = headB l ++ [32] ++ Lib.decDigits x := by
  match l, h with
  | y :: r, _ => simp [headB, joinB, dig]
theorem dec_small (x : Nat) (h : x < 4096) : 1 ≤ (Lib.decDigits x).length ∧ (Lib.decDigits x).length ≤ 4 := by
  rw [Lib.decDigits_eq, List.length_map, List.length_range]
  refine ⟨Lib.nDigits_pos x, ?_⟩
  by_cases h1 : x < 10
  · rw [Lib.nDigits_small h1]; omega
  · rw [Lib.nDigits_big h1]
    by_cases h2 : x / 10 < 10
    · rw [Lib.nDigits_small h2]; omega
    · rw [Lib.nDigits_big h2]
      by_cases h3 : x / 10 / 10 < 10
      · rw [Lib.nDigits_small h3]; omega
      · rw [Lib.nDigits_big h3, Lib.nDigits_small (by omega)]; omega
theorem joinB_len : ∀ l : List Nat, (∀ x ∈ l, x < 4096) → (l.flatMap dig).length ≤ 5 * l.length
  | [], _ => by simp
  | x :: r, hh => by
    have h1 := joinB_len r fun y hy => hh y (by simp [hy])
    have h2 := (dec_small x (hh x (by simp))).2
    rw [List.flatMap_cons, List.length_append, List.length_cons, dig, List.length_cons]; omega
theorem headB_length (l : List Nat) (h : ∀ x ∈ l, x < 4096) : (headB l).length ≤ 1 + 5 * l.length ∧ (l ≠ [] → 1 < (headB l).length) := by
  constructor
  · have := joinB_len l h
    rw [headB, joinB, List.length_cons, List.length_tail]; omega
  · intro hne
    match l, hne, h with
    | x :: r, _, h =>
      have h2 := (dec_small x (h x (by simp))).1
      rw [headB, joinB, List.flatMap_cons, dig, List.cons_append, List.tail_cons, List.length_cons, List.length_append]; omega
theorem kept_below {W W' : World} (h : Below W.heap.size W W') : KeepsOthers W W' := ⟨h.size, fun k o hk _ => (h.block k (Array.getElem?_eq_some_iff.1 hk).1).trans hk⟩
theorem bAt_kept {B b : Nat} {p : Value} {l : List Value} {w w' : World} {row : Option Nat} (h : Lib.BuilderAt 75 5 B b p l w) (hg : w.grownBy w' row) (hr : ∀ r, row = some r → ∃ o : Obj, w.heap[r]? = some o ∧ o.isCells = false) : Lib.BuilderAt 75 5 B b p l w' := by
  obtain ⟨hB, v, hbk, hown, hne⟩ := h
  have hlt : b < w.heap.size := (Array.getElem?_eq_some_iff.1 hbk).1
  refine ⟨hB, v, (hg.block b hlt (fun e => ?_)).trans hbk, hown.kept hg ?_, hne⟩
  · obtain ⟨o, ho, hc⟩ := hr b e.symm
    rw [hbk] at ho; cases ho; cases hc
  · cases hv : v.ownBlock with
    | none => exact .inl rfl
    | some g =>
      refine .inr fun e => ?_
      obtain ⟨o, ho, hc⟩ := hr g e.symm
      have := row_cells hown g o hv ho
      rw [hc] at this; cases this
theorem IsB.kept {B b : Nat} {l : List Value} {w w' : World} {row : Option Nat} (h : IsB w B b l) (hg : w.grownBy w' row) (hr : ∀ r, row = some r → ∃ o : Obj, w.heap[r]? = some o ∧ o.isCells = false) : IsB w' B b l :=
  h.elim (fun x => .inl (bAt_kept x hg hr)) (fun x => .inr (bAt_kept x hg hr))
theorem IsB.below {B b : Nat} {l : List Value} {w w' : World} (h : IsB w B b l) (hb : Below w.heap.size w w') : IsB w' B b l :=
  IsB.kept h (row := none) ⟨hb.os, hb.tape, hb.output, hb.size, fun j hj _ => hb.block j hj⟩ (fun r e => by cases e)
theorem grow_below {W w' : World} {k : Nat} {os : Array Obj} (h : w' = Go.Sort.grow (W.drewN k) os) : Below W.heap.size W w' := by rw [h]; exact Lib.below_grow _ _ (Nat.le_refl _) _ _
theorem IsB.block {B b : Nat} {l : List Value} {w : World} (h : IsB w B b l) : ∃ cs, w.heap[b]? = some (.cells cs 75 (0, 0)) := by
  rcases h with ⟨_, v, h, _⟩ | ⟨_, v, h, _⟩ <;> exact ⟨_, h⟩

def Pow10 (w : World) : Prop := Lib.TabBelow Tryd.prog w.heap.size w "internal/strconv.uint64pow10" .u64 Lib.pow10Tab
abbrev M4 := {x : Nat // x < 4096}
abbrev vals (l : List M4) : List Nat := l.map (·.1)
theorem isB_own (B b : Nat) (f : List M4 → List Value) : Own (fun (s : List M4) W => IsB W B b (f s)) := fun s W W' row hs hg hr => IsB.kept hs hg hr
theorem vals_lt (l : List M4) : ∀ x ∈ vals l, x < 4096 := by
  intro x hx; obtain ⟨y, _, rfl⟩ := List.mem_map.1 hx; exact y.2

set_option maxRecDepth 100000 in
theorem text_any (a : Option Addr) (n cap : Nat) (l : List Nat) (w : World) (h : Bs w a n cap l) (hT : Tz w) (hP : Pow10 w) :
    Calls Tryd.prog 13 #[.agg #[.slice a n cap]] w fun e w' => e = .returned (.string ⟨(textB l).toArray⟩) ∧ Below w.heap.size w w' := by
  have hlen : l.length ≤ 4096 := by obtain ⟨ws, _, hr⟩ := h; exact asc_length hr.asc
  have hblk : Hid (∀ p, a = some p → p.block < w.heap.size) := by
    obtain ⟨ws, ⟨_, _, _, ⟨rfl, _⟩ | ⟨b, o, rfl, ⟨hb, -⟩, _⟩⟩, _⟩ := h
    · intro p hp; cases hp
    · intro p hp; cases hp; exact hb
  have HH := Lib.hid h
  have HT := Lib.hid hT
  have HP := Lib.hid hP
  clear h hT hP
  obtain ⟨w1, hw1⟩ : ∃ w1, w1 = w.alloc (.cells #[.slice a n cap] 40) := ⟨_, rfl⟩
  have hz1 : w1.heap.size = w.heap.size + 1 := by rw [hw1, World.size_alloc]
  have HW1 := Lib.hid hw1
  have HB0 := Lib.hid (Lib.fresh_isBuilder 75 5 w1)
  rw [hz1, hw1] at HB0
  have HQ : Hid (((w.alloc (.cells #[.slice a n cap] 40)).alloc (.cells #[.pointer none, .slice none 0 0] 75)).cell? ⟨w.heap.size, 0, none⟩ = some (.slice a n cap)) := by
    have := World.alloc_heap_new w (.cells #[.slice a n cap] 40)
    have h2 := (Below.heap_alloc (w.alloc (.cells #[.slice a n cap] 40)) (.cells #[.pointer none, .slice none 0 0] 75) w.heap.size (by simp)).trans this
    show _ = _
    rw [Lib.cell_of_heap h2]; rfl
  clear hw1
  refine (callsIn_wide (n := 3)).1 ?_
  refine callsIn_of_wp_marks Tryd.func13 rfl trivial ?_ rfl
  simp only [Tryd.ntmps13, List.size_toArray, List.length_cons, List.length_nil, Nat.reduceAdd, Nat.reduceSub, Array.replicate_succ, Array.replicate_zero, List.push_toArray, List.append_toArray, List.nil_append, List.cons_append]
  gi_wp2_with (first | (refine ⟨trivial, ?_⟩; gi_at_call 40; refine (callsIn_wide.2 (writeByte_any (w.heap.size + 1) (w.heap.size + 1) [] 123 _ HB0.out (by decide) (by simp only [World.size_alloc]; omega))).mono ?_; rintro e w2 ⟨rfl, hB2, hb2, -⟩; have q0 := (hb2.cell (p := ⟨w.heap.size, 0, none⟩) (Nat.lt_succ_self _)).trans HQ.out; have hz2 := hb2.size; have HK2 := Lib.hid hb2) | (refine ⟨trivial, ?_⟩; gi_at_call 41; refine (all_in 2 _ _ _ _).mono ?_; rintro e w4 ⟨rfl, rfl⟩))
  simp only [World.size_alloc] at hz2
  have hB02 : Below w.heap.size w w2 := (((Below.refl _ w).alloc (Nat.le_refl _) _).alloc (by simp) _).trans (HK2.out.mono (Nat.le_succ _))
  have bN := Boxed.new w2 40 (.slice a n cap)
  have hB0 : Below w.heap.size w (w2.alloc (.cells #[.slice a n cap] 40)) := hB02.alloc (by omega) _
  refine wpIn_rangeFunc_ownG (F := Fence.wide) rfl (show 1 ≤ 3 by omega) (gf := 65) (lb := #[.pointer (some ⟨w2.heap.size, 0, none⟩)]) rfl trivial (enters_of Tryd.func65 (by kernel_rfl) rfl)
    (all_stops4 (3 - 1) (by omega) w2.heap.size w.heap.size a n cap l _ (by simp) (by simp; omega) ((Tz.to HT.out).below hB0) bN.cell (HH.out.below hB0) hblk.out) belowK_t (belowK_b (by simp; omega)) (Below.refl _ _) (fun _ => rfl)
    (fun pre W => IsB W (w.heap.size + 1) (w.heap.size + 1) (Lib.byteCells (headB (vals pre))) ∧ Below w.heap.size w W)
    (fun _ _ _ => False)
    (OwnFrom.and (Own.from (isB_own (w.heap.size + 1) (w.heap.size + 1) fun pre => Lib.byteCells (headB (vals pre))) _) (ownFrom_below (Nat.le_refl _) (by simp; omega)))
    (fun _ _ _ _ _ hs _ _ => hs)
    ⟨IsB.below hB2 ((Below.refl _ _).alloc (Nat.le_refl _) _), hB0⟩
    (fun x => { tmps := #[.agg #[.slice a n cap], .pointer (some ⟨w.heap.size, 0, none⟩), .string { data := #[] }, .pointer (some ⟨w.heap.size + 1, 0, none⟩), .int .i64 ((x.1 : Nat) : Int), .nilIface, .agg #[.slice a n cap], .func (.func 65) #[] #[.pointer (some ⟨w2.heap.size, 0, none⟩)], .int .i64 ((x.1 : Nat) : Int), undef, undef, undef, undef, undef, undef, undef, undef], defers := [] }) ?assign ?body ?done ?stop
  case assign =>
    intro lk x W K hK
    gi_wp2
    exact hK
  case body =>
    rintro lk pre x W ⟨hIB, hB⟩ hlt
    have HI := Lib.hid hIB
    have HB := Lib.hid hB
    have hsz := hB.size
    have hsb : w.heap.size + 1 < W.heap.size := by obtain ⟨cs, h⟩ := IsB.block hIB; exact (Array.getElem?_eq_some_iff.1 h).1
    have hl1 := (headB_length (vals pre) (vals_lt pre)).1
    have hpl : (vals pre).length ≤ 4096 := by rw [vals, List.length_map]; omega
    have hdx := (dec_small x.1 x.2).2
    have HV : Hid (vals (pre ++ [x]) = vals pre ++ [x.1]) := by show _ = _; simp [vals]
    have HTab := Lib.hid (fun W' (hb : Below w.heap.size w W') => Tryd.strconv_Itoa (x.1 : Int) (by omega) (by have := x.2; omega) W' (HP.out W' hb))
    obtain ⟨p, hp⟩ : ∃ p, p = vals pre := ⟨_, rfl⟩
    rw [← hp] at hl1 hpl HI HV
    have HL : Hid (p ≠ [] → 1 < (headB p).length) := by rw [hp]; exact (headB_length (vals pre) (vals_lt pre)).2
    clear hIB hB hp hlt
    have hI4 : ((Lib.itoa (x.1 : Int)).toArray.size) ≤ 4 := by rw [itoa_nat]; simpa using hdx
    have HIT : Hid (Lib.strCells ⟨(Lib.itoa (x.1 : Int)).toArray⟩ = Lib.byteCells (Lib.decDigits x.1)) := by show _ = _; rw [Lib.strCells_toArray, itoa_nat]
    obtain ⟨it, hit⟩ : ∃ it : ByteArray, it = ⟨(Lib.itoa (x.1 : Int)).toArray⟩ := ⟨_, rfl⟩
    rw [← hit] at HTab HIT
    have hI5 : it.size ≤ 4 := by rw [hit]; exact hI4
    obtain ⟨c, hc⟩ : ∃ c, c = Lib.byteCells (headB p) := ⟨_, rfl⟩
    have hcl : c.length = (headB p).length := by rw [hc, Lib.byteCells_length]
    rw [← hc] at HI
    have HC := Lib.hid hc
    clear hit hI4 hc hdx
    by_cases hp0 : p = []
    · have HG : Hid (vals (pre ++ [x]) = [x.1]) := by show _ = _; rw [HV.out, hp0]; rfl
      have hc1 : (c.length : Int) = 1 := by rw [hcl, hp0]; rfl
      have hcb : c.length ≤ 30000 := by omega
      have HC1 : Hid (c = Lib.byteCells [123]) := by show _ = _; rw [HC.out, hp0]; rfl
      clear HL HV hl1 hcl hp0 HC
      gi_wp2_with (first
        | (refine ⟨trivial, ?_⟩; gi_at_call 42; refine (CallsIn.inRound lk (callsIn_wide.2 (Tryd.Builder_Len _ _ _ _ HI.out))).mono ?_; rintro e w5 ⟨rfl, rfl⟩)
        | (refine ⟨trivial, ?_⟩; gi_at_call 44; refine (CallsIn.inRound lk (callsIn_wide.2 (HTab.out _ HB.out))).mono ?_; rintro e w6 ⟨rfl, k6, os6, hw6⟩; have HB6 := Lib.hid (grow_below hw6); have HI6 := Lib.hid (IsB.below HI.out HB6.out); have hz6 := HB6.out.size; clear hw6)
        | (refine ⟨trivial, ?_⟩; gi_at_call 43; refine (CallsIn.inRound lk (callsIn_wide.2 (writeString_any (w.heap.size + 1) (w.heap.size + 1) _ _ _ HI6.out (by omega) (by omega)))).mono ?_; rintro e w7 ⟨rfl, hB7, hb7, hk7⟩))
      refine ⟨((kept_below HB6.out).trans hk7).from _, (HB6.out.mono hsz).trans (hb7.mono (Nat.le_succ _)), ?_, (HB.out.trans (HB6.out.mono hsz)).trans (hb7.mono (Nat.le_succ _))⟩
      rw [HC1.out, HIT.out, ← Lib.byteCells_append, ← headB_first, ← HG.out] at hB7
      exact hB7
    · have HG : Hid (headB (vals (pre ++ [x])) = headB p ++ [32] ++ Lib.decDigits x.1) := by show _ = _; rw [HV.out]; exact headB_snoc p _ hp0
      have hc1 : 1 < (c.length : Int) := by have := HL.out hp0; omega
      have hcb : c.length ≤ 30000 := by omega
      clear HL HV hl1 hcl hp0
      gi_wp2_with (first
        | (refine ⟨trivial, ?_⟩; gi_at_call 42; refine (CallsIn.inRound lk (callsIn_wide.2 (Tryd.Builder_Len _ _ _ _ HI.out))).mono ?_; rintro e w5 ⟨rfl, rfl⟩)
        | ((first | refine ⟨trivial, ?_⟩ | skip); gi_at_call 40; refine (CallsIn.inRound lk (callsIn_wide.2 (writeByte_any (w.heap.size + 1) (w.heap.size + 1) _ 32 _ HI.out (by omega) (by omega)))).mono ?_; rintro e w5b ⟨rfl, hB5, hb5, hk5⟩; have hz5 := hb5.size; have HB5 := Lib.hid (HB.out.trans (hb5.mono (Nat.le_succ _))); have HI5 := Lib.hid hB5; have HK5 := Lib.hid hk5; have HL5 := Lib.hid hb5; clear hB5 hb5 hk5)
        | (refine ⟨trivial, ?_⟩; gi_at_call 44; refine (CallsIn.inRound lk (callsIn_wide.2 (HTab.out _ HB5.out))).mono ?_; rintro e w6 ⟨rfl, k6, os6, hw6⟩; have HB6 := Lib.hid (grow_below hw6); have HI6 := Lib.hid (IsB.below HI5.out HB6.out); have hz6 := HB6.out.size; clear hw6)
        | (refine ⟨trivial, ?_⟩; gi_at_call 43; refine (CallsIn.inRound lk (callsIn_wide.2 (writeString_any (w.heap.size + 1) (w.heap.size + 1) _ _ _ HI6.out (by simp only [List.length_append, List.length_singleton]; omega) (by omega)))).mono ?_; rintro e w7 ⟨rfl, hB7, hb7, hk7⟩))
      refine ⟨((HK5.out.trans (kept_below HB6.out)).trans hk7).from _, ((HL5.out.mono (Nat.le_succ _)).trans (HB6.out.mono (by omega))).trans (hb7.mono (Nat.le_succ _)), ?_, (HB5.out.trans (HB6.out.mono (by omega))).trans (hb7.mono (Nat.le_succ _))⟩
      rw [HC.out, HIT.out] at hB7
      rw [HG.out, Lib.byteCells_append, Lib.byteCells_append]
      exact hB7
  case done =>
    rintro D ys W hD hys ⟨hIB, hB⟩ hK
    rw [show vals ys = l from hys] at hIB
    have hsz := hB.size
    have hsb : w.heap.size + 1 < W.heap.size := by obtain ⟨cs, h⟩ := IsB.block hIB; exact (Array.getElem?_eq_some_iff.1 h).1
    have hl1 := (headB_length l (by obtain ⟨ws, _, hr⟩ := HH.out; exact hr.asc.2)).1
    have hcl : (Lib.byteCells (headB l)).length ≤ 30000 := by rw [Lib.byteCells_length]; omega
    have HI := Lib.hid hIB
    have HTX : Hid (Lib.byteCells (headB l) ++ [.int .u8 125] = Lib.byteCells (textB l)) := by show _ = _; rw [textB, Lib.byteCells_append]; rfl
    clear hIB hl1
    gi_wp2_with (first
      | (refine ⟨trivial, ?_⟩; gi_at_call 40; refine (callsIn_wide.2 (writeByte_any (w.heap.size + 1) (w.heap.size + 1) _ 125 _ HI.out (by omega) (by omega))).mono ?_; rintro e w5 ⟨rfl, hB5, hb5, hk5⟩; rw [HTX.out] at hB5; have hz5 := hb5.size; have hK5 := hk5.same D _ hK rfl)
      | (refine ⟨trivial, ?_⟩; gi_at_call 45; refine (callsIn_wide.2 (Tryd.Builder_String_any_k (w.heap.size + 1) (w.heap.size + 1) (textB l) _ (Lib.IsBuilderF.of hB5) (by omega))).mono ?_; rintro e w6 ⟨rfl, -, hb6, hk6⟩))
    simp only [World.size_alloc] at hD
    have hK6 := hk6 D _ hK5 (fun e => by have := Option.some.inj e; omega) (fun c fz e => by cases e)
    refine ⟨by simp, .inl ⟨_, _, rfl, run_takeDeferred hK6, ?_⟩⟩
    exact ⟨_, results_tmp rfl _ _ _, rfl, (hB.trans ((hb5.trans hb6).mono (Nat.le_succ _))).trans (belowK_b (w := w) (Nat.le_refl _) w6 D _ _ (by omega) hK6 rfl rfl)⟩
  case stop =>
    rintro D c pre W _ _ h _
    exact h.elim
end Go.Proofs.YtkmchnggcjmchaaDoor.Bz
