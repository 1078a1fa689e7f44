/- Several of the texts below, joined: CvH Inv. -/
import Derived.Test.YtadomogbakcokaaGreatDoorQgk
import Derived.Test.YtadomogbakcokaaGreatDoorQgm
import Derived.Test.YtadomogbakcokaaGreatDoorQgr
import Derived.Deep.RegionHeld3
section
/- The examples of awake in plain words; their contracts. -/
namespace Go.Proofs.YtadomogbakcokaaGreatDoor
open Go.RowKit Go.PlainAid
set_option linter.unusedVariables false
set_option linter.unusedSimpArgs false
set_option maxHeartbeats 4000000

/-- Two cells of a block. -/
def At2 (W : World) (g : Nat) (x y : Value) : Prop := W.cell? ⟨g, 0, none⟩ = some x ∧ W.cell? ⟨g, 1, none⟩ = some y ∧ g < W.heap.size
theorem At2.below {W W' : World} {g : Nat} {x y : Value} (h : At2 W g x y) (hb : Below W.heap.size W W') : At2 W' g x y :=
  ⟨(hb.cell (p := ⟨g, 0, none⟩) h.2.2).trans h.1, (hb.cell (p := ⟨g, 1, none⟩) h.2.2).trans h.2.1, Nat.lt_of_lt_of_le h.2.2 hb.size⟩
theorem At2.new (w : World) (x y : Value) (T : TypeId) : At2 (w.alloc (.cells #[x, y] T)) w.heap.size x y := ⟨by simp, by simp, by simp⟩
theorem At2.alloc {W : World} {g : Nat} {x y : Value} (h : At2 W g x y) (o : Obj) : At2 (W.alloc o) g x y := h.below ((Below.refl _ _).alloc (Nat.le_refl _) _)
theorem asc_few {l : List Nat} (h1 : l.Pairwise (· < ·)) (h2 : ∀ x ∈ l, x < 4096) : Asc l := ⟨h1, h2⟩
theorem or13 : orL [1] [3] = [1, 3] := asc_ext (asc_or _ _) ⟨by decide, by decide⟩ fun x => by rw [mem_or]; simp; omega
theorem or_1 : orL [] [1] = [1] := asc_ext (asc_or _ _) ⟨by decide, by decide⟩ fun x => by rw [mem_or]; simp; omega
theorem or_13 : orL [1, 3] [] = [1, 3] := asc_ext (asc_or _ _) ⟨by decide, by decide⟩ fun x => by rw [mem_or]; simp; omega
theorem or1_ : orL [1] [] = [1] := asc_ext (asc_or _ _) ⟨by decide, by decide⟩ fun x => by rw [mem_or]; simp; omega
theorem text_ex1 : textC ([1], [3]) = [49, 32, 33, 51] := by
  have : litsC ([1], [3]) = [[49], [33, 51]] := by
    unfold litsC
    rw [or13]
    simp [litB, inB, dec1]
  unfold textC
  rw [this]; rfl
theorem text_ex2 : textC ([], [1]) = [33, 49] := by
  have : litsC ([], [1]) = [[33, 49]] := by
    unfold litsC
    rw [or_1]
    simp [litB, inB, dec1]
  unfold textC
  rw [this]; rfl
theorem text_ex3 : textC ([1, 3], []) = [49, 32, 51] := by
  have : litsC ([1, 3], []) = [[49], [51]] := by
    unfold litsC
    rw [or_13]
    simp [litB, inB, dec1]
  unfold textC
  rw [this]; rfl
theorem text_ex4 : textC ([1], []) = [49] := by
  have : litsC ([1], []) = [[49]] := by
    unfold litsC
    rw [or1_]
    simp [litB, inB, dec1]
  unfold textC
  rw [this]; rfl
theorem cu13_ok : CuOk ([1], [3]) := ⟨⟨by decide, by decide⟩, ⟨by decide, by decide⟩⟩
theorem minus_ex1 : minusC ([], []) ([1], [3]) = [([], [1]), ([1, 3], [])] := by decide +kernel
theorem minus_ex2 : minusC ([1], []) ([1], [3]) = [([1, 3], [])] := by decide +kernel
theorem count_ex : countC [([1], []), ([], [2])] [1, 2, 3] = 6 := by decide +kernel
theorem bytes_ex1 : BytesOf [2] [1] := by
  refine ⟨(fun h => by cases h), (fun _ => by decide), fun k hk => ?_⟩
  have : k = 0 := by simpa using hk
  subst this
  show byteOK [1] 0 2
  exact ⟨by decide, by decide⟩
theorem bytes_ex2 : BytesOf [8] [3] := by
  refine ⟨(fun h => by cases h), (fun _ => by decide), fun k hk => ?_⟩
  have : k = 0 := by simpa using hk
  subst this
  show byteOK [3] 0 8
  exact ⟨by decide, by decide⟩
theorem simple_ex {ds : List Cu} (hs : SortC ds) (h : ∀ x, x ∈ ds ↔ x ∈ ([([1, 2], []), ([1], []), ([2], [2]), ([1], [])] : List Cu)) : ds.filter (keepC ds) = [([1], [])] := by
  refine sortC_ext (hs.filter _) (by simp [SortC]) fun x => ?_
  rw [List.mem_filter, keepC_ext h, h]
  constructor
  · rintro ⟨h1, h2⟩
    simp only [List.mem_cons, List.not_mem_nil, or_false] at h1
    rcases h1 with rfl | rfl | rfl | rfl
    · revert h2; decide
    · simp
    · revert h2; decide
    · simp
  · intro h1
    rw [List.mem_singleton] at h1
    subst h1
    exact ⟨by simp, by decide⟩
set_option maxRecDepth 20000 in
theorem parse_ex (w : World) (hW : Wld w) : Calls Tryz.prog 31 #[.string ⟨#[49, 32, 33, 51]⟩] w fun e w' => ∃ a n c b m d, e = .returned (.tuple #[.agg #[.slice a n c, .slice b m d], .int .i64 0]) ∧ Cb w' ⟨a, n, c, b, m, d⟩ ([1], [3]) ∧ Below w.heap.size w w' := by
  refine (parseC_any _ (by decide) w hW).mono ?_
  rintro e w' ⟨h, hb⟩
  have hp : parseL [49, 32, 33, 51] = ([1], [3]) := by rw [← text_ex1]; exact parse_textC cu13_ok
  have ht : textC (parseL [49, 32, 33, 51]) = [49, 32, 33, 51] := by rw [hp, text_ex1]
  have hd : (⟨#[49, 32, 33, 51]⟩ : ByteArray).data.toList = [49, 32, 33, 51] := rfl
  rw [hd, if_pos ht, hp] at h
  obtain ⟨a, n, c, b, m, d, he, hc⟩ := h
  exact ⟨a, n, c, b, m, d, he, hc, hb⟩
/-- A list of so many cubes. -/
def CsP (w : World) (k : Nat) (l : List Cu) (e : Ending) (w' : World) : Prop := ∃ a c, e = .returned (.slice a k c) ∧ Cs w' a k c l ∧ Below w.heap.size w w'
theorem minus_c1 (a' b' : Option Addr) (n' c' m' d' : Nat) (w : World) (k : Cb w ⟨a', n', c', b', m', d'⟩ ([1], [3])) (hT : Tz w) :
    Calls Tryz.prog 40 #[.agg #[.slice none 0 0, .slice none 0 0], .agg #[.slice a' n' c', .slice b' m' d']] w (CsP w 2 [([], [1]), ([1, 3], [])]) := by
  refine (minusC_any none none a' b' 0 0 0 0 n' c' m' d' ([], []) ([1], [3]) w (Cb.nil w) k hT).mono ?_
  rintro e w' ⟨v, rfl, hco, hb⟩
  rw [minus_ex1] at hco
  obtain ⟨a, c, rfl, hc⟩ := hco.len
  exact ⟨a, c, rfl, hc, hb⟩
theorem minus_c2 (a b a' b' : Option Addr) (n c m d n' c' m' d' : Nat) (w : World) (h : Cb w ⟨a, n, c, b, m, d⟩ ([1], [])) (k : Cb w ⟨a', n', c', b', m', d'⟩ ([1], [3])) (hT : Tz w) :
    Calls Tryz.prog 40 #[.agg #[.slice a n c, .slice b m d], .agg #[.slice a' n' c', .slice b' m' d']] w (CsP w 1 [([1, 3], [])]) := by
  refine (minusC_any a b a' b' n c m d n' c' m' d' ([1], []) ([1], [3]) w h k hT).mono ?_
  rintro e w' ⟨v, rfl, hco, hb⟩
  rw [minus_ex2] at hco
  obtain ⟨a, c, rfl, hc⟩ := hco.len
  exact ⟨a, c, rfl, hc, hb⟩
theorem simple_c (a : Option Addr) (c : Nat) (w : World) (h : Cs w a 4 c [([1, 2], []), ([1], []), ([2], [2]), ([1], [])]) (hT : Tz w) :
    Calls Tryz.prog 43 #[.slice a 4 c] w (CsP w 1 [([1], [])]) := by
  refine (simple_any a 4 c _ w h (by omega) hT).mono ?_
  rintro e w' ⟨v, ds, rfl, hs, hm, hco, hb⟩
  rw [simple_ex hs hm] at hco
  obtain ⟨a, c, rfl, hc⟩ := hco.len
  exact ⟨a, c, rfl, hc, hb⟩
theorem count_c (a e : Option Addr) (cap k f : Nat) (w : World) (h : Cs w a 2 cap [([1], []), ([], [2])]) (hs : Bs w e k f [1, 2, 3]) (hT : Tz w) :
    Calls Tryz.prog 33 #[.slice a 2 cap, .agg #[.slice e k f]] w fun e w' => e = .returned (.tuple #[.int .i64 6, .int .i64 0]) ∧ Below w.heap.size w w' := by
  refine (count_any a e 2 cap k f _ _ w h hs hT).mono ?_
  rintro e w' ⟨rfl, hb⟩
  rw [count_ex]
  exact ⟨rfl, hb⟩
def StrP (w : World) (s : List UInt8) (e : Ending) (w' : World) : Prop := e = .returned (.string ⟨s.toArray⟩) ∧ Below w.heap.size w w'
theorem text_c1 (a b : Option Addr) (n c m d : Nat) (w : World) (h : Cb w ⟨a, n, c, b, m, d⟩ ([], [1])) (hW : Wld w) : Calls Tryz.prog 32 #[.agg #[.slice a n c, .slice b m d]] w fun e w' => e = .returned (.string ⟨#[33, 49]⟩) ∧ Below w.heap.size w w' := by
  have := textC_any a b n c m d _ w h hW.tz hW.pow
  unfold TextP at this
  rw [text_ex2] at this
  exact this
theorem text_c2 (a b : Option Addr) (n c m d : Nat) (w : World) (h : Cb w ⟨a, n, c, b, m, d⟩ ([1, 3], [])) (hW : Wld w) : Calls Tryz.prog 32 #[.agg #[.slice a n c, .slice b m d]] w fun e w' => e = .returned (.string ⟨#[49, 32, 51]⟩) ∧ Below w.heap.size w w' := by
  have := textC_any a b n c m d _ w h hW.tz hW.pow
  unfold TextP at this
  rw [text_ex3] at this
  exact this
theorem text_c3 (a b : Option Addr) (n c m d : Nat) (w : World) (h : Cb w ⟨a, n, c, b, m, d⟩ ([1], [])) (hW : Wld w) : Calls Tryz.prog 32 #[.agg #[.slice a n c, .slice b m d]] w fun e w' => e = .returned (.string ⟨#[49]⟩) ∧ Below w.heap.size w w' := by
  have := textC_any a b n c m d _ w h hW.tz hW.pow
  unfold TextP at this
  rw [text_ex4] at this
  exact this
theorem bytes_c (a b : Option Addr) (n c m d : Nat) (w : World) (h : Cb w ⟨a, n, c, b, m, d⟩ ([1], [3])) : Calls Tryz.prog 56 #[.agg #[.slice a n c, .slice b m d]] w fun e w' => ∃ b c, e = .returned (.slice b 4 c) ∧ Bw w' b 4 c [1, 2, 1, 8] ∧ Below w.heap.size w w' := by
  refine (bytesC_any a b n c m d _ [2] [8] w h bytes_ex1 bytes_ex2 (by decide) (by decide)).mono ?_
  rintro e w' ⟨v, rfl, hr, hb⟩
  obtain ⟨b, c, rfl, hw, _⟩ := row_bw hr (by decide)
  exact ⟨b, c, rfl, hw, hb⟩
theorem of_e (w : World) : Calls Tryz.prog 30 #[.slice (some ⟨w.heap.size, 0, none⟩) 2 2] (w.alloc (.cells #[.int .i64 1, .int .i64 2] 3)) (SetPost (w.alloc (.cells #[.int .i64 1, .int .i64 2] 3)) [1, 2]) :=
  of_lit w _ [1, 2] [1, 2] 2 rfl rfl (by omega) (asc_ext (asc_ofL _) ⟨by decide, by decide⟩ fun x => by rw [mem_ofL]; simp; omega)
theorem of_f (w : World) : Calls Tryz.prog 30 #[.slice (some ⟨w.heap.size, 0, none⟩) 2 2] (w.alloc (.cells #[.int .i64 1, .int .i64 3] 3)) (SetPost (w.alloc (.cells #[.int .i64 1, .int .i64 3] 3)) [1, 3]) :=
  of_lit w _ [1, 3] [1, 3] 2 rfl rfl (by omega) (asc_ext (asc_ofL _) ⟨by decide, by decide⟩ fun x => by rw [mem_ofL]; simp; omega)
theorem of_g (w : World) : Calls Tryz.prog 30 #[.slice (some ⟨w.heap.size, 0, none⟩) 3 3] (w.alloc (.cells #[.int .i64 1, .int .i64 2, .int .i64 3] 3)) (SetPost (w.alloc (.cells #[.int .i64 1, .int .i64 2, .int .i64 3] 3)) [1, 2, 3]) :=
  of_lit w _ [1, 2, 3] [1, 2, 3] 3 rfl rfl (by omega) (asc_ext (asc_ofL _) ⟨by decide, by decide⟩ fun x => by rw [mem_ofL]; simp; omega)
theorem of_bg (w : World) (g : Nat) (hg : g = w.heap.size) : Calls Tryz.prog 30 #[.slice (some ⟨g, 0, none⟩) 1 1] (w.alloc (.cells #[.int .i64 1] 3)) (SetPost (w.alloc (.cells #[.int .i64 1] 3)) [1]) := by
  subst hg; exact of_b w
theorem of_dg (w : World) (g : Nat) (hg : g = w.heap.size) : Calls Tryz.prog 30 #[.slice (some ⟨g, 0, none⟩) 1 1] (w.alloc (.cells #[.int .i64 2] 3)) (SetPost (w.alloc (.cells #[.int .i64 2] 3)) [2]) := by
  subst hg; exact of_d w
theorem of_eg (w : World) (g : Nat) (hg : g = w.heap.size) : Calls Tryz.prog 30 #[.slice (some ⟨g, 0, none⟩) 2 2] (w.alloc (.cells #[.int .i64 1, .int .i64 2] 3)) (SetPost (w.alloc (.cells #[.int .i64 1, .int .i64 2] 3)) [1, 2]) := by
  subst hg; exact of_e w
theorem of_fg (w : World) (g : Nat) (hg : g = w.heap.size) : Calls Tryz.prog 30 #[.slice (some ⟨g, 0, none⟩) 2 2] (w.alloc (.cells #[.int .i64 1, .int .i64 3] 3)) (SetPost (w.alloc (.cells #[.int .i64 1, .int .i64 3] 3)) [1, 3]) := by
  subst hg; exact of_f w
theorem of_gg (w : World) (g : Nat) (hg : g = w.heap.size) : Calls Tryz.prog 30 #[.slice (some ⟨g, 0, none⟩) 3 3] (w.alloc (.cells #[.int .i64 1, .int .i64 2, .int .i64 3] 3)) (SetPost (w.alloc (.cells #[.int .i64 1, .int .i64 2, .int .i64 3] 3)) [1, 2, 3]) := by
  subst hg; exact of_g w
theorem holds_ex1 : holdsC ([1], [3]) [1, 2] = true := by decide
theorem holds_ex2 : holdsC ([1], [3]) [1, 3] = false := by decide
end Go.Proofs.YtadomogbakcokaaGreatDoor
end

section
/- A region that asks the tape, walked by what each operation leaves: each operation once, whichever order is drawn. -/
namespace Go.Proofs.YtadomogbakcokaaGreatDoor
open Go
set_option linter.unusedVariables false
set_option linter.unusedSimpArgs false

section
variable {P : Program} {Q : Exit → Act → World → Prop}

/-- Each edge leads to an earlier operation. -/
def downOk : Nat → List Oper → Bool
  | _, [] => true
  | k, o :: r => (o.after.toList.all fun e => !Region.binds .any e || Nat.blt e.on k) && downOk (k + 1) r
theorem downOk_spec : ∀ (l : List Oper) (k : Nat), downOk k l = true → ∀ (i : Nat) o, l[i]? = some o → ∀ e ∈ o.after, Region.binds .any e = true → e.on < k + i
  | [], _, _, i, o, h, _, _, _ => by simp at h
  | x :: l, k, hd, i, o, h, e, he, hb => by
    unfold downOk at hd
    rw [Bool.and_eq_true, List.all_eq_true] at hd
    match i, h with
    | 0, h =>
      simp at h
      subst h
      have := hd.1 e (by simpa using he)
      rw [hb, Bool.not_true, Bool.false_or] at this
      rw [Nat.add_zero]
      exact Nat.le_of_ble_eq_true this
    | i + 1, h =>
      have := downOk_spec l (k + 1) hd.2 i o (by simpa using h) e he hb
      omega
theorem least_of {p : Nat → Prop} : ∀ n, p n → ∃ m, p m ∧ ∀ j, j < m → ¬ p j := by
  intro n
  induction n using Nat.strongRecOn with
  | _ n ih =>
    intro hp
    by_cases h : ∃ j, j < n ∧ p j
    · obtain ⟨j, hj, hpj⟩ := h
      exact ih j hj hpj
    · exact ⟨n, hp, fun j hj hpj => h ⟨j, hj, hpj⟩⟩
theorem getD_tf {listed : Array Bool} {j : Nat} (hj : j < listed.size) (h : ¬ listed.getD j true = false) : listed.getD j false = true := by
  simp [Array.getD, hj] at h ⊢; exact h
theorem ready_some {l : List Oper} {listed : Array Bool} (hd : downOk 0 l = true) (hs : listed.size = l.length) (i : Nat) (h : listed.getD i true = false) : Region.ready .any l.toArray listed ≠ [] := by
  obtain ⟨m, hm, hlt⟩ := least_of (p := fun j => listed.getD j true = false) i h
  have hms : m < listed.size := by
    by_cases hx : m < listed.size
    · exact hx
    · simp [Array.getD, hx] at hm
  have hml : m < l.length := by rw [← hs]; exact hms
  intro e
  have : m ∈ Region.ready .any l.toArray listed := mem_ready.2 ⟨hm, l[m], by simp [hml], fun e he hb => by
    have h1 := downOk_spec l 0 hd m l[m] (List.getElem?_eq_getElem hml) e he hb
    exact getD_tf (by omega) (hlt e.on (by omega))⟩
  rw [e] at this
  cases this

theorem any_of_inv {l : List Oper} (hd : downOk 0 l = true) (Inv : (Nat → Bool) → Act → World → Prop)
    (hstep : ∀ (i : Nat) o, l[i]? = some o → ∀ f a w, (∀ e ∈ o.after, Region.binds .any e = true → f e.on = true) → Inv f a w → wpOp P l.toArray Q i (fun a' w' => Inv (fun j => f j || Nat.beq j i) a' w') a w)
    (hend : ∀ f a w, (∀ i, i < l.length → f i = true) → Inv f a w → Q .normal a w) :
    ∀ (fuel : Nat) (unl : List Nat) (listed : Array Bool) (a : Act) (w : World), unl.Nodup → unl.length = fuel → listed.size = l.length → (∀ j, listed.getD j true = false ↔ j ∈ unl) → Inv (fun j => listed.getD j false) a w → wpAny P .any l.toArray Q fuel listed a w := by
  intro fuel
  induction fuel with
  | zero =>
    intro unl listed a w hn hf hs hu hI
    have hnil : unl = [] := List.eq_nil_of_length_eq_zero hf
    subst hnil
    refine ⟨?_, hend _ a w (fun i hi => getD_tf (by omega) (fun h => by have := (hu i).1 h; cases this)) hI⟩
    rw [List.eq_nil_iff_forall_not_mem]
    intro j hj
    have := (hu j).1 (mem_ready.1 hj).1
    cases this
  | succ fuel ih =>
    intro unl listed a w hn hf hs hu hI
    have hne : ∃ i, i ∈ unl := by
      cases unl with
      | nil => simp at hf
      | cons x r => exact ⟨x, by simp⟩
    obtain ⟨i0, hi0⟩ := hne
    refine ⟨fun h => absurd h (ready_some hd hs i0 ((hu i0).2 hi0)), fun i hi => ?_⟩
    obtain ⟨h0, o, ho, hall⟩ := mem_ready.1 hi
    have hiu := (hu i).1 h0
    refine wpOp_mono (fun a' w' h' => ?_) (hstep i o (by simpa using ho) _ a w hall hI)
    refine ih (unl.erase i) (listed.setIfInBounds i true) a' w' (hn.erase _) (by rw [List.length_erase_of_mem hiu, hf]; rfl) (by simpa using hs) (fun j => ?_) ?_
    · rw [hn.mem_erase_iff]
      by_cases hij : i = j
      · subst hij
        constructor
        · intro h
          exfalso
          by_cases hx : i < listed.size
          · simp [Array.getD, hx] at h
          · simp [Array.getD, hx] at h
        · exact fun h => absurd rfl h.1
      · rw [getD_set_ne true hij, hu j]
        exact ⟨fun h => ⟨fun e => hij e.symm, h⟩, fun h => h.2⟩
    · have e : (fun j => (listed.setIfInBounds i true).getD j false) = fun j => listed.getD j false || Nat.beq j i := by
        funext j
        by_cases hij : i = j
        · subst hij
          have hx : i < listed.size := by
            by_cases hx : i < listed.size
            · exact hx
            · simp [Array.getD, hx] at h0
          rw [Nat.beq_refl, Bool.or_true]
          simp [Array.getD, hx]
        · rw [getD_set_ne false hij]
          have : Nat.beq j i = false := by
            rw [← Bool.not_eq_true]
            intro h
            exact hij (Nat.eq_of_beq_eq_true h).symm
          rw [this, Bool.or_false]
      rw [e]
      exact h'

/-- What the operations have left: vs are their values. -/
def InvL (Ds : List (Value → World → Prop)) (mk : List Value → Act) (R : World → Prop) (f : Nat → Bool) (a : Act) (w : World) : Prop :=
  ∃ vs : List Value, a = mk vs ∧ vs.length = Ds.length ∧ R w ∧ ∀ j, f j = true → ∀ D, Ds[j]? = some D → D (vs.getD j undef) w
def depsOk (o : Oper) (deps : List Nat) : Bool := deps.all fun d => o.after.toList.any fun e => Region.binds .any e && Nat.beq e.on d
/-- One operation. -/
def StepL (P : Program) (l : List Oper) (Q : Exit → Act → World → Prop) (Ds : List (Value → World → Prop)) (mk : List Value → Act) (R : World → Prop) (T : World → World → Prop) (i : Nat) (o : Oper) : Prop :=
  ∃ deps, depsOk o deps = true ∧ ∀ vs w, vs.length = Ds.length → R w → (∀ j ∈ deps, ∀ D, Ds[j]? = some D → D (vs.getD j undef) w) →
    ∀ K : Act → World → Prop, Shut (∀ v w', T w w' → R w' → (∀ D, Ds[i]? = some D → D v w') → K (mk (vs.set i v)) w') →
      if Region.wanted o (yielded l.toArray (mk vs).tmps) = true then Oper.wp P o (mk vs) w K Q else K ((mk vs).put o.dst undef) w
def StepsL (P : Program) (l : List Oper) (Q : Exit → Act → World → Prop) (Ds : List (Value → World → Prop)) (mk : List Value → Act) (R : World → Prop) (T : World → World → Prop) : Nat → List Oper → Prop
  | _, [] => True
  | k, o :: r => StepL P l Q Ds mk R T k o ∧ StepsL P l Q Ds mk R T (k + 1) r
theorem stepsL_at {l : List Oper} {Ds : List (Value → World → Prop)} {mk : List Value → Act} {R : World → Prop} {T : World → World → Prop} : ∀ (r : List Oper) (k : Nat), StepsL P l Q Ds mk R T k r → ∀ (i : Nat) o, r[i]? = some o → StepL P l Q Ds mk R T (k + i) o
  | [], _, _, i, o, h => by simp at h
  | x :: r, k, hs, i, o, h => by
    match i, h with
    | 0, h =>
      simp at h
      subst h
      exact hs.1
    | i + 1, h =>
      have := stepsL_at r (k + 1) hs.2 i o (by simpa using h)
      rwa [show k + 1 + i = k + (i + 1) by omega] at this
theorem region_inv {l : List Oper} {id : Nat} {a : Act} {w : World} (Ds : List (Value → World → Prop)) (mk : List Value → Act) (R : World → Prop) (T : World → World → Prop) (hm : P.follows .mixedOrders = true) (hd : downOk 0 l = true) (hlen : l.length = Ds.length)
    (vs0 : List Value) (ha : a = mk vs0) (hl0 : vs0.length = Ds.length) (hR : R w.drew)
    (hst : ∀ (j : Nat) D, Ds[j]? = some D → ∀ v w w', T w w' → D v w → D v w')
    (hsteps : StepsL P l Q Ds mk R T 0 l)
    (hend : ∀ vs w, vs.length = Ds.length → R w → (∀ (j : Nat) D, Ds[j]? = some D → D (vs.getD j undef) w) → Q .normal (mk vs) w) :
    (Code.region id l.toArray true).wp P Q a w := by
  refine wp_region_any hm ?_
  refine any_of_inv hd (InvL Ds mk R) ?_ ?_ _ (List.range l.length) _ a _ List.nodup_range (by simp) (by simp) (fun j => ?_) ?_
  · intro i o ho f a w hf hI
    obtain ⟨vs, rfl, hvl, hRw, hD⟩ := hI
    have hsi := stepsL_at l 0 hsteps i o ho
    rw [Nat.zero_add] at hsi
    obtain ⟨deps, hdp, hh⟩ := hsi
    have hil : i < vs.length := by rw [hvl, ← hlen]; exact (List.getElem?_eq_some_iff.1 ho).1
    refine wpOp_step (by simpa using ho) (fun K' hK => hh vs w hvl hRw (fun j hj D hDj => ?_) K' (fun v w' hT hR' hDi => hK _ _ ⟨vs.set i v, rfl, by rw [List.length_set]; exact hvl, hR', fun j hj D hDj => ?_⟩))
    · unfold depsOk at hdp
      rw [List.all_eq_true] at hdp
      have h1 := hdp j hj
      rw [List.any_eq_true] at h1
      obtain ⟨e, he, hb⟩ := h1
      rw [Bool.and_eq_true] at hb
      have h2 := hf e (by simpa using he) hb.1
      rw [Nat.eq_of_beq_eq_true hb.2] at h2
      exact hD j h2 D hDj
    · by_cases hij : j = i
      · subst hij
        rw [List.getD_eq_getElem?_getD, List.getElem?_set_self hil]
        exact hDi D hDj
      · rw [List.getD_eq_getElem?_getD, List.getElem?_set_ne (fun e => hij e.symm), ← List.getD_eq_getElem?_getD]
        have hbf : Nat.beq j i = false := by
          rw [← Bool.not_eq_true]
          intro h
          exact hij (Nat.eq_of_beq_eq_true h)
        dsimp only at hj
        rw [hbf, Bool.or_false] at hj
        exact hst j D hDj _ _ _ hT (hD j hj D hDj)
  · intro f a w hf hI
    obtain ⟨vs, rfl, hvl, hRw, hD⟩ := hI
    exact hend vs w hvl hRw (fun j D hDj => hD j (hf j (by rw [hlen]; exact (List.getElem?_eq_some_iff.1 hDj).1)) D hDj)
  · rw [List.mem_range]
    by_cases hj : j < l.length
    · simp [Array.getD, hj]
    · simp [Array.getD, hj]
  · refine ⟨vs0, ha, hl0, hR, fun j hj => ?_⟩
    exfalso
    by_cases hx : j < l.length
    · simp [Array.getD, hx] at hj
    · simp [Array.getD, hx] at hj

/-- The slots of the operations, filled. -/
def puts : Act → List Nat → List Value → Act
  | a, d :: ds, v :: vs => puts (a.put (some d) v) ds vs
  | a, _, _ => a
theorem len_succ {vs : List Value} {n : Nat} (h : vs.length = n + 1) : ∃ v r, vs = v :: r ∧ r.length = n := by
  cases vs with
  | nil => simp at h
  | cons v r => exact ⟨v, r, rfl, by simpa using h⟩
theorem len_zero {vs : List Value} (h : vs.length = 0) : vs = [] := List.eq_nil_of_length_eq_zero h
/-- The region, its slots named. -/
theorem region_slots {l : List Oper} {id : Nat} {a : Act} {w : World} (dsts : List Nat) (Ds : List (Value → World → Prop)) (R : World → Prop) (T : World → World → Prop) (hm : P.follows .mixedOrders = true) (hd : downOk 0 l = true) (hlen : l.length = Ds.length)
    (vs0 : List Value) (ha : a = puts a dsts vs0) (hl0 : vs0.length = Ds.length) (hR : R w.drew)
    (hst : ∀ (j : Nat) D, Ds[j]? = some D → ∀ v w w', T w w' → D v w → D v w')
    (hsteps : StepsL P l Q Ds (puts a dsts) R T 0 l)
    (hend : ∀ vs w, vs.length = Ds.length → R w → (∀ (j : Nat) D, Ds[j]? = some D → D (vs.getD j undef) w) → Q .normal (puts a dsts vs) w) :
    (Code.region id l.toArray true).wp P Q a w :=
  region_inv Ds (puts a dsts) R T hm hd hlen vs0 ha hl0 hR hst hsteps hend
end
end Go.Proofs.YtadomogbakcokaaGreatDoor
end
