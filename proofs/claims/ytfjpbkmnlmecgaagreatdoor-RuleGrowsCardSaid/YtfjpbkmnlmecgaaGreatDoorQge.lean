/- Several of the texts below, joined: Reg Inv Rin DaBox. -/
import Derived.Deep.RegionHeld3
import Derived.RangeFuncCalls
import Derived.OrdersIn
import Derived.Handy
import Derived.PlainAid
import Derived.Lib.Hide
import Derived.WalkSmall
section
/- A region that asks the tape, walked in ONE order: one closed check of the whole region shows that any other order comes to the same. -/
namespace Go.Proofs.YtfjpbkmnlmecgaaGreatDoor
open Go
set_option linter.unusedVariables false
set_option linter.unusedSimpArgs false

section
variable {P : Program} {l : List Oper} {Q : Exit → Act → World → Prop} {S : World → Prop}

/-- Operations that yield a value and change nothing. -/
def lightOp (o : Oper) : Bool := match o.op with
  | .load .. => true
  | .move .. => true
  | .pick .. => true
  | .unOp .. => true
  | .binOp .. => true
  | .fieldAddr .. => true
  | .indexAddr .. => true
  | .build .. => true
  | .convert .. => true
  | .assign .. => true
  | .call c => match c.callee with
    | .builtin .len => true
    | .builtin .min => true
    | .builtin .max => true
    | _ => false
  | _ => false

def waitsOn (o : Oper) (l : List Nat) : Bool := o.after.toList.any fun e => Region.binds .any e && l.any fun x => Nat.beq x e.on
def paidBy (o : Oper) (l : List Nat) : Bool := o.after.toList.all fun e => !Region.binds .any e || l.any fun x => Nat.beq x e.on

theorem waitsOn_spec {o : Oper} {x : List Nat} : waitsOn o x = true ↔ ∃ e ∈ o.after, Region.binds .any e = true ∧ e.on ∈ x := by
  unfold waitsOn
  rw [List.any_eq_true]
  constructor
  · rintro ⟨e, he, h⟩
    rw [Bool.and_eq_true, List.any_eq_true] at h
    obtain ⟨hb, y, hy, h⟩ := h
    exact ⟨e, by simpa using he, hb, by rw [← Nat.eq_of_beq_eq_true h]; exact hy⟩
  · rintro ⟨e, he, hb, hy⟩
    refine ⟨e, by simpa using he, ?_⟩
    rw [Bool.and_eq_true, List.any_eq_true]
    exact ⟨hb, e.on, hy, Nat.beq_refl _⟩

theorem paidBy_spec {o : Oper} {x : List Nat} (h : paidBy o x = true) : ∀ e ∈ o.after, Region.binds .any e = true → e.on ∈ x := by
  unfold paidBy at h
  rw [List.all_eq_true] at h
  intro e he hb
  have := h e (by simpa using he)
  rw [hb, Bool.not_true, Bool.false_or, List.any_eq_true] at this
  obtain ⟨y, hy, h⟩ := this
  rw [← Nat.eq_of_beq_eq_true h]
  exact hy

theorem waitsOn_mono {o : Oper} {x y : List Nat} (h : ∀ i ∈ x, i ∈ y) (hw : waitsOn o x = true) : waitsOn o y = true := by
  obtain ⟨e, he, hb, hx⟩ := waitsOn_spec.1 hw
  exact waitsOn_spec.2 ⟨e, he, hb, h _ hx⟩

def orderOk (l : List Oper) : List Nat → List Nat → List Nat → Bool
  | _, _, [] => true
  | done, cur, i :: rest => match l[i]? with
    | none => false
    | some o => paidBy o done && (cur.isEmpty || waitsOn o cur) && !(rest.any fun j => Nat.beq j i) &&
      (match lightOp o with
       | true => (rest.all fun j => match l[j]? with
          | none => false
          | some oj => waitsOn oj [i] || o.apart l.toArray oj) && orderOk l (i :: done) (match cur.isEmpty with | true => [] | false => i :: cur) rest
       | false => orderOk l (i :: done) [i] rest)

theorem orderOk_cons {done cur : List Nat} {i : Nat} {rest : List Nat} (h : orderOk l done cur (i :: rest) = true) :
    ∃ o, l[i]? = some o ∧ (∀ e ∈ o.after, Region.binds .any e = true → e.on ∈ done) ∧ (cur = [] ∨ waitsOn o cur = true) ∧ i ∉ rest ∧
      ((lightOp o = true ∧ (∀ j ∈ rest, ∀ oj, l[j]? = some oj → waitsOn oj [i] = true ∨ o.apart l.toArray oj = true) ∧ orderOk l (i :: done) (match cur.isEmpty with | true => [] | false => i :: cur) rest = true) ∨
       (lightOp o = false ∧ orderOk l (i :: done) [i] rest = true)) := by
  unfold orderOk at h
  split at h
  · exact absurd h (by simp)
  · rename_i o ho
    rw [Bool.and_eq_true, Bool.and_eq_true, Bool.and_eq_true] at h
    obtain ⟨⟨⟨h1, h2⟩, h3⟩, h4⟩ := h
    refine ⟨o, ho, paidBy_spec h1, ?_, ?_, ?_⟩
    · rw [Bool.or_eq_true] at h2
      exact h2.imp (fun h => List.isEmpty_iff.1 h) id
    · intro hi
      rw [Bool.not_eq_true', List.any_eq_false] at h3
      exact h3 i hi (Nat.beq_refl _)
    · cases hl : lightOp o with
      | true =>
        rw [hl] at h4
        simp only [Bool.and_eq_true, List.all_eq_true] at h4
        refine .inl ⟨rfl, fun j hj oj hoj => ?_, h4.2⟩
        have := h4.1 j hj
        rw [hoj] at this
        simpa using this
      | false =>
        rw [hl] at h4
        exact .inr ⟨rfl, h4⟩

theorem order_wait {X : List Nat} : ∀ (L done cur : List Nat), orderOk l done cur L = true → cur ≠ [] → (∀ x ∈ cur, x ∈ X) → (∀ x ∈ L, x ∈ X) →
    ∀ j ∈ L, ∀ oj, l[j]? = some oj → waitsOn oj X = true := by
  intro L
  induction L with
  | nil => intro _ _ _ _ _ _ j hj; cases hj
  | cons i rest ih =>
    intro done cur h hne hc hL j hj oj hoj
    obtain ⟨o, ho, hp, hw, hni, hh⟩ := orderOk_cons h
    rcases List.mem_cons.1 hj with rfl | hj
    · have : oj = o := by rw [ho] at hoj; exact (Option.some.inj hoj).symm
      subst this
      rcases hw with hw | hw
      · exact absurd hw hne
      · exact waitsOn_mono hc hw
    · have hX : ∀ x ∈ rest, x ∈ X := fun x hx => hL x (List.mem_cons_of_mem _ hx)
      have hiX : i ∈ X := hL i (List.mem_cons_self ..)
      rcases hh with ⟨-, -, h'⟩ | ⟨-, h'⟩
      · cases cur with
        | nil => exact absurd rfl hne
        | cons c cs =>
          refine ih _ _ h' (by simp) ?_ hX j hj oj hoj
          intro x hx
          rcases List.mem_cons.1 hx with rfl | hx
          · exact hiX
          · exact hc x hx
      · refine ih _ _ h' (by simp) ?_ hX j hj oj hoj
        intro x hx
        rw [List.mem_singleton] at hx
        rw [hx]; exact hiX

/-- The operations in the given order: a light one yields its value from S; behind any other S is shown anew. -/
def wpOrd (P : Program) (l : List Oper) (Q : Exit → Act → World → Prop) (S : World → Prop) : List Nat → Act → World → Prop
  | [], a, w => Q .normal a w
  | i :: rest, a, w => match l[i]? with
    | none => True
    | some o => match lightOp o with
      | true => ∃ v, YieldsIf P l.toArray S o v a ∧ wpOrd P l Q S rest (a.put o.dst v) w
      | false => wpOp P l.toArray Q i (fun a' w' => S w' ∧ wpOrd P l Q S rest a' w') a w

theorem ord_nil {a : Act} {w : World} (h : Q .normal a w) : wpOrd P l Q S [] a w := h

theorem ord_light {i : Nat} {o : Oper} {rest : List Nat} {a : Act} {w : World} {v : Value} (ho : l[i]? = some o) (hl : lightOp o = true)
    (hw : Region.wanted o (yielded l.toArray a.tmps) = true) (hv : ∀ w, S w → (execOp a.eval o).run P w = .ok (.value v) w)
    (h : wpOrd P l Q S rest (a.put o.dst v) w) : wpOrd P l Q S (i :: rest) a w := by
  unfold wpOrd
  rw [ho]
  show (match lightOp o with
      | true => ∃ v, YieldsIf P l.toArray S o v a ∧ wpOrd P l Q S rest (a.put o.dst v) w
      | false => wpOp P l.toArray Q i (fun a' w' => S w' ∧ wpOrd P l Q S rest a' w') a w)
  rw [hl]
  exact ⟨v, .inl ⟨hw, hv⟩, h⟩

/-- A light operation that its guard leaves out. -/
theorem ord_skip {i : Nat} {o : Oper} {rest : List Nat} {a : Act} {w : World} (ho : l[i]? = some o) (hl : lightOp o = true)
    (hw : Region.wanted o (yielded l.toArray a.tmps) = false)
    (h : wpOrd P l Q S rest (a.put o.dst undef) w) : wpOrd P l Q S (i :: rest) a w := by
  unfold wpOrd
  rw [ho]
  show (match lightOp o with
      | true => ∃ v, YieldsIf P l.toArray S o v a ∧ wpOrd P l Q S rest (a.put o.dst v) w
      | false => wpOp P l.toArray Q i (fun a' w' => S w' ∧ wpOrd P l Q S rest a' w') a w)
  rw [hl]
  exact ⟨undef, .inr ⟨hw, rfl⟩, h⟩

theorem ord_heavy {i : Nat} {o : Oper} {rest : List Nat} {a : Act} {w : World} (ho : l[i]? = some o) (hl : lightOp o = false)
    (h : ∀ K' : Act → World → Prop, Shut (∀ a w, S w → wpOrd P l Q S rest a w → K' a w) → if Region.wanted o (yielded l.toArray a.tmps) = true then Oper.wp P o a w K' Q else K' (a.put o.dst undef) w) :
    wpOrd P l Q S (i :: rest) a w := by
  unfold wpOrd
  rw [ho]
  show (match lightOp o with
      | true => ∃ v, YieldsIf P l.toArray S o v a ∧ wpOrd P l Q S rest (a.put o.dst v) w
      | false => wpOp P l.toArray Q i (fun a' w' => S w' ∧ wpOrd P l Q S rest a' w') a w)
  rw [hl]
  exact wpOp_step (by simpa using ho) (fun K' hK => h K' (fun a w hS hW => hK a w ⟨hS, hW⟩))

theorem getD_set_self {listed : Array Bool} {i : Nat} : (listed.setIfInBounds i true).getD i true = true := by
  by_cases h : i < listed.size
  · simp [Array.getD, h]
  · simp [Array.getD, h]

theorem getD_in {listed : Array Bool} {i : Nat} (h : listed.getD i true = false) : (listed.setIfInBounds i true).getD i false = true := by
  by_cases h' : i < listed.size
  · simp [Array.getD, h']
  · simp [Array.getD, h'] at h

theorem getD_not {listed : Array Bool} {i : Nat} (h : listed.getD i true = false) : ¬ listed.getD i false = true := by
  by_cases h' : i < listed.size
  · simp [Array.getD, h'] at h ⊢; exact h
  · simp [Array.getD, h'] at h

theorem any_of_ord (hsel : Region.noSelect l.toArray = true) (hQ : ∀ c a d v w, Q (.panic c) (a.put d v) w → Q (.panic c) a w) :
    ∀ (L done cur : List Nat) (listed : Array Bool) (a : Act) (w : World), orderOk l done cur L = true →
      (∀ j, listed.getD j true = false ↔ j ∈ L) → (∀ j ∈ done, listed.getD j false = true) → S w →
      wpOrd P l Q S L a w → wpAnyH P .any l.toArray Q S L.length listed a w := by
  intro L
  induction L with
  | nil =>
    intro done cur listed a w _ hr _ _ h
    refine wpAnyH_done ?_ h _
    rw [List.eq_nil_iff_forall_not_mem]
    intro j hj
    have := (hr j).1 (mem_ready.1 hj).1
    cases this
  | cons i rest ih =>
    intro done cur listed a w hok hr hd hS h
    obtain ⟨o, ho, hp, hw, hni, hh⟩ := orderOk_cons hok
    have hoA : l.toArray[i]? = some o := by simpa using ho
    have hi0 : listed.getD i true = false := (hr i).2 (List.mem_cons_self ..)
    have hready : i ∈ Region.ready .any l.toArray listed := mem_ready.2 ⟨hi0, o, hoA, fun e he hb => hd _ (hp e he hb)⟩
    have hr' : ∀ j, (listed.setIfInBounds i true).getD j true = false ↔ j ∈ rest := by
      intro j
      by_cases hij : i = j
      · subst hij
        rw [getD_set_self]
        exact ⟨fun h => (by cases h), fun h => absurd h hni⟩
      · rw [getD_set_ne true hij, hr j, List.mem_cons]
        exact ⟨fun h => h.resolve_left (fun h => hij h.symm), .inr⟩
    have hd' : ∀ j ∈ i :: done, (listed.setIfInBounds i true).getD j false = true := by
      intro j hj
      rcases List.mem_cons.1 hj with rfl | hj
      · exact getD_in hi0
      · exact getD_set_true (hd j hj)
    unfold wpOrd at h
    rw [ho] at h
    rcases hh with ⟨hl, hfree, hrest⟩ | ⟨hl, hrest⟩
    · simp only [hl] at h
      obtain ⟨v, hy, h⟩ := h
      refine wpAnyH_first hoA (Region.noSelect_spec hsel) (fun c a w => hQ c a _ v w) rest.length listed a w ?_ hready hy hS (ih _ _ _ _ _ hrest hr' hd' hS h)
      intro j oj hoj hji hun hno
      have hj : j ∈ rest := by
        have := (hr j).1 hun
        exact (List.mem_cons.1 this).resolve_left hji
      rcases hfree j hj oj (by simpa using hoj) with hwt | hap
      · obtain ⟨e, he, hb, hx⟩ := waitsOn_spec.1 hwt
        exact absurd (List.mem_singleton.1 hx) (hno e he hb)
      · exact hap
    · simp only [hl] at h
      refine ⟨fun h0 => (by rw [h0] at hready; cases hready), fun j hj => ?_⟩
      have hjeq : j = i := by
        obtain ⟨hj0, oj, hoj, hall⟩ := mem_ready.1 hj
        by_cases hji : j = i
        · exact hji
        · exfalso
          have hjr : j ∈ rest := (List.mem_cons.1 ((hr j).1 hj0)).resolve_left hji
          have hwt := order_wait (X := i :: rest) rest _ _ hrest (by simp) (fun x hx => by rw [List.mem_singleton] at hx; rw [hx]; exact List.mem_cons_self ..)
            (fun x hx => List.mem_cons_of_mem _ hx) j hjr oj (by simpa using hoj)
          obtain ⟨e, he, hb, hx⟩ := waitsOn_spec.1 hwt
          exact getD_not ((hr e.on).2 hx) (hall e he hb)
      subst hjeq
      exact wpOp_mono (fun a' w' h' => ⟨h'.1, ih _ _ _ _ _ hrest hr' hd' h'.1 h'.2⟩) h

/-- The closed check of the whole region. -/
def regionOk (l : List Oper) (order : List Nat) : Bool :=
  orderOk l [] [] order && Region.noSelect l.toArray && Nat.beq order.length l.length && (List.range l.length).all fun i => order.any fun j => Nat.beq j i

theorem orderOk_lt : ∀ (L done cur : List Nat), orderOk l done cur L = true → ∀ j ∈ L, j < l.length := by
  intro L
  induction L with
  | nil => intro _ _ _ j hj; cases hj
  | cons i rest ih =>
    intro done cur h j hj
    obtain ⟨o, ho, -, -, -, hh⟩ := orderOk_cons h
    rcases List.mem_cons.1 hj with rfl | hj
    · exact (List.getElem?_eq_some_iff.1 ho).1
    · rcases hh with ⟨-, -, h'⟩ | ⟨-, h'⟩
      · exact ih _ _ h' j hj
      · exact ih _ _ h' j hj

theorem region_ord {id : Nat} {a : Act} {w : World} (order : List Nat) (hm : P.follows .mixedOrders = true) (hok : regionOk l order = true)
    (hQ : ∀ c a d v w, Q (.panic c) (a.put d v) w → Q (.panic c) a w) (hS : S w.drew) (h : S w.drew → wpOrd P l Q S order a w.drew) :
    (Code.region id l.toArray true).wp P Q a w := by
  unfold regionOk at hok
  rw [Bool.and_eq_true, Bool.and_eq_true, Bool.and_eq_true] at hok
  obtain ⟨⟨⟨h1, h2⟩, h3⟩, h4⟩ := hok
  refine wp_region_held (S := S) hm ?_
  have hlen : l.toArray.size = order.length := by
    rw [List.size_toArray]; exact (Nat.eq_of_beq_eq_true h3).symm
  rw [hlen]
  refine any_of_ord h2 hQ order [] [] _ a _ h1 ?_ (fun j hj => by cases hj) hS (h hS)
  intro j
  rw [← hlen, List.size_toArray]
  constructor
  · intro hj
    have hlt : j < l.length := by
      by_cases hlt : j < l.length
      · exact hlt
      · simp [Array.getD, hlt] at hj
    rw [List.all_eq_true] at h4
    have := h4 j (List.mem_range.2 hlt)
    rw [List.any_eq_true] at this
    obtain ⟨y, hy, he⟩ := this
    rw [← Nat.eq_of_beq_eq_true he]; exact hy
  · intro hj
    have hlt := orderOk_lt order [] [] h1 j hj
    simp [Array.getD, hlt]
end
end Go.Proofs.YtfjpbkmnlmecgaaGreatDoor
end

section
/- A region that asks the tape, walked by what each operation leaves: each operation once, whichever order is drawn. -/
namespace Go.Proofs.YtfjpbkmnlmecgaaGreatDoor
open Go
set_option linter.unusedVariables false
set_option linter.unusedSimpArgs false

section
variable {P : Program} {Q : Exit → Act → World → Prop}

/-- Each edge leads to an earlier operation. -/
def downOk : Nat → List Oper → Bool
  | _, [] => true
  | k, o :: r => (o.after.toList.all fun e => !Region.binds .any e || Nat.blt e.on k) && downOk (k + 1) r
theorem downOk_spec : ∀ (l : List Oper) (k : Nat), downOk k l = true → ∀ (i : Nat) o, l[i]? = some o → ∀ e ∈ o.after, Region.binds .any e = true → e.on < k + i
  | [], _, _, i, o, h, _, _, _ => by simp at h
  | x :: l, k, hd, i, o, h, e, he, hb => by
    unfold downOk at hd
    rw [Bool.and_eq_true, List.all_eq_true] at hd
    match i, h with
    | 0, h =>
      simp at h
      subst h
      have := hd.1 e (by simpa using he)
      rw [hb, Bool.not_true, Bool.false_or] at this
      rw [Nat.add_zero]
      exact Nat.le_of_ble_eq_true this
    | i + 1, h =>
      have := downOk_spec l (k + 1) hd.2 i o (by simpa using h) e he hb
      omega
theorem least_of {p : Nat → Prop} : ∀ n, p n → ∃ m, p m ∧ ∀ j, j < m → ¬ p j := by
  intro n
  induction n using Nat.strongRecOn with
  | _ n ih =>
    intro hp
    by_cases h : ∃ j, j < n ∧ p j
    · obtain ⟨j, hj, hpj⟩ := h
      exact ih j hj hpj
    · exact ⟨n, hp, fun j hj hpj => h ⟨j, hj, hpj⟩⟩
theorem getD_tf {listed : Array Bool} {j : Nat} (hj : j < listed.size) (h : ¬ listed.getD j true = false) : listed.getD j false = true := by
  simp [Array.getD, hj] at h ⊢; exact h
theorem ready_some {l : List Oper} {listed : Array Bool} (hd : downOk 0 l = true) (hs : listed.size = l.length) (i : Nat) (h : listed.getD i true = false) : Region.ready .any l.toArray listed ≠ [] := by
  obtain ⟨m, hm, hlt⟩ := least_of (p := fun j => listed.getD j true = false) i h
  have hms : m < listed.size := by
    by_cases hx : m < listed.size
    · exact hx
    · simp [Array.getD, hx] at hm
  have hml : m < l.length := by rw [← hs]; exact hms
  intro e
  have : m ∈ Region.ready .any l.toArray listed := mem_ready.2 ⟨hm, l[m], by simp [hml], fun e he hb => by
    have h1 := downOk_spec l 0 hd m l[m] (List.getElem?_eq_getElem hml) e he hb
    exact getD_tf (by omega) (hlt e.on (by omega))⟩
  rw [e] at this
  cases this

theorem any_of_inv {l : List Oper} (hd : downOk 0 l = true) (Inv : (Nat → Bool) → Act → World → Prop)
    (hstep : ∀ (i : Nat) o, l[i]? = some o → ∀ f a w, (∀ e ∈ o.after, Region.binds .any e = true → f e.on = true) → Inv f a w → wpOp P l.toArray Q i (fun a' w' => Inv (fun j => f j || Nat.beq j i) a' w') a w)
    (hend : ∀ f a w, (∀ i, i < l.length → f i = true) → Inv f a w → Q .normal a w) :
    ∀ (fuel : Nat) (unl : List Nat) (listed : Array Bool) (a : Act) (w : World), unl.Nodup → unl.length = fuel → listed.size = l.length → (∀ j, listed.getD j true = false ↔ j ∈ unl) → Inv (fun j => listed.getD j false) a w → wpAny P .any l.toArray Q fuel listed a w := by
  intro fuel
  induction fuel with
  | zero =>
    intro unl listed a w hn hf hs hu hI
    have hnil : unl = [] := List.eq_nil_of_length_eq_zero hf
    subst hnil
    refine ⟨?_, hend _ a w (fun i hi => getD_tf (by omega) (fun h => by have := (hu i).1 h; cases this)) hI⟩
    rw [List.eq_nil_iff_forall_not_mem]
    intro j hj
    have := (hu j).1 (mem_ready.1 hj).1
    cases this
  | succ fuel ih =>
    intro unl listed a w hn hf hs hu hI
    have hne : ∃ i, i ∈ unl := by
      cases unl with
      | nil => simp at hf
      | cons x r => exact ⟨x, by simp⟩
    obtain ⟨i0, hi0⟩ := hne
    refine ⟨fun h => absurd h (ready_some hd hs i0 ((hu i0).2 hi0)), fun i hi => ?_⟩
    obtain ⟨h0, o, ho, hall⟩ := mem_ready.1 hi
    have hiu := (hu i).1 h0
    refine wpOp_mono (fun a' w' h' => ?_) (hstep i o (by simpa using ho) _ a w hall hI)
    refine ih (unl.erase i) (listed.setIfInBounds i true) a' w' (hn.erase _) (by rw [List.length_erase_of_mem hiu, hf]; rfl) (by simpa using hs) (fun j => ?_) ?_
    · rw [hn.mem_erase_iff]
      by_cases hij : i = j
      · subst hij
        constructor
        · intro h
          exfalso
          by_cases hx : i < listed.size
          · simp [Array.getD, hx] at h
          · simp [Array.getD, hx] at h
        · exact fun h => absurd rfl h.1
      · rw [getD_set_ne true hij, hu j]
        exact ⟨fun h => ⟨fun e => hij e.symm, h⟩, fun h => h.2⟩
    · have e : (fun j => (listed.setIfInBounds i true).getD j false) = fun j => listed.getD j false || Nat.beq j i := by
        funext j
        by_cases hij : i = j
        · subst hij
          have hx : i < listed.size := by
            by_cases hx : i < listed.size
            · exact hx
            · simp [Array.getD, hx] at h0
          rw [Nat.beq_refl, Bool.or_true]
          simp [Array.getD, hx]
        · rw [getD_set_ne false hij]
          have : Nat.beq j i = false := by
            rw [← Bool.not_eq_true]
            intro h
            exact hij (Nat.eq_of_beq_eq_true h).symm
          rw [this, Bool.or_false]
      rw [e]
      exact h'

/-- What the operations have left: vs are their values. -/
def InvL (Ds : List (Value → World → Prop)) (mk : List Value → Act) (R : World → Prop) (f : Nat → Bool) (a : Act) (w : World) : Prop :=
  ∃ vs : List Value, a = mk vs ∧ vs.length = Ds.length ∧ R w ∧ ∀ j, f j = true → ∀ D, Ds[j]? = some D → D (vs.getD j undef) w
def depsOk (o : Oper) (deps : List Nat) : Bool := deps.all fun d => o.after.toList.any fun e => Region.binds .any e && Nat.beq e.on d
/-- One operation. -/
def StepL (P : Program) (l : List Oper) (Q : Exit → Act → World → Prop) (Ds : List (Value → World → Prop)) (mk : List Value → Act) (R : World → Prop) (T : World → World → Prop) (i : Nat) (o : Oper) : Prop :=
  ∃ deps, depsOk o deps = true ∧ ∀ vs w, vs.length = Ds.length → R w → (∀ j ∈ deps, ∀ D, Ds[j]? = some D → D (vs.getD j undef) w) →
    ∀ K : Act → World → Prop, Shut (∀ v w', T w w' → R w' → (∀ D, Ds[i]? = some D → D v w') → K (mk (vs.set i v)) w') →
      if Region.wanted o (yielded l.toArray (mk vs).tmps) = true then Oper.wp P o (mk vs) w K Q else K ((mk vs).put o.dst undef) w
def StepsL (P : Program) (l : List Oper) (Q : Exit → Act → World → Prop) (Ds : List (Value → World → Prop)) (mk : List Value → Act) (R : World → Prop) (T : World → World → Prop) : Nat → List Oper → Prop
  | _, [] => True
  | k, o :: r => StepL P l Q Ds mk R T k o ∧ StepsL P l Q Ds mk R T (k + 1) r
theorem stepsL_at {l : List Oper} {Ds : List (Value → World → Prop)} {mk : List Value → Act} {R : World → Prop} {T : World → World → Prop} : ∀ (r : List Oper) (k : Nat), StepsL P l Q Ds mk R T k r → ∀ (i : Nat) o, r[i]? = some o → StepL P l Q Ds mk R T (k + i) o
  | [], _, _, i, o, h => by simp at h
  | x :: r, k, hs, i, o, h => by
    match i, h with
    | 0, h =>
      simp at h
      subst h
      exact hs.1
    | i + 1, h =>
      have := stepsL_at r (k + 1) hs.2 i o (by simpa using h)
      rwa [show k + 1 + i = k + (i + 1) by omega] at this
theorem region_inv {l : List Oper} {id : Nat} {a : Act} {w : World} (Ds : List (Value → World → Prop)) (mk : List Value → Act) (R : World → Prop) (T : World → World → Prop) (hm : P.follows .mixedOrders = true) (hd : downOk 0 l = true) (hlen : l.length = Ds.length)
    (vs0 : List Value) (ha : a = mk vs0) (hl0 : vs0.length = Ds.length) (hR : R w.drew)
    (hst : ∀ (j : Nat) D, Ds[j]? = some D → ∀ v w w', T w w' → D v w → D v w')
    (hsteps : StepsL P l Q Ds mk R T 0 l)
    (hend : ∀ vs w, vs.length = Ds.length → R w → (∀ (j : Nat) D, Ds[j]? = some D → D (vs.getD j undef) w) → Q .normal (mk vs) w) :
    (Code.region id l.toArray true).wp P Q a w := by
  refine wp_region_any hm ?_
  refine any_of_inv hd (InvL Ds mk R) ?_ ?_ _ (List.range l.length) _ a _ List.nodup_range (by simp) (by simp) (fun j => ?_) ?_
  · intro i o ho f a w hf hI
    obtain ⟨vs, rfl, hvl, hRw, hD⟩ := hI
    have hsi := stepsL_at l 0 hsteps i o ho
    rw [Nat.zero_add] at hsi
    obtain ⟨deps, hdp, hh⟩ := hsi
    have hil : i < vs.length := by rw [hvl, ← hlen]; exact (List.getElem?_eq_some_iff.1 ho).1
    refine wpOp_step (by simpa using ho) (fun K' hK => hh vs w hvl hRw (fun j hj D hDj => ?_) K' (fun v w' hT hR' hDi => hK _ _ ⟨vs.set i v, rfl, by rw [List.length_set]; exact hvl, hR', fun j hj D hDj => ?_⟩))
    · unfold depsOk at hdp
      rw [List.all_eq_true] at hdp
      have h1 := hdp j hj
      rw [List.any_eq_true] at h1
      obtain ⟨e, he, hb⟩ := h1
      rw [Bool.and_eq_true] at hb
      have h2 := hf e (by simpa using he) hb.1
      rw [Nat.eq_of_beq_eq_true hb.2] at h2
      exact hD j h2 D hDj
    · by_cases hij : j = i
      · subst hij
        rw [List.getD_eq_getElem?_getD, List.getElem?_set_self hil]
        exact hDi D hDj
      · rw [List.getD_eq_getElem?_getD, List.getElem?_set_ne (fun e => hij e.symm), ← List.getD_eq_getElem?_getD]
        have hbf : Nat.beq j i = false := by
          rw [← Bool.not_eq_true]
          intro h
          exact hij (Nat.eq_of_beq_eq_true h)
        dsimp only at hj
        rw [hbf, Bool.or_false] at hj
        exact hst j D hDj _ _ _ hT (hD j hj D hDj)
  · intro f a w hf hI
    obtain ⟨vs, rfl, hvl, hRw, hD⟩ := hI
    exact hend vs w hvl hRw (fun j D hDj => hD j (hf j (by rw [hlen]; exact (List.getElem?_eq_some_iff.1 hDj).1)) D hDj)
  · rw [List.mem_range]
    by_cases hj : j < l.length
    · simp [Array.getD, hj]
    · simp [Array.getD, hj]
  · refine ⟨vs0, ha, hl0, hR, fun j hj => ?_⟩
    exfalso
    by_cases hx : j < l.length
    · simp [Array.getD, hx] at hj
    · simp [Array.getD, hx] at hj

/-- The slots of the operations, filled. -/
def puts : Act → List Nat → List Value → Act
  | a, d :: ds, v :: vs => puts (a.put (some d) v) ds vs
  | a, _, _ => a
theorem len_succ {vs : List Value} {n : Nat} (h : vs.length = n + 1) : ∃ v r, vs = v :: r ∧ r.length = n := by
  cases vs with
  | nil => simp at h
  | cons v r => exact ⟨v, r, rfl, by simpa using h⟩
theorem len_zero {vs : List Value} (h : vs.length = 0) : vs = [] := List.eq_nil_of_length_eq_zero h
/-- The region, its slots named. -/
theorem region_slots {l : List Oper} {id : Nat} {a : Act} {w : World} (dsts : List Nat) (Ds : List (Value → World → Prop)) (R : World → Prop) (T : World → World → Prop) (hm : P.follows .mixedOrders = true) (hd : downOk 0 l = true) (hlen : l.length = Ds.length)
    (vs0 : List Value) (ha : a = puts a dsts vs0) (hl0 : vs0.length = Ds.length) (hR : R w.drew)
    (hst : ∀ (j : Nat) D, Ds[j]? = some D → ∀ v w w', T w w' → D v w → D v w')
    (hsteps : StepsL P l Q Ds (puts a dsts) R T 0 l)
    (hend : ∀ vs w, vs.length = Ds.length → R w → (∀ (j : Nat) D, Ds[j]? = some D → D (vs.getD j undef) w) → Q .normal (puts a dsts vs) w) :
    (Code.region id l.toArray true).wp P Q a w :=
  region_inv Ds (puts a dsts) R T hm hd hlen vs0 ha hl0 hR hst hsteps hend
end
end Go.Proofs.YtfjpbkmnlmecgaaGreatDoor
end

section
/- A region that asks the tape, inside a round of a loop over a function: what is shown of it by the plain laws holds there too. -/
namespace Go.Proofs.YtfjpbkmnlmecgaaGreatDoor
open Go
set_option linter.unusedVariables false

def noDefer (ops : Array Oper) : Bool := ops.toList.all fun o => match o.op with | .defer _ => false | _ => true
theorem noDefer_spec {ops : Array Oper} (h : noDefer ops = true) {i : Nat} {o : Oper} (ho : ops[i]? = some o) : ∀ c, o.op ≠ .defer c := by
  intro c e
  unfold noDefer at h
  rw [List.all_eq_true] at h
  have := h o (by
    have := Array.mem_of_getElem? ho
    simpa using this)
  rw [e] at this; cases this
theorem rowsIn_round {P : Program} {lk n : Nat} {row : String} {args : Array Value} {w : World} {R : Value → World → Prop} (h : Rows P row args w R) : RowsIn (Fence.wide.inRound lk) n P row args w R :=
  fun c cs _ => let ⟨v, w', r, s⟩ := h c cs; ⟨v, w', r, (stepsIn_wide (P := P)).2 s⟩
theorem uponIn_round {P : Program} {lk n : Nat} {o : Oper} {a : Act} {K K' : Act → World → Prop} {Q : Exit → Act → World → Prop} (hK : ∀ a w, K a w → K' a w) (r : Result Next) (h : o.upon P a K Q r) : o.uponIn (Fence.wide.inRound lk) n P a K' Q r := by
  cases r with
  | ok x w' =>
    cases x with
    | value v => exact hK _ _ h
    | skip => exact hK _ _ h
    | defer d => exact hK _ _ h
    | enter f args =>
      refine ⟨fun hd => (by cases hd), ?_⟩
      have h' : Calls P f args w' _ := h
      refine (CallsIn.inRound lk (callsIn_wide.2 h')).mono ?_
      intro e w'' he
      cases e with
      | returned v => exact hK _ _ he
      | panicked chain => exact he
      | outgrown => exact he
    | row row args =>
      refine ⟨fun hd => (by cases hd), ?_⟩
      have h' : Rows P row args w' _ := h
      exact (rowsIn_round h').mono fun _ _ h => hK _ _ h
    | _ => exact False.elim h
  | halt b w' =>
    cases b with
    | panic v => exact h
    | _ => exact False.elim h
theorem wpOpIn_round {P : Program} {lk n : Nat} {ops : Array Oper} {Q : Exit → Act → World → Prop} (hQ : ∀ a w, ¬ Q .outgrown a w) (hd : noDefer ops = true) {i : Nat} {K K' : Act → World → Prop} (hK : ∀ a w, K a w → K' a w) {a : Act} {w : World}
    (h : wpOp P ops Q i K a w) : wpOpIn (Fence.wide.inRound lk) n P ops Q i K' a w := by
  unfold wpOp at h
  unfold wpOpIn
  cases ho : ops[i]? with
  | none =>
    rw [ho] at h
    exact hK _ _ h
  | some o =>
    rw [ho] at h
    dsimp only at h ⊢
    split
    · rename_i hw
      rw [if_pos hw] at h
      rcases h with h | ⟨_, a', w', ho⟩
      · refine ⟨fun f _ => trivial, ?_⟩
        rw [Oper.semAt_eq _ _ _ (noDefer_spec hd ho)]
        exact uponIn_round hK _ h
      · exact absurd ho (hQ _ _)
    · rename_i hw
      rw [if_neg hw] at h
      exact ⟨fun f _ => trivial, hK _ _ h⟩
theorem wpAnyIn_round {P : Program} {lk n : Nat} {ops : Array Oper} {Q : Exit → Act → World → Prop} (hQ : ∀ a w, ¬ Q .outgrown a w) (hd : noDefer ops = true) :
    ∀ (fuel : Nat) (listed : Array Bool) (a : Act) (w : World), wpAny P .any ops Q fuel listed a w → wpAnyIn (Fence.wide.inRound lk) n P .any ops Q fuel listed a w
  | 0, _, _, _, h => h
  | fuel + 1, _, _, _, h => ⟨h.1, fun i hi => wpOpIn_round hQ hd (fun a' w' h' => wpAnyIn_round hQ hd fuel _ a' w' h') (h.2 i hi)⟩
/-- The region, inside a round. -/
theorem wpIn_region_round {P : Program} {S : World → Prop} {lk n id : Nat} {ops : Array Oper} {Q : Exit → Act → World → Prop} {a : Act} {w : World} (hm : P.follows .mixedOrders = true) (hd : noDefer ops = true) (hQ : ∀ a w, ¬ Q .outgrown a w) (hS : S w.drew)
    (h : S w.drew → wpAnyH P .any ops (NoPanic Q) S ops.size (Array.replicate ops.size false) a w.drew) : (Code.region id ops true).wpIn (Fence.wide.inRound lk) n P Q a w :=
  wpIn_mono (wpIn_region_any hm (wpAnyIn_round (Q := NoPanic Q) (fun a w h => hQ a w (NoPanic.imp _ _ _ h)) hd _ _ _ _ (wpAny_of_held _ _ _ _ (h hS)))) NoPanic.imp
end Go.Proofs.YtfjpbkmnlmecgaaGreatDoor
end

section
/- Boxed cells that stay. No program in sight. -/
namespace Go.Proofs.YtfjpbkmnlmecgaaGreatDoor.Dy
open Go.RowKit Go.PlainAid
set_option linter.unusedVariables false

theorem new1 (w : World) (x : Value) (T : TypeId) : (w.alloc (.cells #[x] T)).cell? ⟨w.heap.size, 0, none⟩ = some x ∧ (w.alloc (.cells #[x] T)).frozen? ⟨w.heap.size, 0, none⟩ = false := by
  constructor <;> simp
theorem box3 {w wr : World} {x y z : Value} {T1 T2 T3 : TypeId} (h : Below (w.heap.size + 3) (((w.alloc (.cells #[x] T1)).alloc (.cells #[y] T2)).alloc (.cells #[z] T3)) wr) :
    wr.cell? ⟨w.heap.size, 0, none⟩ = some x ∧ wr.cell? ⟨w.heap.size + 1, 0, none⟩ = some y ∧ wr.cell? ⟨w.heap.size + 1 + 1, 0, none⟩ = some z ∧ wr.frozen? ⟨w.heap.size + 1 + 1, 0, none⟩ = false ∧ w.heap.size + 3 ≤ wr.heap.size ∧ Below w.heap.size w wr := by
  have hs := h.size
  have z1 : (w.alloc (.cells #[x] T1)).heap.size = w.heap.size + 1 := by simp
  have z2 : ((w.alloc (.cells #[x] T1)).alloc (.cells #[y] T2)).heap.size = w.heap.size + 2 := by simp
  have z3 : (((w.alloc (.cells #[x] T1)).alloc (.cells #[y] T2)).alloc (.cells #[z] T3)).heap.size = w.heap.size + 3 := by simp
  obtain ⟨a1, a2⟩ := new1 w x T1
  obtain ⟨b1, b2⟩ := new1 (w.alloc (.cells #[x] T1)) y T2
  obtain ⟨d1, d2⟩ := new1 ((w.alloc (.cells #[x] T1)).alloc (.cells #[y] T2)) z T3
  rw [z1] at b1 b2
  rw [z2] at d1 d2
  have B3 : Below (w.heap.size + 2) ((w.alloc (.cells #[x] T1)).alloc (.cells #[y] T2)) wr := ((Below.refl _ _).alloc (by rw [z2]; exact Nat.le_refl _) _).trans (h.mono (by omega))
  have B2 : Below (w.heap.size + 1) (w.alloc (.cells #[x] T1)) wr := ((Below.refl _ _).alloc (by rw [z1]; exact Nat.le_refl _) _).trans (B3.mono (by omega))
  have B1 : Below w.heap.size w wr := ((Below.refl _ _).alloc (Nat.le_refl _) _).trans (B2.mono (by omega))
  refine ⟨(B2.cell (p := ⟨w.heap.size, 0, none⟩) (show w.heap.size < w.heap.size + 1 by omega)).trans a1, (B3.cell (p := ⟨w.heap.size + 1, 0, none⟩) (show w.heap.size + 1 < w.heap.size + 2 by omega)).trans b1, (h.cell (p := ⟨w.heap.size + 2, 0, none⟩) (show w.heap.size + 2 < w.heap.size + 3 by omega)).trans d1, (h.frozen (p := ⟨w.heap.size + 2, 0, none⟩) (show w.heap.size + 2 < w.heap.size + 3 by omega)).trans d2, by omega, B1⟩
theorem box2 {w wr : World} {x y : Value} {T1 T2 : TypeId} (h : Below (w.heap.size + 2) ((w.alloc (.cells #[x] T1)).alloc (.cells #[y] T2)) wr) :
    wr.cell? ⟨w.heap.size, 0, none⟩ = some x ∧ wr.cell? ⟨w.heap.size + 1, 0, none⟩ = some y ∧ wr.frozen? ⟨w.heap.size + 1, 0, none⟩ = false ∧ w.heap.size + 2 ≤ wr.heap.size ∧ Below w.heap.size w wr := by
  have hs := h.size
  have z1 : (w.alloc (.cells #[x] T1)).heap.size = w.heap.size + 1 := by simp
  have z2 : ((w.alloc (.cells #[x] T1)).alloc (.cells #[y] T2)).heap.size = w.heap.size + 2 := by simp
  obtain ⟨a1, a2⟩ := new1 w x T1
  obtain ⟨b1, b2⟩ := new1 (w.alloc (.cells #[x] T1)) y T2
  rw [z1] at b1 b2
  have B2 : Below (w.heap.size + 1) (w.alloc (.cells #[x] T1)) wr := ((Below.refl _ _).alloc (by rw [z1]; exact Nat.le_refl _) _).trans (h.mono (by omega))
  have B1 : Below w.heap.size w wr := ((Below.refl _ _).alloc (Nat.le_refl _) _).trans (B2.mono (by omega))
  exact ⟨(B2.cell (p := ⟨w.heap.size, 0, none⟩) (show w.heap.size < w.heap.size + 1 by omega)).trans a1, (h.cell (p := ⟨w.heap.size + 1, 0, none⟩) (show w.heap.size + 1 < w.heap.size + 2 by omega)).trans b1, (h.frozen (p := ⟨w.heap.size + 1, 0, none⟩) (show w.heap.size + 1 < w.heap.size + 2 by omega)).trans b2, by omega, B1⟩
theorem box1 {w wr : World} {x : Value} {T1 : TypeId} (h : Below (w.heap.size + 1) (w.alloc (.cells #[x] T1)) wr) : wr.cell? ⟨w.heap.size, 0, none⟩ = some x ∧ Below w.heap.size w wr :=
  ⟨(h.cell (p := ⟨w.heap.size, 0, none⟩) (Nat.lt_succ_self _)).trans (new1 w x T1).1, ((Below.refl _ _).alloc (Nat.le_refl _) _).trans (h.mono (Nat.le_succ _))⟩
theorem bdr {B : Nat} {a w : World} (h : Below B a w) (n : Nat) : Below B a (w.drewN n) := h.trans ⟨rfl, rfl, rfl, Nat.le_refl _, fun _ _ => rfl⟩
theorem bel1 {w w2 : World} {o : Obj} (hb2 : Below (w.alloc o).heap.size (w.alloc o) w2) : Below w.heap.size w w2 :=
  ((Below.refl _ _).alloc (Nat.le_refl _) _).trans (hb2.mono (by simp))
theorem bel2 {w w2 : World} {o o2 : Obj} (hb2 : Below ((w.alloc o).alloc o2).heap.size ((w.alloc o).alloc o2) w2) : Below w.heap.size w w2 := bel1 (bel1 hb2)
theorem bel3 {w w2 : World} {o o2 o3 : Obj} (hb2 : Below (((w.alloc o).alloc o2).alloc o3).heap.size (((w.alloc o).alloc o2).alloc o3) w2) : Below w.heap.size w w2 := bel1 (bel2 hb2)
theorem box1s {w wr : World} {x : Value} {T1 : TypeId} (h : Below (w.alloc (.cells #[x] T1)).heap.size (w.alloc (.cells #[x] T1)) wr) : wr.cell? ⟨w.heap.size, 0, none⟩ = some x ∧ Below w.heap.size w wr := box1 (h.mono (by simp))
/-- A boxed struct of two cells. -/
theorem box2s {w wr : World} {x y : Value} {T1 : TypeId} (h : Below (w.alloc (.cells #[x, y] T1)).heap.size (w.alloc (.cells #[x, y] T1)) wr) : (wr.cell? ⟨w.heap.size, 0, none⟩ = some x ∧ wr.cell? ⟨w.heap.size, 1, none⟩ = some y) ∧ Below w.heap.size w wr := by
  refine ⟨⟨(h.cell (p := ⟨w.heap.size, 0, none⟩) (by simp)).trans (by simp), (h.cell (p := ⟨w.heap.size, 1, none⟩) (by simp)).trans (by simp)⟩, bel1 h⟩
end Go.Proofs.YtfjpbkmnlmecgaaGreatDoor.Dy
end
