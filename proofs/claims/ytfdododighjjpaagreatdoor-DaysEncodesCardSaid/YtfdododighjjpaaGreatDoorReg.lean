/- A region that asks the tape, walked in ONE order: one closed check of the whole region shows that any other order comes to the same. -/
import Derived.Deep.RegionHeld3
namespace Go.Proofs.YtfdododighjjpaaGreatDoor
open Go
set_option linter.unusedVariables false
set_option linter.unusedSimpArgs false

section
variable {P : Program} {l : List Oper} {Q : Exit → Act → World → Prop} {S : World → Prop}

/-- Operations that yield a value and change nothing. -/
def lightOp (o : Oper) : Bool := match o.op with
  | .load .. => true
  | .move .. => true
  | .pick .. => true
  | .unOp .. => true
  | .binOp .. => true
  | .fieldAddr .. => true
  | .indexAddr .. => true
  | .build .. => true
  | .convert .. => true
  | .assign .. => true
  | .call c => match c.callee with
    | .builtin .len => true
    | .builtin .min => true
    | .builtin .max => true
    | _ => false
  | _ => false

def waitsOn (o : Oper) (l : List Nat) : Bool := o.after.toList.any fun e => Region.binds .any e && l.any fun x => Nat.beq x e.on
def paidBy (o : Oper) (l : List Nat) : Bool := o.after.toList.all fun e => !Region.binds .any e || l.any fun x => Nat.beq x e.on

theorem waitsOn_spec {o : Oper} {x : List Nat} : waitsOn o x = true ↔ ∃ e ∈ o.after, Region.binds .any e = true ∧ e.on ∈ x := by
  unfold waitsOn
  rw [List.any_eq_true]
  constructor
  · rintro ⟨e, he, h⟩
    rw [Bool.and_eq_true, List.any_eq_true] at h
    obtain ⟨hb, y, hy, h⟩ := h
    exact ⟨e, by simpa using he, hb, by rw [← Nat.eq_of_beq_eq_true h]; exact hy⟩
  · rintro ⟨e, he, hb, hy⟩
    refine ⟨e, by simpa using he, ?_⟩
    rw [Bool.and_eq_true, List.any_eq_true]
    exact ⟨hb, e.on, hy, Nat.beq_refl _⟩

theorem paidBy_spec {o : Oper} {x : List Nat} (h : paidBy o x = true) : ∀ e ∈ o.after, Region.binds .any e = true → e.on ∈ x := by
  unfold paidBy at h
  rw [List.all_eq_true] at h
  intro e he hb
  have := h e (by simpa using he)
  rw [hb, Bool.not_true, Bool.false_or, List.any_eq_true] at this
  obtain ⟨y, hy, h⟩ := this
  rw [← Nat.eq_of_beq_eq_true h]
  exact hy

theorem waitsOn_mono {o : Oper} {x y : List Nat} (h : ∀ i ∈ x, i ∈ y) (hw : waitsOn o x = true) : waitsOn o y = true := by
  obtain ⟨e, he, hb, hx⟩ := waitsOn_spec.1 hw
  exact waitsOn_spec.2 ⟨e, he, hb, h _ hx⟩

def orderOk (l : List Oper) : List Nat → List Nat → List Nat → Bool
  | _, _, [] => true
  | done, cur, i :: rest => match l[i]? with
    | none => false
    | some o => paidBy o done && (cur.isEmpty || waitsOn o cur) && !(rest.any fun j => Nat.beq j i) &&
      (match lightOp o with
       | true => (rest.all fun j => match l[j]? with
          | none => false
          | some oj => waitsOn oj [i] || o.apart l.toArray oj) && orderOk l (i :: done) (match cur.isEmpty with | true => [] | false => i :: cur) rest
       | false => orderOk l (i :: done) [i] rest)

theorem orderOk_cons {done cur : List Nat} {i : Nat} {rest : List Nat} (h : orderOk l done cur (i :: rest) = true) :
    ∃ o, l[i]? = some o ∧ (∀ e ∈ o.after, Region.binds .any e = true → e.on ∈ done) ∧ (cur = [] ∨ waitsOn o cur = true) ∧ i ∉ rest ∧
      ((lightOp o = true ∧ (∀ j ∈ rest, ∀ oj, l[j]? = some oj → waitsOn oj [i] = true ∨ o.apart l.toArray oj = true) ∧ orderOk l (i :: done) (match cur.isEmpty with | true => [] | false => i :: cur) rest = true) ∨
       (lightOp o = false ∧ orderOk l (i :: done) [i] rest = true)) := by
  unfold orderOk at h
  split at h
  · exact absurd h (by simp)
  · rename_i o ho
    rw [Bool.and_eq_true, Bool.and_eq_true, Bool.and_eq_true] at h
    obtain ⟨⟨⟨h1, h2⟩, h3⟩, h4⟩ := h
    refine ⟨o, ho, paidBy_spec h1, ?_, ?_, ?_⟩
    · rw [Bool.or_eq_true] at h2
      exact h2.imp (fun h => List.isEmpty_iff.1 h) id
    · intro hi
      rw [Bool.not_eq_true', List.any_eq_false] at h3
      exact h3 i hi (Nat.beq_refl _)
    · cases hl : lightOp o with
      | true =>
        rw [hl] at h4
        simp only [Bool.and_eq_true, List.all_eq_true] at h4
        refine .inl ⟨rfl, fun j hj oj hoj => ?_, h4.2⟩
        have := h4.1 j hj
        rw [hoj] at this
        simpa using this
      | false =>
        rw [hl] at h4
        exact .inr ⟨rfl, h4⟩

theorem order_wait {X : List Nat} : ∀ (L done cur : List Nat), orderOk l done cur L = true → cur ≠ [] → (∀ x ∈ cur, x ∈ X) → (∀ x ∈ L, x ∈ X) →
    ∀ j ∈ L, ∀ oj, l[j]? = some oj → waitsOn oj X = true := by
  intro L
  induction L with
  | nil => intro _ _ _ _ _ _ j hj; cases hj
  | cons i rest ih =>
    intro done cur h hne hc hL j hj oj hoj
    obtain ⟨o, ho, hp, hw, hni, hh⟩ := orderOk_cons h
    rcases List.mem_cons.1 hj with rfl | hj
    · have : oj = o := by rw [ho] at hoj; exact (Option.some.inj hoj).symm
      subst this
      rcases hw with hw | hw
      · exact absurd hw hne
      · exact waitsOn_mono hc hw
    · have hX : ∀ x ∈ rest, x ∈ X := fun x hx => hL x (List.mem_cons_of_mem _ hx)
      have hiX : i ∈ X := hL i (List.mem_cons_self ..)
      rcases hh with ⟨-, -, h'⟩ | ⟨-, h'⟩
      · cases cur with
        | nil => exact absurd rfl hne
        | cons c cs =>
          refine ih _ _ h' (by simp) ?_ hX j hj oj hoj
          intro x hx
          rcases List.mem_cons.1 hx with rfl | hx
          · exact hiX
          · exact hc x hx
      · refine ih _ _ h' (by simp) ?_ hX j hj oj hoj
        intro x hx
        rw [List.mem_singleton] at hx
        rw [hx]; exact hiX

/-- The operations in the given order: a light one yields its value from S; behind any other S is shown anew. -/
def wpOrd (P : Program) (l : List Oper) (Q : Exit → Act → World → Prop) (S : World → Prop) : List Nat → Act → World → Prop
  | [], a, w => Q .normal a w
  | i :: rest, a, w => match l[i]? with
    | none => True
    | some o => match lightOp o with
      | true => ∃ v, YieldsIf P l.toArray S o v a ∧ wpOrd P l Q S rest (a.put o.dst v) w
      | false => wpOp P l.toArray Q i (fun a' w' => S w' ∧ wpOrd P l Q S rest a' w') a w

theorem ord_nil {a : Act} {w : World} (h : Q .normal a w) : wpOrd P l Q S [] a w := h

theorem ord_light {i : Nat} {o : Oper} {rest : List Nat} {a : Act} {w : World} {v : Value} (ho : l[i]? = some o) (hl : lightOp o = true)
    (hw : Region.wanted o (yielded l.toArray a.tmps) = true) (hv : ∀ w, S w → (execOp a.eval o).run P w = .ok (.value v) w)
    (h : wpOrd P l Q S rest (a.put o.dst v) w) : wpOrd P l Q S (i :: rest) a w := by
  unfold wpOrd
  rw [ho]
  show (match lightOp o with
      | true => ∃ v, YieldsIf P l.toArray S o v a ∧ wpOrd P l Q S rest (a.put o.dst v) w
      | false => wpOp P l.toArray Q i (fun a' w' => S w' ∧ wpOrd P l Q S rest a' w') a w)
  rw [hl]
  exact ⟨v, .inl ⟨hw, hv⟩, h⟩

/-- A light operation that its guard leaves out. -/
theorem ord_skip {i : Nat} {o : Oper} {rest : List Nat} {a : Act} {w : World} (ho : l[i]? = some o) (hl : lightOp o = true)
    (hw : Region.wanted o (yielded l.toArray a.tmps) = false)
    (h : wpOrd P l Q S rest (a.put o.dst undef) w) : wpOrd P l Q S (i :: rest) a w := by
  unfold wpOrd
  rw [ho]
  show (match lightOp o with
      | true => ∃ v, YieldsIf P l.toArray S o v a ∧ wpOrd P l Q S rest (a.put o.dst v) w
      | false => wpOp P l.toArray Q i (fun a' w' => S w' ∧ wpOrd P l Q S rest a' w') a w)
  rw [hl]
  exact ⟨undef, .inr ⟨hw, rfl⟩, h⟩

theorem ord_heavy {i : Nat} {o : Oper} {rest : List Nat} {a : Act} {w : World} (ho : l[i]? = some o) (hl : lightOp o = false)
    (h : ∀ K' : Act → World → Prop, Shut (∀ a w, S w → wpOrd P l Q S rest a w → K' a w) → if Region.wanted o (yielded l.toArray a.tmps) = true then Oper.wp P o a w K' Q else K' (a.put o.dst undef) w) :
    wpOrd P l Q S (i :: rest) a w := by
  unfold wpOrd
  rw [ho]
  show (match lightOp o with
      | true => ∃ v, YieldsIf P l.toArray S o v a ∧ wpOrd P l Q S rest (a.put o.dst v) w
      | false => wpOp P l.toArray Q i (fun a' w' => S w' ∧ wpOrd P l Q S rest a' w') a w)
  rw [hl]
  exact wpOp_step (by simpa using ho) (fun K' hK => h K' (fun a w hS hW => hK a w ⟨hS, hW⟩))

theorem getD_set_self {listed : Array Bool} {i : Nat} : (listed.setIfInBounds i true).getD i true = true := by
  by_cases h : i < listed.size
  · simp [Array.getD, h]
  · simp [Array.getD, h]

theorem getD_in {listed : Array Bool} {i : Nat} (h : listed.getD i true = false) : (listed.setIfInBounds i true).getD i false = true := by
  by_cases h' : i < listed.size
  · simp [Array.getD, h']
  · simp [Array.getD, h'] at h

theorem getD_not {listed : Array Bool} {i : Nat} (h : listed.getD i true = false) : ¬ listed.getD i false = true := by
  by_cases h' : i < listed.size
  · simp [Array.getD, h'] at h ⊢; exact h
  · simp [Array.getD, h'] at h

theorem any_of_ord (hsel : Region.noSelect l.toArray = true) (hQ : ∀ c a d v w, Q (.panic c) (a.put d v) w → Q (.panic c) a w) :
    ∀ (L done cur : List Nat) (listed : Array Bool) (a : Act) (w : World), orderOk l done cur L = true →
      (∀ j, listed.getD j true = false ↔ j ∈ L) → (∀ j ∈ done, listed.getD j false = true) → S w →
      wpOrd P l Q S L a w → wpAnyH P .any l.toArray Q S L.length listed a w := by
  intro L
  induction L with
  | nil =>
    intro done cur listed a w _ hr _ _ h
    refine wpAnyH_done ?_ h _
    rw [List.eq_nil_iff_forall_not_mem]
    intro j hj
    have := (hr j).1 (mem_ready.1 hj).1
    cases this
  | cons i rest ih =>
    intro done cur listed a w hok hr hd hS h
    obtain ⟨o, ho, hp, hw, hni, hh⟩ := orderOk_cons hok
    have hoA : l.toArray[i]? = some o := by simpa using ho
    have hi0 : listed.getD i true = false := (hr i).2 (List.mem_cons_self ..)
    have hready : i ∈ Region.ready .any l.toArray listed := mem_ready.2 ⟨hi0, o, hoA, fun e he hb => hd _ (hp e he hb)⟩
    have hr' : ∀ j, (listed.setIfInBounds i true).getD j true = false ↔ j ∈ rest := by
      intro j
      by_cases hij : i = j
      · subst hij
        rw [getD_set_self]
        exact ⟨fun h => (by cases h), fun h => absurd h hni⟩
      · rw [getD_set_ne true hij, hr j, List.mem_cons]
        exact ⟨fun h => h.resolve_left (fun h => hij h.symm), .inr⟩
    have hd' : ∀ j ∈ i :: done, (listed.setIfInBounds i true).getD j false = true := by
      intro j hj
      rcases List.mem_cons.1 hj with rfl | hj
      · exact getD_in hi0
      · exact getD_set_true (hd j hj)
    unfold wpOrd at h
    rw [ho] at h
    rcases hh with ⟨hl, hfree, hrest⟩ | ⟨hl, hrest⟩
    · simp only [hl] at h
      obtain ⟨v, hy, h⟩ := h
      refine wpAnyH_first hoA (Region.noSelect_spec hsel) (fun c a w => hQ c a _ v w) rest.length listed a w ?_ hready hy hS (ih _ _ _ _ _ hrest hr' hd' hS h)
      intro j oj hoj hji hun hno
      have hj : j ∈ rest := by
        have := (hr j).1 hun
        exact (List.mem_cons.1 this).resolve_left hji
      rcases hfree j hj oj (by simpa using hoj) with hwt | hap
      · obtain ⟨e, he, hb, hx⟩ := waitsOn_spec.1 hwt
        exact absurd (List.mem_singleton.1 hx) (hno e he hb)
      · exact hap
    · simp only [hl] at h
      refine ⟨fun h0 => (by rw [h0] at hready; cases hready), fun j hj => ?_⟩
      have hjeq : j = i := by
        obtain ⟨hj0, oj, hoj, hall⟩ := mem_ready.1 hj
        by_cases hji : j = i
        · exact hji
        · exfalso
          have hjr : j ∈ rest := (List.mem_cons.1 ((hr j).1 hj0)).resolve_left hji
          have hwt := order_wait (X := i :: rest) rest _ _ hrest (by simp) (fun x hx => by rw [List.mem_singleton] at hx; rw [hx]; exact List.mem_cons_self ..)
            (fun x hx => List.mem_cons_of_mem _ hx) j hjr oj (by simpa using hoj)
          obtain ⟨e, he, hb, hx⟩ := waitsOn_spec.1 hwt
          exact getD_not ((hr e.on).2 hx) (hall e he hb)
      subst hjeq
      exact wpOp_mono (fun a' w' h' => ⟨h'.1, ih _ _ _ _ _ hrest hr' hd' h'.1 h'.2⟩) h

/-- The closed check of the whole region. -/
def regionOk (l : List Oper) (order : List Nat) : Bool :=
  orderOk l [] [] order && Region.noSelect l.toArray && Nat.beq order.length l.length && (List.range l.length).all fun i => order.any fun j => Nat.beq j i

theorem orderOk_lt : ∀ (L done cur : List Nat), orderOk l done cur L = true → ∀ j ∈ L, j < l.length := by
  intro L
  induction L with
  | nil => intro _ _ _ j hj; cases hj
  | cons i rest ih =>
    intro done cur h j hj
    obtain ⟨o, ho, -, -, -, hh⟩ := orderOk_cons h
    rcases List.mem_cons.1 hj with rfl | hj
    · exact (List.getElem?_eq_some_iff.1 ho).1
    · rcases hh with ⟨-, -, h'⟩ | ⟨-, h'⟩
      · exact ih _ _ h' j hj
      · exact ih _ _ h' j hj

theorem region_ord {id : Nat} {a : Act} {w : World} (order : List Nat) (hm : P.follows .mixedOrders = true) (hok : regionOk l order = true)
    (hQ : ∀ c a d v w, Q (.panic c) (a.put d v) w → Q (.panic c) a w) (hS : S w.drew) (h : S w.drew → wpOrd P l Q S order a w.drew) :
    (Code.region id l.toArray true).wp P Q a w := by
  unfold regionOk at hok
  rw [Bool.and_eq_true, Bool.and_eq_true, Bool.and_eq_true] at hok
  obtain ⟨⟨⟨h1, h2⟩, h3⟩, h4⟩ := hok
  refine wp_region_held (S := S) hm ?_
  have hlen : l.toArray.size = order.length := by
    rw [List.size_toArray]; exact (Nat.eq_of_beq_eq_true h3).symm
  rw [hlen]
  refine any_of_ord h2 hQ order [] [] _ a _ h1 ?_ (fun j hj => by cases hj) hS (h hS)
  intro j
  rw [← hlen, List.size_toArray]
  constructor
  · intro hj
    have hlt : j < l.length := by
      by_cases hlt : j < l.length
      · exact hlt
      · simp [Array.getD, hlt] at hj
    rw [List.all_eq_true] at h4
    have := h4 j (List.mem_range.2 hlt)
    rw [List.any_eq_true] at this
    obtain ⟨y, hy, he⟩ := this
    rw [← Nat.eq_of_beq_eq_true he]; exact hy
  · intro hj
    have hlt := orderOk_lt order [] [] h1 j hj
    simp [Array.getD, hlt]
end
end Go.Proofs.YtfdododighjjpaaGreatDoor
