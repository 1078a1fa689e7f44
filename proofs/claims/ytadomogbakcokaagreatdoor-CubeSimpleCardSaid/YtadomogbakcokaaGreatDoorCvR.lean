/- Contracts for the law about what two cubes share. -/
import Derived.Test.YtadomogbakcokaaGreatDoorCvQ
import Derived.Test.YtadomogbakcokaaGreatDoorBoxP
namespace Go.Proofs.YtadomogbakcokaaGreatDoor
open Go.RowKit Go.PlainAid
set_option linter.unusedVariables false
set_option linter.unusedSimpArgs false
set_option maxHeartbeats 2000000

/-- A value is the cube x. -/
def CvV (w : World) (v : Value) (x : Cu) : Prop := ∃ a n c b m d, v = .agg #[.slice a n c, .slice b m d] ∧ Cb w ⟨a, n, c, b, m, d⟩ x
theorem CvV.below {w w' : World} {v : Value} {x : Cu} (h : CvV w v x) (hb : Below w.heap.size w w') : CvV w' v x := by
  obtain ⟨a, n, c, b, m, d, e, h⟩ := h
  exact ⟨a, n, c, b, m, d, e, h.below hb⟩
theorem Cb.set1 {w : World} {h : Hd} {x : Cu} {p : Addr} {u v : Value} (hc : Cb w h x) (hp : w.cell? p = some v) (hv : ∀ z : Int, v ≠ .int .u64 z) : Cb (w.setCell p u) h x := ⟨hc.1.set hp hv, hc.2.set hp hv⟩
theorem CvV.elim {w : World} {v : Value} {x : Cu} {C : Prop} (h : CvV w v x) (k : ∀ a n c b m d, v = .agg #[.slice a n c, .slice b m d] → Cb w ⟨a, n, c, b, m, d⟩ x → C) : C := by
  obtain ⟨a, n, c, b, m, d, e, h⟩ := h
  exact k a n c b m d e h
theorem CvV.pick {w : World} {v : Value} {x : Cu} (h : CvV w v x) : ∃ t : Hd, v = .agg #[.slice t.a t.n t.c, .slice t.b t.m t.d] ∧ Cb w t x := by
  obtain ⟨a, n, c, b, m, d, e, h⟩ := h
  exact ⟨⟨a, n, c, b, m, d⟩, e, h⟩
theorem exE {α : Type} {p q : α → Prop} {C : Prop} (h : ∃ a, p a ∧ q a) (k : ∀ a, p a → q a → C) : C := by
  obtain ⟨a, h1, h2⟩ := h
  exact k a h1 h2
theorem CvV.set {w : World} {v : Value} {x : Cu} {p : Addr} {u : Value} (h : CvV w v x) (hp : w.cell? p = some (.slice none 0 0)) : CvV (w.setCell p u) v x := by
  obtain ⟨a, n, c, b, m, d, e, h⟩ := h
  exact ⟨a, n, c, b, m, d, e, h.set1 hp (fun z e => by cases e)⟩
/-- A value is the pair of the cube x and of t. -/
def MtV (w : World) (v : Value) (x : Cu) (t : Bool) : Prop := ∃ a n c b m d, v = .tuple #[.agg #[.slice a n c, .slice b m d], .bool t] ∧ Cb w ⟨a, n, c, b, m, d⟩ x
theorem MtV.below {w w' : World} {v : Value} {x : Cu} {t : Bool} (h : MtV w v x t) (hb : Below w.heap.size w w') : MtV w' v x t := by
  obtain ⟨a, n, c, b, m, d, e, h⟩ := h
  exact ⟨a, n, c, b, m, d, e, h.below hb⟩
theorem MtV.set {w : World} {v : Value} {x : Cu} {t : Bool} {p : Addr} {u : Value} (h : MtV w v x t) (hp : w.cell? p = some (.slice none 0 0)) : MtV (w.setCell p u) v x t := by
  obtain ⟨a, n, c, b, m, d, e, h⟩ := h
  exact ⟨a, n, c, b, m, d, e, h.set1 hp (fun z e => by cases e)⟩
theorem MtV.elim {w : World} {v : Value} {x : Cu} {t : Bool} {C : Prop} (h : MtV w v x t) (k : ∀ a n c b m d, v = .tuple #[.agg #[.slice a n c, .slice b m d], .bool t] → Cb w ⟨a, n, c, b, m, d⟩ x → C) : C := by
  obtain ⟨a, n, c, b, m, d, e, h⟩ := h
  exact k a n c b m d e h
/-- Two cells are the cube x. -/
def CvP (x : Cu) (u v : Value) (w : World) : Prop := ∃ a n c b m d, u = .slice a n c ∧ v = .slice b m d ∧ Cb w ⟨a, n, c, b, m, d⟩ x
theorem CvP.below {w w' : World} {u v : Value} {x : Cu} (h : CvP x u v w) (hb : Below w.heap.size w w') : CvP x u v w' := by
  obtain ⟨a, n, c, b, m, d, e, e2, h⟩ := h
  exact ⟨a, n, c, b, m, d, e, e2, h.below hb⟩
theorem CvP.set {w : World} {u v : Value} {x : Cu} {p : Addr} {s : Value} (h : CvP x u v w) (hp : w.cell? p = some (.slice none 0 0)) : CvP x u v (w.setCell p s) := by
  obtain ⟨a, n, c, b, m, d, e, e2, h⟩ := h
  exact ⟨a, n, c, b, m, d, e, e2, h.set1 hp (fun z e => by cases e)⟩
theorem CvP.elim {w : World} {u v : Value} {x : Cu} {C : Prop} (h : CvP x u v w) (k : ∀ a n c b m d, u = .slice a n c → v = .slice b m d → Cb w ⟨a, n, c, b, m, d⟩ x → C) : C := by
  obtain ⟨a, n, c, b, m, d, e, e2, h⟩ := h
  exact k a n c b m d e e2 h
theorem Bs.put {w : World} {a : Option Addr} {n cap k : Nat} {l : List Nat} {cs : Array Value} {T : TypeId} {fz : Nat × Nat} (h : Bs w a n cap l) (hk : w.heap[k]? = some (.cells cs T fz)) (hT : T ≠ 23) (j : Nat) (u : Value) : Bs (w.setCell ⟨k, j, none⟩ u) a n cap l := by
  have hap := h.apart hk hT
  obtain ⟨ws, ⟨h1, h2, h3, h4⟩, hr⟩ := h
  refine ⟨ws, ⟨h1, h2, h3, ?_⟩, hr⟩
  rcases h4 with h4 | ⟨b, o, h4, hb, hc⟩
  · exact .inl h4
  · refine .inr ⟨b, o, h4, hb.set _ _, fun j hj => ?_⟩
    rw [World.cell?_setCell_other _ _ _ _ (fun e => (hap _ h4).1 (by injection e with e1 e2; exact e1.symm))]
    exact hc j hj
theorem Cb.put {w : World} {h : Hd} {x : Cu} {k : Nat} {cs : Array Value} {T : TypeId} {fz : Nat × Nat} (hc : Cb w h x) (hk : w.heap[k]? = some (.cells cs T fz)) (hT : T ≠ 23) (j : Nat) (u : Value) : Cb (w.setCell ⟨k, j, none⟩ u) h x := ⟨hc.1.put hk hT j u, hc.2.put hk hT j u⟩
theorem meet_t (a b a' b' : Option Addr) (n c m d n' c' m' d' : Nat) (x y z : Cu) (t : Bool) (w : World) (h : Cb w ⟨a, n, c, b, m, d⟩ x) (k : Cb w ⟨a', n', c', b', m', d'⟩ y) (ht : Hid ((!emptyC (bothC x y)) = t)) (hz : Hid ((if emptyC (bothC x y) then ([], []) else bothC x y) = z)) :
    Calls Tryz.prog 36 #[.agg #[.slice a n c, .slice b m d], .agg #[.slice a' n' c', .slice b' m' d']] w fun e w' => ∃ a n c b m d, e = .returned (.tuple #[.agg #[.slice a n c, .slice b m d], .bool t]) ∧ Cb w' ⟨a, n, c, b, m, d⟩ z ∧ Below w.heap.size w w' := by
  rw [← ht.out, ← hz.out]
  exact meet_any a b a' b' n c m d n' c' m' d' x y w h k
theorem rempty_t (m1 m2 : Nat) (t : Bool) (w : World) (hc : McOk (m1, m2)) (ht : Hid (emptyM (m1, m2) = t)) :
    Calls Tryz.prog 22 #[.agg #[.int .u64 (m1 : Nat), .int .u64 (m2 : Nat)]] w (BoolPost w t) := by
  rw [← ht.out]; exact rempty_any (m1, m2) hc w
theorem rwithin_t (m1 m2 k1 k2 : Nat) (t : Bool) (w : World) (hc : McOk (m1, m2)) (hk : McOk (k1, k2)) (ht : Hid (withinM (m1, m2) (k1, k2) = t)) :
    Calls Tryz.prog 38 #[.agg #[.int .u64 (m1 : Nat), .int .u64 (m2 : Nat)], .agg #[.int .u64 (k1 : Nat), .int .u64 (k2 : Nat)]] w (BoolPost w t) := by
  rw [← ht.out]; exact rwithin_any (m1, m2) (k1, k2) hc hk w
/-- What both cubes share, and whether they share anything. -/
theorem meet_cuM {a b : Mc} (ha : McOk a) (hb : McOk b) {z : Bool} (hz : emptyM (bothM a b) = z) : (!emptyC (bothC (cuM a) (cuM b))) = !z ∧ (if emptyC (bothC (cuM a) (cuM b)) then ([], []) else bothC (cuM a) (cuM b)) = cuM (if z then (0, 0) else bothM a b) := by
  rw [both_cuM, empty_cuM (bothM_ok ha hb), hz]
  refine ⟨rfl, ?_⟩
  cases z
  · rfl
  · show _ = _
    simp [cuM, bitsL]
/-- The block is two cells. -/
def At2T (W : World) (g : Nat) (x y : Value) (T : TypeId) : Prop := W.heap[g]? = some (.cells #[x, y] T (0, 0))
theorem At2T.below {W W' : World} {g : Nat} {x y : Value} {T : TypeId} (h : At2T W g x y T) (hb : Below W.heap.size W W') : At2T W' g x y T := (hb.block g (Array.getElem?_eq_some_iff.1 h).1).trans h
theorem At2T.frz {W : World} {g : Nat} {x y : Value} {T : TypeId} (h : At2T W g x y T) (j : Nat) : W.frozen? ⟨g, j, none⟩ = false := by
  unfold At2T at h
  simp [World.frozen?, h]
theorem At2T.lt {W : World} {g : Nat} {x y : Value} {T : TypeId} (h : At2T W g x y T) : g < W.heap.size := (Array.getElem?_eq_some_iff.1 h).1
theorem At2T.other {W : World} {g k : Nat} {x y u v : Value} {T : TypeId} (h : At2T W g x y T) (hk : g ≠ k) : At2T ((W.setCell ⟨k, 0, none⟩ u).setCell ⟨k, 1, none⟩ v) g x y T := by
  unfold At2T at h ⊢
  rw [Below.heap_setCell _ _ _ g (by dsimp only; omega), Below.heap_setCell _ _ _ g (by dsimp only; omega)]
  exact h
theorem At2T.own {W : World} {g : Nat} {x y u v : Value} {T : TypeId} (h : At2T W g x y T) : At2T ((W.setCell ⟨g, 0, none⟩ u).setCell ⟨g, 1, none⟩ v) g u v T := Bp.set_cell1 (Bp.set_cell1 h)
theorem Cb.own2 {w : World} {h : Hd} {z : Cu} {g : Nat} {x y u v : Value} {T : TypeId} (hc : Cb w h z) (hk : At2T w g x y T) (hT : T ≠ 23) : Cb ((w.setCell ⟨g, 0, none⟩ u).setCell ⟨g, 1, none⟩ v) h z := (hc.put hk hT 0 u).put (Bp.set_cell1 hk) hT 1 v
theorem At2T.at {W : World} {g : Nat} {x y : Value} {T : TypeId} (h : At2T W g x y T) : At2 W g x y := at2_of h
end Go.Proofs.YtadomogbakcokaaGreatDoor
