/- Contracts and memory for TokenSets. -/
import Derived.Test.YtkmchnggcjmchaaDoorTsB
import Derived.Test.YtkmchnggcjmchaaDoorTkNr
import Derived.Test.YtkmchnggcjmchaaDoorTkL
import Derived.Test.YtkmchnggcjmchaaDoorShS
import Derived.Shelf.Strings.SlTrimAscii
namespace Go.Proofs.YtkmchnggcjmchaaDoor.Ts
open Go.RowKit Go.PlainAid Go.Proofs.YtkmchnggcjmchaaDoor Go.Proofs.YtkmchnggcjmchaaDoor.Bz
set_option linter.unusedVariables false
set_option linter.unusedSimpArgs false
set_option maxHeartbeats 4000000

/-- What the library's tables hold. -/
structure Wt (w : World) : Prop where
  tz : Tz w
  pow : Pow10 w
  mxl : ∃ m, w.cell? ⟨0, 0, none⟩ = some (.int .i64 m)
theorem Wt.below {w w' : World} (h : Wt w) (hb : RowKit.Below w.heap.size w w') : Wt w' where
  tz := h.tz.below hb
  pow := fun u hu => h.pow u (hb.trans (hu.mono hb.size))
  mxl := by
    obtain ⟨m, hm⟩ := h.mxl
    exact ⟨m, (hb.cell (p := ⟨0, 0, none⟩) (World.block_lt_of_cell? _ _ hm)).trans hm⟩
theorem trim_c (l : List Nat) (s : ByteArray) (hs : ⟨(textB l).toArray⟩ = s) (hz : s.size ≤ 100000) (w : World) :
    Calls Tryd.prog 10 #[.string s, .string ⟨#[123, 125]⟩] w fun e w' => e = .returned (.string ⟨(jn 32 l).toArray⟩) ∧ RowKit.Below w.heap.size w w' := by
  refine (Any.strings_Trim_laid Tryd.lays160 (by kernel_rfl) s ⟨#[123, 125]⟩ w (by omega) (by decide) (fun j b hb => ?_)).mono ?_
  · match j, hb with
    | 0, hb => cases hb; decide
    | 1, hb => cases hb; decide
  · rintro e w' ⟨rfl, hb⟩
    refine ⟨?_, hb⟩
    rw [← hs]
    show Ending.returned (.string ⟨(Lib.trimS (textB l) [123, 125]).toArray⟩) = _
    rw [trim_text]
theorem repl_c (l : List Nat) (s : ByteArray) (hs : ⟨(jn 32 l).toArray⟩ = s) (hz : s.size ≤ 100000) (w : World) (hW : Wt w) :
    Calls Tryd.prog 14 #[.string s, .string ⟨#[32]⟩, .string ⟨#[44]⟩] w fun e w' => e = .returned (.string ⟨(jn 44 l).toArray⟩) ∧ RowKit.Below w.heap.size w w' := by
  obtain ⟨m, hm⟩ := hW.mxl
  have hc := Lib.countB_le ⟨#[32]⟩ (by decide) s.size s (Nat.le_refl _)
  have e1 : (⟨#[44]⟩ : ByteArray).size = 1 := rfl
  refine (Tryd.strings_ReplaceAll s ⟨#[32]⟩ ⟨#[44]⟩ m w (by omega) hm (by decide) (by rw [e1]; omega)).mono ?_
  rintro e w' ⟨rfl, hb⟩
  refine ⟨?_, hb⟩
  rw [← hs]
  show Ending.returned (.string ⟨(Lib.replaceAll (jn 32 l) [32] [44]).toArray⟩) = _
  rw [replace_jn]
/-- A slice of 16-bit numbers. -/
def Uw (w : World) (a : Option Addr) (n cap : Nat) (zs : List Nat) : Prop :=
  zs.length = n ∧ n ≤ cap ∧ cap ≤ 9223372036854775807 ∧ (a = none ∧ n = 0 ∧ cap = 0 ∨ ∃ b o, a = some ⟨b, o, none⟩ ∧ b < w.heap.size ∧ ∀ j x, zs[j]? = some x → x < 65536 ∧ w.cell? ⟨b, o + j, none⟩ = some (.int .u16 (x : Nat)))
theorem Uw.below {w w' : World} {a : Option Addr} {n cap : Nat} {zs : List Nat} (h : Uw w a n cap zs) (hb : RowKit.Below w.heap.size w w') : Uw w' a n cap zs := by
  obtain ⟨h1, h2, h3, h4⟩ := h
  refine ⟨h1, h2, h3, ?_⟩
  rcases h4 with h4 | ⟨b, o, h4, hlt, hc⟩
  · exact .inl h4
  · exact .inr ⟨b, o, h4, Nat.lt_of_lt_of_le hlt hb.size, fun j x hx => ⟨(hc j x hx).1, (hb.cell (p := ⟨b, o + j, none⟩) hlt).trans (hc j x hx).2⟩⟩
/-- The box B holds a set. -/
def K1 (w wr : World) (B : Nat) (a : Option Addr) (n c : Nat) (l : List Nat) : Prop :=
  RowKit.Below w.heap.size w wr ∧ w.heap.size ≤ B ∧ B < wr.heap.size ∧ wr.cell? ⟨B, 0, none⟩ = some (.slice a n c) ∧ wr.frozen? ⟨B, 0, none⟩ = false ∧ Bs wr a n c l
theorem K1.below {w wr w' : World} {B : Nat} {a : Option Addr} {n c : Nat} {l : List Nat} (h : K1 w wr B a n c l) (hb : RowKit.Below wr.heap.size wr w') : K1 w w' B a n c l := by
  obtain ⟨h1, h2, h3, h4, h5, h6⟩ := h
  exact ⟨h1.trans (hb.mono h1.size), h2, Nat.lt_of_lt_of_le h3 hb.size, (hb.cell (p := ⟨B, 0, none⟩) h3).trans h4, (hb.frozen (p := ⟨B, 0, none⟩) h3).trans h5, h6.below hb⟩
theorem K1.store {w wr : World} {B : Nat} {a a' : Option Addr} {n c n' c' : Nat} {l l' : List Nat} (h : K1 w wr B a n c l) (hs : Bs wr a' n' c' l') : K1 w (wr.setCell ⟨B, 0, none⟩ (.slice a' n' c')) B a' n' c' l' := by
  obtain ⟨h1, h2, h3, h4, h5, h6⟩ := h
  exact ⟨h1.setCell h2 _, h2, by simpa using h3, World.cell?_setCell_same _ _ _ h4, by rw [World.frozen?_setCell]; exact h5, hs.set h4 (by intro x e; cases e)⟩
/-- The slice lies in no block g. -/
def Apt (a : Option Addr) (g : Nat) : Prop := ∀ b o, a = some ⟨b, o, none⟩ → b ≠ g
theorem bs_grownBy {w w' : World} {g : Nat} {a : Option Addr} {n c : Nat} {l : List Nat} (h : Bs w a n c l) (hg : w.grownBy w' (some g)) (ha : Apt a g) : Bs w' a n c l := by
  obtain ⟨ws, ⟨h1, h2, h3, h4⟩, hr⟩ := h
  refine ⟨ws, ⟨h1, h2, h3, ?_⟩, hr⟩
  rcases h4 with h4 | ⟨b, o, h4, ⟨hb, cs, fz, hcs⟩, hc⟩
  · exact .inl h4
  · have hbg := ha b o h4
    have hbb := hg.block b hb (fun e => hbg (Option.some.inj e))
    exact .inr ⟨b, o, h4, ⟨Nat.lt_of_lt_of_le hb hg.size, cs, fz, hbb.trans hcs⟩, fun j hj => (World.cell?_of_block (w := w) hbb).trans (hc j hj)⟩
theorem bs_apt {w : World} {g : Nat} {a : Option Addr} {n c : Nat} {l : List Nat} (h : Bs w a n c l) (hg : w.heap.size ≤ g) : Apt a g := by
  obtain ⟨ws, ⟨h1, h2, h3, h4⟩, hr⟩ := h
  rintro b o rfl
  rcases h4 with ⟨h4, _⟩ | ⟨b', o', h4, ⟨hb, _⟩, _⟩
  · cases h4
  · cases h4; omega
/-- While the reader g runs: the boxes B1, B2 hold sets. -/
structure St (w wr : World) (g B1 B2 : Nat) (ts : List Tok) (pos : Nat) (a1 : Option Addr) (n1 c1 : Nat) (m : List Nat) (a : Option Addr) (n c : Nat) (l : List Nat) : Prop where
  bel : RowKit.Below w.heap.size w wr
  rd : Rd tokV wr g B2 ts pos 0 0
  ord : w.heap.size ≤ g ∧ w.heap.size ≤ B2 ∧ B1 ≠ g ∧ B1 ≠ B2 ∧ B2 ≠ g ∧ B1 < wr.heap.size ∧ B2 < wr.heap.size ∧ g < wr.heap.size
  x1 : wr.cell? ⟨B1, 0, none⟩ = some (.slice a1 n1 c1)
  x2 : wr.cell? ⟨B2, 0, none⟩ = some (.slice a n c)
  f2 : wr.frozen? ⟨B2, 0, none⟩ = false
  s1 : Bs wr a1 n1 c1 m
  s2 : Bs wr a n c l
  t1 : Apt a1 g
  t2 : Apt a g
section
variable {w wr w' : World} {g B1 B2 : Nat} {ts : List Tok} {pos : Nat} {a1 : Option Addr} {n1 c1 : Nat} {m : List Nat} {a : Option Addr} {n c : Nat} {l : List Nat}
theorem St.below (h : St w wr g B1 B2 ts pos a1 n1 c1 m a n c l) (hb : RowKit.Below wr.heap.size wr w') : St w w' g B1 B2 ts pos a1 n1 c1 m a n c l := by
  obtain ⟨o1, o2, o3, o4, o5, o6, o7, o8⟩ := h.ord
  have hz := hb.size
  exact { bel := h.bel.trans (hb.mono h.bel.size), rd := h.rd.below hb, ord := ⟨o1, o2, o3, o4, o5, by omega, by omega, by omega⟩
          x1 := (hb.cell (p := ⟨B1, 0, none⟩) o6).trans h.x1, x2 := (hb.cell (p := ⟨B2, 0, none⟩) o7).trans h.x2, f2 := (hb.frozen (p := ⟨B2, 0, none⟩) o7).trans h.f2
          s1 := h.s1.below hb, s2 := h.s2.below hb, t1 := h.t1, t2 := h.t2 }
theorem St.read (h : St w wr g B1 B2 ts pos a1 n1 c1 m a n c l) {pos' : Nat} (hg : wr.grownBy w' (some g)) (hr : Rd tokV w' g B2 ts pos' 0 0) : St w w' g B1 B2 ts pos' a1 n1 c1 m a n c l := by
  obtain ⟨o1, o2, o3, o4, o5, o6, o7, o8⟩ := h.ord
  have hz := hg.size
  have b1 := hg.block B1 o6 (fun e => o3 (Option.some.inj e))
  have b2 := hg.block B2 o7 (fun e => o5 (Option.some.inj e))
  exact { bel := h.bel.grown hg h.bel.size (fun b hb => by cases hb; exact o1), rd := hr, ord := ⟨o1, o2, o3, o4, o5, by omega, by omega, by omega⟩
          x1 := (World.cell?_of_block (w := wr) b1).trans h.x1, x2 := (World.cell?_of_block (w := wr) b2).trans h.x2, f2 := (World.frozen?_of_block (w := wr) b2).trans h.f2
          s1 := bs_grownBy h.s1 hg h.t1, s2 := bs_grownBy h.s2 hg h.t2, t1 := h.t1, t2 := h.t2 }
theorem St.store (h : St w wr g B1 B2 ts pos a1 n1 c1 m a n c l) {a' : Option Addr} {n' c' : Nat} {l' : List Nat} (hs : Bs wr a' n' c' l') (ht : Apt a' g) : St w (wr.setCell ⟨B2, 0, none⟩ (.slice a' n' c')) g B1 B2 ts pos a1 n1 c1 m a' n' c' l' := by
  obtain ⟨o1, o2, o3, o4, o5, o6, o7, o8⟩ := h.ord
  exact { bel := h.bel.setCell o2 _, rd := h.rd.moved (row := some B2) ⟨rfl, rfl, rfl, by simp [World.setCell], fun k hk hr => Below.heap_setCell _ _ _ _ (fun e => hr (by rw [e]))⟩ (fun e => o5 (Option.some.inj e)) (.inr rfl), ord := ⟨o1, o2, o3, o4, o5, by simpa using o6, by simpa using o7, by simpa using o8⟩
          x1 := (World.cell?_setCell_other _ _ _ _ (by intro e; injection e with e; exact o4 e.symm)).trans h.x1, x2 := World.cell?_setCell_same _ _ _ h.x2, f2 := by rw [World.frozen?_setCell]; exact h.f2
          s1 := h.s1.set h.x2 (by intro x e; cases e), s2 := hs.set h.x2 (by intro x e; cases e), t1 := h.t1, t2 := ht }
end
theorem apt_new {w : World} {a a' : Option Addr} {g : Nat} (h : Apt a g) (hg : g < w.heap.size) (hn : a' = a ∨ ∃ b, a' = some ⟨b, 0, none⟩ ∧ w.heap.size ≤ b) : Apt a' g := by
  rcases hn with rfl | ⟨b, rfl, hb⟩
  · exact h
  · rintro b' o' e; cases e; omega
end Go.Proofs.YtkmchnggcjmchaaDoor.Ts
