/- Contracts in the laws' form. -/
import Derived.Test.YtgbonpmakahibaaDoorDaP
namespace Go.Proofs.YtgbonpmakahibaaDoor.Dy
open Go.RowKit Go.PlainAid
set_option linter.unusedVariables false

theorem setEqual_t (a b : Option Addr) (n m ca cb : Nat) (l r : List (Int × Int)) (w : World) (ha : Ds w a n ca l) (hb : Ds w b m cb r) (he : l = r) :
    Calls Tryd.prog 18 #[.agg #[.slice a n ca], .agg #[.slice b m cb]] w fun e w' => e = .returned (.bool true) ∧ RowKit.Below w.heap.size w w' := by
  have := setEqual_any a b n m ca cb l r w ha hb
  rwa [decide_eq_true he] at this
theorem empty_t (a : Option Addr) (n cap : Nat) (l : List (Int × Int)) (w : World) (ha : Ds w a n cap l) (he : l = []) :
    Calls Tryd.prog 17 #[.agg #[.slice a n cap]] w fun e w' => e = .returned (.bool true) ∧ RowKit.Below w.heap.size w w' := by
  have := empty_any a n cap w
  rwa [decide_eq_true (show n = 0 by rw [← ha.1, he]; rfl)] at this
theorem len_x (a : Option Addr) (n cap : Nat) (l : List (Int × Int)) (w : World) (h : Ds w a n cap l) (hc : Can l) (x : Int) (hx : lenD l = x) :
    Calls Tryd.prog 29 #[.agg #[.slice a n cap]] w fun e w' => e = .returned (.int .i64 x) ∧ RowKit.Below w.heap.size w w' := by
  rw [← hx]; exact len_any a n cap l w h hc
theorem len_t (a : Option Addr) (n cap : Nat) (l : List (Int × Int)) (w : World) (h : Ds w a n cap l) (hc : Can l) (f : Int → Bool) (x : Int) (hm : ∀ d, Dm l d = f d) (hx : cntN f 30001 = x) :
    Calls Tryd.prog 29 #[.agg #[.slice a n cap]] w fun e w' => e = .returned (.int .i64 x) ∧ RowKit.Below w.heap.size w w' :=
  len_x a n cap l w h hc x (by rw [len_cnt hc, ← hx]; exact cntN_congr _ fun d _ => hm d)
theorem cnt_all : cntN inD 30001 = 30001 := by
  have h : cntN inD 30001 = cntN (Dm [((0 : Int), (30000 : Int))]) 30001 := cntN_congr _ fun d hd => by
    rw [dm_cons, dm_nil, inD_iff.2 ⟨by omega, by omega⟩]
    simp; omega
  rw [h, ← len_cnt can_all]; rfl
theorem len_all : cntN inD 30001 = 30001 := cnt_all
theorem len_not {l : List (Int × Int)} (h : Can l) {x : Int} (hx : lenD l = x) : cntN (fun d => inD d && !Dm l d) 30001 = 30001 - x := by
  have := cntN_or (S := Dm l) (T := fun d => inD d && !Dm l d) (U := inD) (V := fun _ => false) 30001 (fun d hd => by
    have h1 : inD (d : Int) = true := inD_iff.2 ⟨by omega, by omega⟩
    rw [h1]; cases Dm l d <;> simp)
  rw [cnt_all, cntN_zero, ← len_cnt h, hx] at this
  omega
theorem len_and {l r : List (Int × Int)} (h : Can l) (k : Can r) {x y z : Int} (hx : lenD l = x) (hy : lenD r = y) (hz : cntN (fun d => Dm l d || Dm r d) 30001 = z) : cntN (fun d => Dm l d && Dm r d) 30001 = x + y - z := by
  have := cntN_or (S := Dm l) (T := Dm r) (U := fun d => Dm l d || Dm r d) (V := fun d => Dm l d && Dm r d) 30001 (fun d hd => ⟨rfl, rfl⟩)
  rw [hz, ← len_cnt h, ← len_cnt k, hx, hy] at this
  omega
end Go.Proofs.YtgbonpmakahibaaDoor.Dy
