/- Contracts: And, Minus, Within. -/
import Derived.Test.YtfdododighjjpaaGreatDoorDaF
import Derived.Test.YtfdododighjjpaaGreatDoorReg
import Derived.BigRegion
namespace Go.Proofs.YtfdododighjjpaaGreatDoor.Dy
open Go.RowKit Go.PlainAid
set_option linter.unusedVariables false
set_option linter.unusedSimpArgs false
set_option maxHeartbeats 10000000

def slN : Value → Nat | .slice _ n _ => n | _ => 0
/-- The slice without its first element. -/
theorem Ds.tail {w : World} {b o n cap : Nat} {p : Int × Int} {l : List (Int × Int)} (h : Ds w (some ⟨b, o, none⟩) (n + 1) cap (p :: l)) (a : Option Addr) (ha : n = 0 ∨ a = some ⟨b, o + 2, none⟩) (m c : Nat) (hm : m = n) (hc : c = cap - 1) : Ds w a m c l := by
  obtain ⟨h1, h2, h3, h4⟩ := h
  subst hm hc
  refine ⟨by simpa using h1, by omega, by omega, ?_⟩
  rcases ha with ha | ha
  · exact .inl ha
  · rcases h4 with h4 | ⟨b', o', h4, hb, hcell⟩
    · omega
    · cases h4
      refine .inr ⟨_, _, ha, hb, fun j q hq => ?_⟩
      have := hcell (j + 1) q (by simpa using hq)
      rw [show o + 2 + j * 2 = o + (j + 1) * 2 from by omega]
      exact this
theorem Ds.tail' {w : World} {b o n cap : Nat} {p : Int × Int} {l : List (Int × Int)} (h : Ds w (some ⟨b, o, none⟩) (n + 1) cap (p :: l)) : Ds w (if cap = 1 then some ⟨b, o, none⟩ else some ⟨b, o + 2, none⟩) n (cap - 1) l := by
  refine h.tail _ ?_ _ _ rfl rfl
  have := h.2.1
  by_cases h0 : n = 0
  · exact .inl h0
  · exact .inr (if_neg (by omega))
theorem Ds.head {w : World} {a : Option Addr} {n cap : Nat} {p : Int × Int} {l : List (Int × Int)} (h : Ds w a n cap (p :: l)) : ∃ b o m, a = some ⟨b, o, none⟩ ∧ n = m + 1 ∧ m + 1 ≤ cap ∧ b < w.heap.size ∧ w.cell? ⟨b, o, none⟩ = some (.int .i64 p.1) ∧ w.cell? ⟨b, o + 1, none⟩ = some (.int .i64 p.2) := by
  obtain ⟨h1, h2, h3, h4⟩ := h
  rw [List.length_cons] at h1
  rcases h4 with h4 | ⟨b, o, ha, hb, hcell⟩
  · omega
  · have := hcell 0 p rfl
    exact ⟨b, o, l.length, ha, h1.symm, by omega, hb, by simpa using this.1, by simpa using this.2⟩

theorem kp {w : World} {g o : Nat} {v : Value} (h : g < w.heap.size) (hc : w.cell? ⟨g, o, none⟩ = some v) (ob : Obj) : (w.drew.alloc ob).cell? ⟨g, o, none⟩ = some v := by
  rw [World.cell?_alloc_lt _ _ _ h]; exact hc
end Go.Proofs.YtfdododighjjpaaGreatDoor.Dy
