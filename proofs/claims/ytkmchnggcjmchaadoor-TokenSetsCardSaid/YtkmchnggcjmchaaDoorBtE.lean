/- Contracts: And, Minus. -/
import Derived.Test.YtkmchnggcjmchaaDoorBtD
namespace Go.Proofs.YtkmchnggcjmchaaDoor.Bz
open Go.RowKit Go.PlainAid
set_option linter.unusedVariables false
set_option linter.unusedSimpArgs false
set_option maxHeartbeats 2000000

theorem and_mem {ws vs us l r : List Nat} (h : Rp ws l) (k : Rp vs r) (hq : us.length = min ws.length vs.length) (hu : Upto us us.length (fun j => wd ws j &&& wd vs j)) :
    U64 us ∧ us.length ≤ 64 ∧ Asc (andL l r) ∧ ∀ i, i < 4096 → (i ∈ andL l r ↔ mem us i = true) := by
  have hw : ∀ j, wd us j = wd ws j &&& wd vs j := by
    intro j
    rw [hu j]
    by_cases hj : j < us.length
    · rw [if_pos hj]
    · rw [if_neg hj]
      by_cases h1 : j < ws.length
      · rw [wd_out (ws := vs) (by omega)]; simp
      · rw [wd_out (ws := ws) (by omega)]; simp
  refine ⟨hu.u64 fun j => land_lt (wd_lt h.1 j), by have := h.2.2.1; omega, asc_filter h.asc _, fun i hi => ?_⟩
  unfold mem
  rw [hw, Nat.testBit_and]
  have e1 := h.mem_dec i
  have e2 := k.mem_dec i
  unfold mem at e1 e2
  rw [e1, e2]
  simp [andL]
theorem minus_mem {ws vs us l r : List Nat} (h : Rp ws l) (k : Rp vs r) (hq : us.length = ws.length) (hu : Upto us us.length (fun j => ldf (wd ws j) (wd vs j))) :
    U64 us ∧ us.length ≤ 64 ∧ Asc (minL l r) ∧ ∀ i, i < 4096 → (i ∈ minL l r ↔ mem us i = true) := by
  have hw : ∀ j, wd us j = ldf (wd ws j) (wd vs j) := by
    intro j
    rw [hu j]
    by_cases hj : j < us.length
    · rw [if_pos hj]
    · rw [if_neg hj, wd_out (ws := ws) (by omega)]; unfold ldf; simp
  refine ⟨hu.u64 fun j => ldf_lt (wd_lt h.1 j), by have := h.2.2.1; omega, asc_filter h.asc _, fun i hi => ?_⟩
  unfold mem
  rw [hw, tb_ldf (wd_lt k.1 _) (by omega)]
  have e1 := h.mem_dec i
  have e2 := k.mem_dec i
  unfold mem at e1 e2
  rw [e1, e2]
  simp [minL]
theorem row_trim {w : World} {B g q : Nat} {us l : List Nat} (h : Row w B g q us) (hm : U64 us ∧ us.length ≤ 64 ∧ Asc l ∧ ∀ i, i < 4096 → (i ∈ l ↔ mem us i = true)) :
    Calls Tryd.prog 38 #[.slice (some ⟨g, 0, none⟩) q q] w (SetPost w l) :=
  trim_any _ q q us l w (h.wd (by rw [← h.len]; omega)) hm.1 hm.2.1 hm.2.2.1 hm.2.2.2

theorem Bs.set {w : World} {a : Option Addr} {n cap : Nat} {l : List Nat} {p : Addr} {v u : Value} (h : Bs w a n cap l) (hp : w.cell? p = some v) (hv : ∀ x : Int, v ≠ .int .u64 x) : Bs (w.setCell p u) a n cap l := by
  obtain ⟨ws, ⟨h1, h2, h3, h4⟩, hr⟩ := h
  refine ⟨ws, ⟨h1, h2, h3, ?_⟩, hr⟩
  rcases h4 with h4 | ⟨b, o, h4, hb, hc⟩
  · exact .inl h4
  · refine .inr ⟨b, o, h4, hb.set _ _, fun j hj => ?_⟩
    rw [World.cell?_setCell_other]
    · exact hc j hj
    · intro e
      rw [e, hc j hj] at hp
      exact hv _ (Option.some.inj hp).symm
end Go.Proofs.YtkmchnggcjmchaaDoor.Bz
