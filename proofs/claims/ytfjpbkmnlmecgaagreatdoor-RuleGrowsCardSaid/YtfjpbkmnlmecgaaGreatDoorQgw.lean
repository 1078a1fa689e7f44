/- Several of the texts below, joined: RwD RwE RwF RwG. -/
import Derived.Test.YtfjpbkmnlmecgaaGreatDoorQgu
section
/- The reference's Has. -/
namespace Go.Proofs.YtfjpbkmnlmecgaaGreatDoor.Ru
open Go.RowKit Go.PlainAid Go.Maps Go.Shelf Go.Proofs.YtfjpbkmnlmecgaaGreatDoor Go.Proofs.YtfjpbkmnlmecgaaGreatDoor.Bz
set_option linter.unusedVariables false
set_option linter.unusedSimpArgs false
set_option maxHeartbeats 4000000
set_option maxRecDepth 20000

theorem rfhas_any (a : Option Addr) (n c : Nat) (l : List (Int × Int)) (d : Int) (w : World) (h : Dy.Ds w a n c l) :
    Calls Tryz.prog 79 #[.slice a n c, .int .i64 d] w fun e w' => e = .returned (.bool (Dy.Dm l d)) ∧ Below w.heap.size w w' := by
  have HL := Lib.hid h.1
  have hcap := h.2.1
  have hmx := h.2.2.1
  unfold maxLen at hmx
  have H4 := Lib.hid h.2.2.2
  clear h
  go_enter Tryz.func79, Tryz.ntmps79
  go_wp2_with fail
  go_loopw [9] (fun v wr => ∃ j : Nat, j ≤ n ∧ v = .int .i64 j ∧ Hid (Dy.Dm (l.take j) d = false) ∧ Below w.heap.size w wr) (fun v wr => n - (intOf v).toNat)
  case atStart => exact ⟨0, by omega, rfl, rfl, Below.refl _ _⟩
  case round =>
    obtain ⟨j, hj, rfl, hm, hbw⟩ := hrel
    by_cases hjn : j < n
    · rcases H4.out with h0 | ⟨b, o, rfl, hb, hcell⟩
      · omega
      obtain ⟨⟨p1, p2⟩, hp⟩ : ∃ p, l[j]? = some p := ⟨_, List.getElem?_eq_getElem (by have h : l.length = n := HL.out; omega)⟩
      obtain ⟨x1, x2⟩ := hcell j _ hp
      have x1 := (hbw.cell (p := ⟨b, _, none⟩) hb).trans x1
      have x2 := (hbw.cell (p := ⟨b, _, none⟩) hb).trans x2
      dsimp only at x1 x2
      have hj0 : (0 : Int) ≤ (j : Int) := Int.natCast_nonneg _
      have hj1 : (j : Int) < (n : Int) := by omega
      have hbx : Below w.heap.size w (wr.alloc (.cells #[.int .i64 p1, .int .i64 p2] 80)) := hbw.alloc hbw.size _
      have HDT : Hid (Dy.Dm (l.take (j + 1)) d = (decide (p1 ≤ d) && decide (d ≤ p2))) := by
        show _ = _
        rw [dm_take l j _ hp d, hm.out, Bool.false_or]
        simp [Dy.Dm]
      have HYES : Hid (p1 ≤ d → d ≤ p2 → Dy.Dm l d = true) := fun h1 h2 => Dy.dm_iff.2 ⟨_, List.mem_of_getElem? hp, h1, h2⟩
      clear hcell hp
      by_cases g1 : p1 ≤ d
      · by_cases g2 : d ≤ p2
        · have hy := HYES.out g1 g2
          have HY := Lib.hid hy
          clear hy HYES HDT
          go_wp2_with fail
          go_ret
          exact ⟨by rw [HY.out]; rfl, hbx⟩
        · have HN : Hid (Dy.Dm (l.take (j + 1)) d = false) := HDT.out.trans (by rw [decide_eq_true g1, decide_eq_false g2]; rfl)
          clear HYES HDT
          go_wp2_with fail
          go_roundw
          case rel => exact ⟨j + 1, by omega, by go_num, HN.out, hbx⟩
          case measure => simp [intOf]; omega
      · have HN : Hid (Dy.Dm (l.take (j + 1)) d = false) := HDT.out.trans (by rw [decide_eq_false g1]; rfl)
        clear HYES HDT
        go_wp2_with fail
        go_roundw
        case rel => exact ⟨j + 1, by omega, by go_num, HN.out, hbx⟩
        case measure => simp [intOf]; omega
    · obtain rfl : j = n := by omega
      have HE : Hid (Dy.Dm l d = false) := by
        have h := hm.out
        rwa [List.take_of_length_le (by have h : l.length = j := HL.out; omega)] at h
      go_wp2_with fail
      go_ret
      exact ⟨by rw [HE.out]; rfl, hbw⟩
end Go.Proofs.YtfjpbkmnlmecgaaGreatDoor.Ru
end

section
/- The reference's Normal: plain law. -/
namespace Go.Proofs.YtfjpbkmnlmecgaaGreatDoor.Ru
open Go.RowKit Go.PlainAid Go.Maps Go.Shelf Go.Proofs.YtfjpbkmnlmecgaaGreatDoor Go.Proofs.YtfjpbkmnlmecgaaGreatDoor.Bz
set_option linter.unusedVariables false
set_option linter.unusedSimpArgs false

/-- What Normal's loop keeps at day d: S are the days; f: where the span under way starts (-1: there is none). -/
structure NmI (S : Int → Bool) (acc : List (Int × Int)) (f d : Int) : Prop where
  can : Dy.Can acc
  lo : f = -1 ∨ 0 ≤ f ∧ f < d
  ends : ∀ p ∈ acc, p.2 + 1 < (if f = -1 then d else f)
  mem : ∀ x, 0 ≤ x → x < (if f = -1 then d else f) → Dy.Dm acc x = S x
  run : f ≠ -1 → ∀ x, f ≤ x → x < d → S x = true
theorem dm_past {acc : List (Int × Int)} {d x : Int} (h : ∀ p ∈ acc, p.2 + 1 < d) (hx : d ≤ x + 1) : Dy.Dm acc x = false := by
  cases e : Dy.Dm acc x with
  | false => rfl
  | true =>
    obtain ⟨p, hp, h1, h2⟩ := Dy.dm_iff.1 e
    have := h p hp
    omega
theorem NmI.start (S : Int → Bool) : NmI S [] (-1) 0 := ⟨Dy.can_nil, .inl rfl, fun p hp => (by cases hp), fun x h0 h1 => (by rw [if_pos rfl] at h1; omega), fun h => absurd rfl h⟩
theorem NmI.begin {S : Int → Bool} {acc : List (Int × Int)} {d : Int} (h : NmI S acc (-1) d) (h0 : 0 ≤ d) (hs : S d = true) : NmI S acc d (d + 1) := by
  have h1 := h.ends
  have h2 := h.mem
  rw [if_pos rfl] at h1 h2
  have hne : d ≠ -1 := by omega
  refine ⟨h.can, .inr ⟨h0, by omega⟩, ?_, ?_, fun _ x hx hx2 => ?_⟩
  · rw [if_neg hne]; exact h1
  · rw [if_neg hne]; exact h2
  · rw [show x = d by omega]; exact hs
theorem NmI.more {S : Int → Bool} {acc : List (Int × Int)} {f d : Int} (h : NmI S acc f d) (hf : f ≠ -1) (hs : S d = true) : NmI S acc f (d + 1) := by
  have h1 := h.ends
  have h2 := h.mem
  rw [if_neg hf] at h1 h2
  refine ⟨h.can, .inr (by rcases h.lo with e | e; exact absurd e hf; omega), by rw [if_neg hf]; exact h1, by rw [if_neg hf]; exact h2, fun _ x hx hx2 => ?_⟩
  by_cases e : x = d
  · rw [e]; exact hs
  · exact h.run hf x hx (by omega)
theorem NmI.skip {S : Int → Bool} {acc : List (Int × Int)} {d : Int} (h : NmI S acc (-1) d) (hs : S d = false) : NmI S acc (-1) (d + 1) := by
  have h1 := h.ends
  have h2 := h.mem
  rw [if_pos rfl] at h1 h2
  refine ⟨h.can, .inl rfl, ?_, ?_, fun h => absurd rfl h⟩
  · rw [if_pos rfl]; exact fun p hp => by have := h1 p hp; omega
  · rw [if_pos rfl]
    intro x h0 hx
    by_cases e : x = d
    · rw [e, hs]; exact dm_past h1 (by omega)
    · exact h2 x h0 (by omega)
theorem NmI.close {S : Int → Bool} {acc : List (Int × Int)} {f d : Int} (h : NmI S acc f d) (hf : f ≠ -1) (hd : d ≤ 30001) (hs : S d = false) : NmI S (acc ++ [(f, d - 1)]) (-1) (d + 1) := by
  have h1 := h.ends
  have h2 := h.mem
  rw [if_neg hf] at h1 h2
  have hlo : 0 ≤ f ∧ f < d := by rcases h.lo with e | e; exact absurd e hf; exact e
  refine ⟨Dy.can_snoc ⟨hlo.1, by dsimp only; omega, by dsimp only; omega⟩ h.can (fun q hq => h1 q hq), .inl rfl, ?_, ?_, fun h => absurd rfl h⟩
  · rw [if_pos rfl]
    intro p hp
    rcases List.mem_append.1 hp with hp | hp
    · have := h1 p hp; omega
    · cases List.mem_singleton.1 hp; dsimp only; omega
  · rw [if_pos rfl]
    intro x h0 hx
    rw [Dy.dm_append]
    have e1 : Dy.Dm [(f, d - 1)] x = (decide (f ≤ x) && decide (x ≤ d - 1)) := by simp [Dy.Dm]
    rw [e1]
    by_cases hxf : x < f
    · rw [h2 x h0 hxf, decide_eq_false (by omega)]; simp
    · rw [dm_past h1 (by omega)]
      by_cases e : x = d
      · rw [e, hs, decide_eq_false (p := d ≤ d - 1) (by omega)]; simp
      · rw [h.run hf x (by omega) (by omega), decide_eq_true (show f ≤ x by omega), decide_eq_true (show x ≤ d - 1 by omega)]; rfl
/-- The days of Normal's argument. -/
def nmS' (l : List (Int × Int)) (d : Int) : Bool := decide (d ≤ 30000) && Dy.Dm l d
theorem NmI.done {l acc : List (Int × Int)} {f : Int} (h : NmI (nmS' l) acc f 30002) (hok : ∀ p ∈ l, Dy.Okp p) : Dy.Can acc ∧ ∀ d, Dy.Dm acc d = Dy.Dm l d := by
  have hf : f = -1 := by
    by_cases e : f = -1
    · exact e
    · have hlo : 0 ≤ f ∧ f < 30002 := by rcases h.lo with e' | e'; exact absurd e' e; exact e'
      have := h.run e 30001 (by omega) (by omega)
      unfold nmS' at this
      simp at this
  subst hf
  have h2 := h.mem
  rw [if_pos rfl] at h2
  have hout : ∀ x, (x < 0 ∨ 30000 < x) → Dy.Dm l x = false := fun x hx => by
    cases e : Dy.Dm l x with
    | false => rfl
    | true =>
      obtain ⟨p, hp, k1, k2⟩ := Dy.dm_iff.1 e
      have := hok p hp
      unfold Dy.Okp at this
      omega
  refine ⟨h.can, fun x => ?_⟩
  by_cases h0 : 0 ≤ x ∧ x ≤ 30000
  · rw [h2 x h0.1 (by omega)]
    unfold nmS'
    rw [decide_eq_true h0.2]; rfl
  · rw [hout x (by omega)]
    cases e : Dy.Dm acc x with
    | false => rfl
    | true => have := h.can.day e; omega
end Go.Proofs.YtfjpbkmnlmecgaaGreatDoor.Ru
end

section
/- The reference's Normal. -/
namespace Go.Proofs.YtfjpbkmnlmecgaaGreatDoor.Ru
open Go.RowKit Go.PlainAid Go.Maps Go.Shelf Go.Proofs.YtfjpbkmnlmecgaaGreatDoor Go.Proofs.YtfjpbkmnlmecgaaGreatDoor.Bz
set_option linter.unusedVariables false
set_option linter.unusedSimpArgs false
set_option maxHeartbeats 4000000
set_option maxRecDepth 20000

theorem infoI2 : (Tryz.prog.info? 80).map (fun i => (i.zero, i.size, i.bytes)) = some (some (.agg #[.int .i64 0, .int .i64 0]), 2, 16) := by kernel_rfl
/-- What Normal answers: a row of its own. -/
def NmP (w : World) (l : List (Int × Int)) (e : Ending) (w' : World) : Prop :=
  ∃ v r, e = .returned v ∧ Dy.Os 80 w' w.heap.size v r ∧ Dy.Can r ∧ (∀ d, Dy.Dm r d = Dy.Dm l d) ∧ Below w.heap.size w w'
theorem normal_any (a : Option Addr) (n c : Nat) (l : List (Int × Int)) (w : World) (h : Dy.Ds w a n c l) (hok : ∀ p ∈ l, Dy.Okp p) :
    Calls Tryz.prog 53 #[.slice a n c] w (NmP w l) := by
  obtain ⟨i0, hi, hz0, hz1, hz2⟩ := info_parts infoI2
  have HH := Lib.hid (fun d w' (hb : Below w.heap.size w w') => rfhas_any a n c l d w' (h.below hb (Nat.le_refl _)))
  have HOK := Lib.hid hok
  clear h hok
  go_enter Tryz.func53, Tryz.ntmps53
  go_wp2_with fail
  go_loopw [3, 4, 5] (fun v3 v4 v5 wr => ∃ (acc : List (Int × Int)) (f d : Int), 0 ≤ d ∧ d ≤ 30002 ∧ v4 = .int .i64 f ∧ v5 = .int .i64 d ∧ Dy.Os 80 wr w.heap.size v3 acc ∧ Hid (NmI (nmS' l) acc f d) ∧ Below w.heap.size w wr ∧ (acc.length : Int) ≤ d) (fun _ _ v wr => 30002 - (intOf v).toNat)
  case atStart => exact ⟨[], -1, 0, by omega, by omega, rfl, rfl, Dy.Os.nil _ _ _, NmI.start _, Below.refl _ _, by simp⟩
  case round =>
    obtain ⟨acc, f, d, hd0, hd1, rfl, rfl, hown, hI, hbw, hln⟩ := hrel
    have HW1 : Hid (IntKind.i64.wrap (d + 1) = d + 1) := by show _ = _; rw [IntKind.wrap_i64]; omega
    have HW2 : IntKind.i64.wrap (d - 1) = d - 1 := by rw [IntKind.wrap_i64]; omega
    have HW3 : IntKind.i64.wrap (d + 1) = d + 1 := HW1.out
    have hlo := hI.out.lo
    by_cases g0 : d ≤ 30001
    · by_cases g1 : d ≤ 30000
      · cases hm : Dy.Dm l d
        · have HDM := Lib.hid hm
          have HS : Hid (nmS' l d = false) := by show _ = _; unfold nmS'; rw [hm]; simp
          clear hm
          by_cases g2 : f = -1
          · subst g2
            go_wp2_with (first | (go_at_call 79; refine (HH.out d _ hbw).mono ?_; rintro en w5 ⟨rfl, hb5⟩; rw [HDM.out]; have hb6 := hbw.trans (hb5.mono hbw.size); have ho5 := Dy.Os.below hown (Nat.le_refl _) hb5))
            go_roundw
            case rel => exact ⟨acc, -1, d + 1, by omega, by omega, rfl, rfl, ho5, hI.out.skip HS.out, hb6, by omega⟩
            case measure => simp [intOf, HW1.out]; omega
          · have g3 : ¬ f < 0 := by rcases hlo with e | e; exact absurd e g2; omega
            have g4 : 0 ≤ f := by omega
            go_wp2_with (first | (go_at_call 79; refine (HH.out d _ hbw).mono ?_; rintro en w5 ⟨rfl, hb5⟩; rw [HDM.out]; have hb6 := hbw.trans (hb5.mono hbw.size); have ho5 := Dy.Os.below hown (Nat.le_refl _) hb5) | (at_builtin; refine Dy.wpList_append_ds rfl (.tmp 30) (.tmp 35) 33 80 rfl Tryz.underlying33 w.heap.size i0 hi hz0 hz1 hz2 _ _ rfl (Dy.Os.alloc ho5 (.cells #[.int .i64 f, .int .i64 (d - 1)] 80)) _ 1 1 [(f, d - 1)] rfl (Dy.Ds.one _ _ _ _ _ rfl) (by omega) (by have := hb6.size; simp; omega) ?_; intro v8 w8 ho8 hg8; have hb8 := (hb6.alloc hb6.size (.cells #[.int .i64 f, .int .i64 (d - 1)] 80)).grown hg8 (by have := hb6.size; simp; omega) (fun b hb => (ho5.lt b hb).1)))
            go_roundw
            case rel => exact ⟨acc ++ [(f, d - 1)], -1, d + 1, by omega, by omega, rfl, rfl, ho8, hI.out.close g2 (by omega) HS.out, hb8, by rw [List.length_append]; simp; omega⟩
            case measure => simp [intOf, HW1.out]; omega
        · have HDM := Lib.hid hm
          have HS : Hid (nmS' l d = true) := by show _ = _; unfold nmS'; rw [hm, decide_eq_true g1]; rfl
          clear hm
          by_cases g2 : f = -1
          · subst g2
            go_wp2_with (first | (go_at_call 79; refine (HH.out d _ hbw).mono ?_; rintro en w5 ⟨rfl, hb5⟩; rw [HDM.out]; have hb6 := hbw.trans (hb5.mono hbw.size); have ho5 := Dy.Os.below hown (Nat.le_refl _) hb5))
            go_roundw
            case rel => exact ⟨acc, d, d + 1, by omega, by omega, rfl, rfl, ho5, hI.out.begin hd0 HS.out, hb6, by omega⟩
            case measure => simp [intOf, HW1.out]; omega
          · have g3 : ¬ f < 0 := by rcases hlo with e | e; exact absurd e g2; omega
            have g4 : 0 ≤ f := by omega
            go_wp2_with (first | (go_at_call 79; refine (HH.out d _ hbw).mono ?_; rintro en w5 ⟨rfl, hb5⟩; rw [HDM.out]; have hb6 := hbw.trans (hb5.mono hbw.size); have ho5 := Dy.Os.below hown (Nat.le_refl _) hb5))
            go_roundw
            case rel => exact ⟨acc, f, d + 1, by omega, by omega, rfl, rfl, ho5, hI.out.more g2 HS.out, hb6, by omega⟩
            case measure => simp [intOf, HW1.out]; omega
      · have HS : Hid (nmS' l d = false) := by show _ = _; unfold nmS'; rw [decide_eq_false g1]; rfl
        by_cases g2 : f = -1
        · subst g2
          go_wp2_with fail
          go_roundw
          case rel => exact ⟨acc, -1, d + 1, by omega, by omega, rfl, rfl, hown, hI.out.skip HS.out, hbw, by omega⟩
          case measure => simp [intOf, HW1.out]; omega
        · have g3 : ¬ f < 0 := by rcases hlo with e | e; exact absurd e g2; omega
          have g4 : 0 ≤ f := by omega
          go_wp2_with (first | (at_builtin; refine Dy.wpList_append_ds rfl (.tmp 30) (.tmp 35) 33 80 rfl Tryz.underlying33 w.heap.size i0 hi hz0 hz1 hz2 _ _ rfl (Dy.Os.alloc hown (.cells #[.int .i64 f, .int .i64 (d - 1)] 80)) _ 1 1 [(f, d - 1)] rfl (Dy.Ds.one _ _ _ _ _ rfl) (by omega) (by have := hbw.size; simp; omega) ?_; intro v8 w8 ho8 hg8; have hb8 := (hbw.alloc hbw.size (.cells #[.int .i64 f, .int .i64 (d - 1)] 80)).grown hg8 (by have := hbw.size; simp; omega) (fun b hb => (hown.lt b hb).1)))
          go_roundw
          case rel => exact ⟨acc ++ [(f, d - 1)], -1, d + 1, by omega, by omega, rfl, rfl, ho8, hI.out.close g2 (by omega) HS.out, hb8, by rw [List.length_append]; simp; omega⟩
          case measure => simp [intOf, HW1.out]; omega
    · obtain rfl : d = 30002 := by omega
      have HD := Lib.hid (hI.out.done HOK.out)
      go_wp2_with fail
      go_returns
      exact ⟨_, acc, rfl, hown, HD.out.1, HD.out.2, hbw⟩
end Go.Proofs.YtfjpbkmnlmecgaaGreatDoor.Ru
end

section
/- Raw.plain: the days that it keeps, in plain words. -/
namespace Go.Proofs.YtfjpbkmnlmecgaaGreatDoor.Ru
open Go.RowKit Go.PlainAid Go.Maps Go.Shelf Go.Proofs.YtfjpbkmnlmecgaaGreatDoor Go.Proofs.YtfjpbkmnlmecgaaGreatDoor.Bz
set_option linter.unusedVariables false
set_option linter.unusedSimpArgs false
set_option maxHeartbeats 4000000
set_option maxRecDepth 20000

/-- The spans that Raw.plain keeps. -/
def keepP (p : Int × Int) : Bool := decide (0 ≤ p.1) && (decide (p.1 ≤ p.2) && decide (p.2 ≤ 30000))
def plainL (l : List (Int × Int)) : List (Int × Int) := (l.take 6).filter keepP
theorem keepP_iff {p : Int × Int} : keepP p = true ↔ 0 ≤ p.1 ∧ p.1 ≤ p.2 ∧ p.2 ≤ 30000 := by
  unfold keepP; simp
theorem plainL_ok (l : List (Int × Int)) : ∀ p ∈ plainL l, Dy.Okp p := by
  intro p hp
  have h := keepP_iff.1 (List.mem_filter.1 hp).2
  unfold Dy.Okp
  omega
theorem keep_step {l : List (Int × Int)} {j : Nat} {p : Int × Int} (h : l[j]? = some p) :
    (l.take (j + 1)).filter keepP = (l.take j).filter keepP ++ (if keepP p then [p] else []) := by
  rw [List.take_add_one, h, List.filter_append]
  cases hk : keepP p <;> simp [hk]
theorem keep_yes {l : List (Int × Int)} {j : Nat} {p : Int × Int} (h : l[j]? = some p) (h0 : 0 ≤ p.1) (h1 : p.1 ≤ p.2) (h2 : p.2 ≤ 30000) :
    (l.take (j + 1)).filter keepP = (l.take j).filter keepP ++ [p] := by
  rw [keep_step h, if_pos (keepP_iff.2 ⟨h0, h1, h2⟩)]
theorem keep_no {l : List (Int × Int)} {j : Nat} {p : Int × Int} (h : l[j]? = some p) (h0 : ¬ (0 ≤ p.1 ∧ p.1 ≤ p.2 ∧ p.2 ≤ 30000)) :
    (l.take (j + 1)).filter keepP = (l.take j).filter keepP := by
  rw [keep_step h, if_neg (fun hk => h0 (keepP_iff.1 hk)), List.append_nil]
theorem keep_len (l : List (Int × Int)) (j : Nat) : ((l.take j).filter keepP).length ≤ j :=
  Nat.le_trans (List.length_filter_le _ _) (by rw [List.length_take]; omega)
/-- The memory of a row of pairs of small ints. -/
def Ss (w : World) (a : Option Addr) (n cap : Nat) (l : List (Int × Int)) : Prop :=
  l.length = n ∧ n ≤ cap ∧ cap ≤ maxLen ∧ (n = 0 ∨ ∃ b o, a = some ⟨b, o, none⟩ ∧ b < w.heap.size ∧
    ∀ j p, l[j]? = some p → w.cell? ⟨b, o + j * 2, none⟩ = some (.int .i16 p.1) ∧ w.cell? ⟨b, o + j * 2 + 1, none⟩ = some (.int .i16 p.2))
theorem Ss.below {w w' : World} {a : Option Addr} {n cap N : Nat} {l : List (Int × Int)} (h : Ss w a n cap l) (hb : Below N w w') (hN : w.heap.size ≤ N) : Ss w' a n cap l := by
  obtain ⟨h1, h2, h3, h4⟩ := h
  refine ⟨h1, h2, h3, ?_⟩
  rcases h4 with h4 | ⟨b, o, ha, hlt, h5⟩
  · exact .inl h4
  · refine .inr ⟨b, o, ha, Nat.lt_of_lt_of_le hlt hb.size, fun j p hp => ?_⟩
    obtain ⟨c1, c2⟩ := h5 j p hp
    exact ⟨(hb.cell (p := ⟨b, _, none⟩) (Nat.lt_of_lt_of_le hlt hN)).trans c1, (hb.cell (p := ⟨b, _, none⟩) (Nat.lt_of_lt_of_le hlt hN)).trans c2⟩
end Go.Proofs.YtfjpbkmnlmecgaaGreatDoor.Ru
end
