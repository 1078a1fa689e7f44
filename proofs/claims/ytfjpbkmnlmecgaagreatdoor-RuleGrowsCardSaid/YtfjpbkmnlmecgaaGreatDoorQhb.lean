/- ref.Make: the rules that it makes are valid. -/
import Derived.Test.YtfjpbkmnlmecgaaGreatDoorQha
import Derived.Test.YtfjpbkmnlmecgaaGreatDoorQgv
import Derived.Test.YtfjpbkmnlmecgaaGreatDoorQgi
import Derived.Deep.DeepCutAuto
namespace Go.Proofs.YtfjpbkmnlmecgaaGreatDoor.Ru
open Go.RowKit Go.PlainAid Go.Maps Go.Shelf Go.Proofs.YtfjpbkmnlmecgaaGreatDoor Go.Proofs.YtfjpbkmnlmecgaaGreatDoor.Bz
set_option linter.unusedVariables false
set_option linter.unusedSimpArgs false
set_option maxHeartbeats 8000000
set_option maxRecDepth 20000

theorem rem_nat (v n : Nat) : ((v : Nat) : Int).tmod ((n : Nat) : Int) = ((v % n : Nat) : Int) := by
  rw [Int.tmod_eq_emod_of_nonneg (Int.natCast_nonneg _)]
  exact (Int.natCast_emod v n).symm
theorem build_fr (rv : Bool) (a : Option Addr) (n c : Nat) (w : World) : (Instr.build 35 #[(0, .bool rv), (5, .slice a n c)]).run Tryz.prog w = .ok (.agg #[.bool rv, .int .i64 0, .int .i64 0, .int .u64 0, .int .u64 0, .slice a n c, .int .i64 0]) w := run_build w 35 _ _ (by kernel_rfl)
theorem DtF {w : World} {a : Option Addr} {n cap g : Nat} {l : List (Int × Int)} {us zs : List Value} (h : Dt w a n cap l) (hg : w.heap[g]? = some (.cells zs.toArray 35 (0, 0))) : Dt (Bk.fillC w g 0 us) a n cap l :=
  h.fill hg (by decide) (Nat.le_of_eq (fillC_size _ _ _ _).symm) (fun b hb => Bk.fillC_heap hb _ _ _)
theorem rmake_any (pa ra aa : Option Addr) (pn pc rn rc an ac : Nat) (ps : List Nat) (R A : List Int) (w : World) (hp : Bw w pa pn pc ps) (hr : Iw w ra rn rc R) (ha : Iw w aa an ac A) (hR : ∀ x ∈ R, 1 ≤ x ∧ x ≤ 63) (hr0 : 0 < rn) (hr1 : rn ≤ 1000) (ha0 : 0 < an) (ha1 : an ≤ 1000) :
    Calls Tryz.prog 92 #[.slice pa pn pc, .slice ra rn rc, .slice aa an ac] w fun e w' => ∃ a n c l, e = .returned (.slice a n c) ∧ Fs w' a n c l ∧ (∀ f ∈ l, Val R A f) ∧ l.length ≤ 6 ∧ Below w.heap.size w w' := by
  obtain ⟨i0, hi0, hz0, hz1, hz2⟩ := info_parts infoFr
  have HAT := Lib.hid (fun (z : Int) (h0 : 0 ≤ z) (h1 : z < 1000) w' (hb : Below w.heap.size w w') => show Calls Tryz.prog 173 #[.slice pa pn pc, .int .i64 z] w' fun e w2 => ∃ v : Nat, e = .returned (.int .i64 (v : Nat)) ∧ v ≤ 255 ∧ Below w'.heap.size w' w2 from by
    obtain ⟨k, rfl⟩ : ∃ k : Nat, z = k := ⟨z.toNat, by omega⟩
    exact at_any pa pn pc ps k w' (hp.below hb) (by omega))
  obtain ⟨hp1, hp2, hp3, hp4, hp5⟩ := hp
  obtain ⟨hr2, hr3, hr4, hr5⟩ := hr
  obtain ⟨ha2, ha3, ha4, ha5⟩ := ha
  rcases hr5 with ⟨_, h0, _⟩ | ⟨rb, ro, rfl, hrb, hrc⟩
  · omega
  rcases ha5 with ⟨_, h0, _⟩ | ⟨ab, ao, rfl, hab, hac⟩
  · omega
  have HRC := Lib.hid (fun (j : Nat) (hj : j < rn) w' (hb : Below w.heap.size w w') => (hb.cell (p := ⟨rb, ro + j, none⟩) hrb).trans (hrc j hj))
  have HAC := Lib.hid (fun (j : Nat) (hj : j < an) w' (hb : Below w.heap.size w w') => (hb.cell (p := ⟨ab, ao + j, none⟩) hab).trans (hac j hj))
  have HRM : Hid (∀ j, j < rn → zg R j ∈ R) := fun j hj => by
    unfold zg; rw [List.getD_eq_getElem?_getD, List.getElem?_eq_getElem (by omega)]; exact List.getElem_mem _
  have HAM : Hid (∀ j, j < an → zg A j ∈ A) := fun j hj => by
    unfold zg; rw [List.getD_eq_getElem?_getD, List.getElem?_eq_getElem (by omega)]; exact List.getElem_mem _
  have HRR := Lib.hid hR
  have HPC : Hid (∀ j, j < pn → ∃ pb po, pa = some ⟨pb, po, none⟩ ∧ pb < w.heap.size ∧ w.cell? ⟨pb, po + j, none⟩ = some (.int .u8 (wd ps j : Nat)) ∧ wd ps j ≤ 255) := fun j hj => by
    rcases hp5 with h5 | ⟨b, o, e, hb, hc⟩
    · omega
    · refine ⟨b, o, e, hb, hc j hj, ?_⟩
      unfold wd
      rw [List.getD_eq_getElem?_getD, List.getElem?_eq_getElem (by omega)]
      have := hp4 _ (List.getElem_mem (l := ps) (n := j) (by omega))
      simp only [Option.getD_some]; omega
  have hrn0 : ¬ ((rn : Nat) : Int) = 0 := by omega
  have han0 : ¬ ((an : Nat) : Int) = 0 := by omega
  clear hrc hac hp4 hp5 hR hr2 ha2 hp1
  go_enter Tryz.func92, Tryz.ntmps92
  go_wp2_with fail
  go_loopw [7, 8] (fun v7 v8 wr => ∃ (i : Nat) (hs : List Hf) (l : List Fr), i = 8 * hs.length ∧ v8 = .int .i64 (i : Nat) ∧ hs.length ≤ 6 ∧ Ok frE 35 wr w.heap.size v7 hs ∧ AllF wr hs l ∧ (∀ f ∈ l, Val R A f) ∧ Below w.heap.size w wr) (fun _ v _ => 56 - (intOf v).toNat)
  case atStart => exact ⟨0, [], [], rfl, rfl, by simp, Ok.nil _ _ _ _, AllF.nil _, (by intro f h; cases h), Below.refl _ _⟩
  case round =>
    obtain ⟨i, hs, l, hi, rfl, hl6, hown, hall, hval, hbw⟩ := hrel
    obtain ⟨a7, n7, c7, hv7, hn7, hd7⟩ := Ok.dn (by decide) hown
    subst hv7
    have hw8 : IntKind.i64.wrap ((i : Int) + 8) = (i : Int) + 8 := by rw [IntKind.wrap_i64]; omega
    have hi48 : i ≤ 48 := by omega
    have HI := Lib.hid hi
    have HN7 := Lib.hid hn7
    clear hi hn7
    by_cases hc8 : i + 8 ≤ pn ∧ n7 < 6
    · obtain ⟨g1, g2⟩ := hc8
      have g1i : (i : Int) + 8 ≤ (pn : Int) := by omega
      have g2i : (n7 : Int) < 6 := by omega
      obtain ⟨pb, po, hpa, hpb, hpc, hb255⟩ := HPC.out i (by omega)
      subst hpa
      have hpx := (hbw.cell (p := ⟨pb, _, none⟩) hpb).trans hpc
      generalize wd ps i = bb at *
      clear hpc
      have hgi : (i : Int) < (pn : Int) := by omega
      have hgi0 : (0 : Int) ≤ (i : Int) := by omega
      have HS := Lib.hid (And.intro hown (And.intro hall hval))
      clear hown hall hval hd7
      obtain ⟨rv, hrv⟩ : ∃ rv : Bool, rv = (((bb : Int).tmod 4) == 3) := ⟨_, rfl⟩
      have HRV := Lib.hid hrv
      clear hrv
      have hpb2 : pb < wr.heap.size := Nat.lt_of_lt_of_le hpb hbw.size
      go_upto_region 5 with fail
      refine Bk.region_boxes 35 [.bool false, .int .i64 0, .int .i64 0, .int .u64 0, .int .u64 0, .slice none 0 0, .int .i64 0] _ [⟨8, 9, (fun cs w => ∃ a n c, cs = [.bool rv, .int .i64 0, .int .i64 0, .int .u64 0, .int .u64 0, .slice a n c, .int .i64 0] ∧ Dt w a n c [(0, 30000)])⟩] [some 25, some 26, some 27, some 28, some 29, some 30, some 31, some 32, some 9, none]
        [fun v _ => v = .slice (some ⟨pb, po, none⟩) pn pc,
         fun v _ => v = .int .i64 (i : Nat),
         fun v _ => v = .pointer (some ⟨pb, po + i, none⟩),
         fun v _ => v = .int .u8 (bb : Nat),
         fun v _ => v = .int .u8 ((bb : Int).tmod 4),
         fun v _ => v = .bool rv,
         fun v w => ∃ a n c, v = .slice a n c ∧ Dt w a n c [(0, 30000)],
         fun v w => ∃ a n c, v = .agg #[.bool rv, .int .i64 0, .int .i64 0, .int .u64 0, .int .u64 0, .slice a n c, .int .i64 0] ∧ Dt w a n c [(0, 30000)],
         fun _ _ => True,
         fun _ _ => True] (by kernel_rfl) (by kernel_rfl) rfl [u25, u26, u27, u28, u29, u30, u31, u32, u9, undef] (by simp only [Bk.putsO, List.set_cons_zero, List.set_cons_succ, Act.put, List.setIfInBounds_toArray]) rfl rfl (by simp) ?_ ?_ ?_ ⟨?_, ?_, ?_, ?_, ?_, ?_, ?_, ?_, ?_, ?_, trivial⟩ ?_
      · intro j D hj v w w' hb hD
        match j, hj with
        | 0, hj => cases hj; exact hD
        | 1, hj => cases hj; exact hD
        | 2, hj => cases hj; exact hD
        | 3, hj => cases hj; exact hD
        | 4, hj => cases hj; exact hD
        | 5, hj => cases hj; exact hD
        | 6, hj => cases hj; obtain ⟨a, n, c, e, h⟩ := hD; exact ⟨a, n, c, e, h.below hb⟩
        | 7, hj => cases hj; obtain ⟨a, n, c, e, h⟩ := hD; exact ⟨a, n, c, e, h.below hb⟩
        | 8, hj => cases hj; exact hD
        | 9, hj => cases hj; exact hD
        | j + 10, hj => cases hj
      · intro j D hj v w g us hc hD
        match j, hj with
        | 0, hj => cases hj; exact hD
        | 1, hj => cases hj; exact hD
        | 2, hj => cases hj; exact hD
        | 3, hj => cases hj; exact hD
        | 4, hj => cases hj; exact hD
        | 5, hj => cases hj; exact hD
        | 6, hj => cases hj; obtain ⟨a, n, c, e, h⟩ := hD; exact ⟨a, n, c, e, DtF h hc⟩
        | 7, hj => cases hj; obtain ⟨a, n, c, e, h⟩ := hD; exact ⟨a, n, c, e, DtF h hc⟩
        | 8, hj => cases hj; exact hD
        | 9, hj => cases hj; exact hD
        | j + 10, hj => cases hj
      · intro b hbm; simp only [List.mem_cons, List.not_mem_nil, or_false] at hbm
        obtain rfl := hbm
        · exact ⟨fun cs w w' hb h => by obtain ⟨a, n, c, e, h⟩ := h; exact ⟨a, n, c, e, h.below hb⟩, fun cs w g us hc h => by obtain ⟨a, n, c, e, h⟩ := h; exact ⟨a, n, c, e, DtF h hc⟩⟩
      · refine ⟨.plain, [], by decide, by simp, fun vs w hl hR hd K hK => ?_⟩
        obtain ⟨v0, vs, rfl, hl1⟩ := len_succ hl
        obtain ⟨v1, vs, rfl, hl2⟩ := len_succ hl1
        obtain ⟨v2, vs, rfl, hl3⟩ := len_succ hl2
        obtain ⟨v3, vs, rfl, hl4⟩ := len_succ hl3
        obtain ⟨v4, vs, rfl, hl5⟩ := len_succ hl4
        obtain ⟨v5, vs, rfl, hl6⟩ := len_succ hl5
        obtain ⟨v6, vs, rfl, hl7⟩ := len_succ hl6
        obtain ⟨v7, vs, rfl, hl8⟩ := len_succ hl7
        obtain ⟨v8, vs, rfl, hl9⟩ := len_succ hl8
        obtain ⟨v9, vs, rfl, hl10⟩ := len_succ hl9
        obtain rfl := len_zero hl10
        clear hd hl hl1 hl2 hl3 hl4 hl5 hl6 hl7 hl8 hl9 hl10
        replace hK := hK.out
        simp only [Bk.putsO, List.set_cons_zero, List.set_cons_succ, Act.put, List.setIfInBounds_toArray] at hK ⊢
        have hK' : Shut _ := hK
        clear hK
        go_simp
        (try go_wp2_with fail)
        exact hK'.out _ _ (Below.refl _ _) (fun D hD => by cases hD; rfl)
      · refine ⟨.plain, [], by decide, by simp, fun vs w hl hR hd K hK => ?_⟩
        obtain ⟨v0, vs, rfl, hl1⟩ := len_succ hl
        obtain ⟨v1, vs, rfl, hl2⟩ := len_succ hl1
        obtain ⟨v2, vs, rfl, hl3⟩ := len_succ hl2
        obtain ⟨v3, vs, rfl, hl4⟩ := len_succ hl3
        obtain ⟨v4, vs, rfl, hl5⟩ := len_succ hl4
        obtain ⟨v5, vs, rfl, hl6⟩ := len_succ hl5
        obtain ⟨v6, vs, rfl, hl7⟩ := len_succ hl6
        obtain ⟨v7, vs, rfl, hl8⟩ := len_succ hl7
        obtain ⟨v8, vs, rfl, hl9⟩ := len_succ hl8
        obtain ⟨v9, vs, rfl, hl10⟩ := len_succ hl9
        obtain rfl := len_zero hl10
        clear hd hl hl1 hl2 hl3 hl4 hl5 hl6 hl7 hl8 hl9 hl10
        replace hK := hK.out
        simp only [Bk.putsO, List.set_cons_zero, List.set_cons_succ, Act.put, List.setIfInBounds_toArray] at hK ⊢
        have hK' : Shut _ := hK
        clear hK
        go_simp
        (try go_wp2_with fail)
        exact hK'.out _ _ (Below.refl _ _) (fun D hD => by cases hD; rfl)
      · refine ⟨.plain, [0, 1], by decide, by simp, fun vs w hl hR hd K hK => ?_⟩
        obtain ⟨v0, vs, rfl, hl1⟩ := len_succ hl
        obtain ⟨v1, vs, rfl, hl2⟩ := len_succ hl1
        obtain ⟨v2, vs, rfl, hl3⟩ := len_succ hl2
        obtain ⟨v3, vs, rfl, hl4⟩ := len_succ hl3
        obtain ⟨v4, vs, rfl, hl5⟩ := len_succ hl4
        obtain ⟨v5, vs, rfl, hl6⟩ := len_succ hl5
        obtain ⟨v6, vs, rfl, hl7⟩ := len_succ hl6
        obtain ⟨v7, vs, rfl, hl8⟩ := len_succ hl7
        obtain ⟨v8, vs, rfl, hl9⟩ := len_succ hl8
        obtain ⟨v9, vs, rfl, hl10⟩ := len_succ hl9
        obtain rfl := len_zero hl10
        have dd := hd 0 (by simp) _ rfl; simp only [List.getD_cons_zero, List.getD_cons_succ] at dd; obtain rfl := dd
        have dd := hd 1 (by simp) _ rfl; simp only [List.getD_cons_zero, List.getD_cons_succ] at dd; obtain rfl := dd
        clear hd hl hl1 hl2 hl3 hl4 hl5 hl6 hl7 hl8 hl9 hl10
        replace hK := hK.out
        simp only [Bk.putsO, List.set_cons_zero, List.set_cons_succ, Act.put, List.setIfInBounds_toArray] at hK ⊢
        have hK' : Shut _ := hK
        clear hK
        go_simp
        (try go_wp2_with fail)
        exact hK'.out _ _ (Below.refl _ _) (fun D hD => by cases hD; rfl)
      · refine ⟨.plain, [2], by decide, by simp, fun vs w hl hR hd K hK => ?_⟩
        obtain ⟨v0, vs, rfl, hl1⟩ := len_succ hl
        obtain ⟨v1, vs, rfl, hl2⟩ := len_succ hl1
        obtain ⟨v2, vs, rfl, hl3⟩ := len_succ hl2
        obtain ⟨v3, vs, rfl, hl4⟩ := len_succ hl3
        obtain ⟨v4, vs, rfl, hl5⟩ := len_succ hl4
        obtain ⟨v5, vs, rfl, hl6⟩ := len_succ hl5
        obtain ⟨v6, vs, rfl, hl7⟩ := len_succ hl6
        obtain ⟨v7, vs, rfl, hl8⟩ := len_succ hl7
        obtain ⟨v8, vs, rfl, hl9⟩ := len_succ hl8
        obtain ⟨v9, vs, rfl, hl10⟩ := len_succ hl9
        obtain rfl := len_zero hl10
        have dd := hd 2 (by simp) _ rfl; simp only [List.getD_cons_zero, List.getD_cons_succ] at dd; obtain rfl := dd
        clear hd hl hl1 hl2 hl3 hl4 hl5 hl6 hl7 hl8 hl9 hl10
        replace hK := hK.out
        simp only [Bk.putsO, List.set_cons_zero, List.set_cons_succ, Act.put, List.setIfInBounds_toArray] at hK ⊢
        have hK' : Shut _ := hK
        clear hK
        have q0 := (hR.cell (p := ⟨pb, po + i, none⟩) hpb2).trans hpx
        go_simp
        (try go_wp2_with fail)
        exact hK'.out _ _ (Below.refl _ _) (fun D hD => by cases hD; rfl)
      · refine ⟨.plain, [3], by decide, by simp, fun vs w hl hR hd K hK => ?_⟩
        obtain ⟨v0, vs, rfl, hl1⟩ := len_succ hl
        obtain ⟨v1, vs, rfl, hl2⟩ := len_succ hl1
        obtain ⟨v2, vs, rfl, hl3⟩ := len_succ hl2
        obtain ⟨v3, vs, rfl, hl4⟩ := len_succ hl3
        obtain ⟨v4, vs, rfl, hl5⟩ := len_succ hl4
        obtain ⟨v5, vs, rfl, hl6⟩ := len_succ hl5
        obtain ⟨v6, vs, rfl, hl7⟩ := len_succ hl6
        obtain ⟨v7, vs, rfl, hl8⟩ := len_succ hl7
        obtain ⟨v8, vs, rfl, hl9⟩ := len_succ hl8
        obtain ⟨v9, vs, rfl, hl10⟩ := len_succ hl9
        obtain rfl := len_zero hl10
        have dd := hd 3 (by simp) _ rfl; simp only [List.getD_cons_zero, List.getD_cons_succ] at dd; obtain rfl := dd
        clear hd hl hl1 hl2 hl3 hl4 hl5 hl6 hl7 hl8 hl9 hl10
        replace hK := hK.out
        simp only [Bk.putsO, List.set_cons_zero, List.set_cons_succ, Act.put, List.setIfInBounds_toArray] at hK ⊢
        have hK' : Shut _ := hK
        clear hK
        go_simp
        (try go_wp2_with fail)
        exact hK'.out _ _ (Below.refl _ _) (fun D hD => by cases hD; rfl)
      · refine ⟨.plain, [4], by decide, by simp, fun vs w hl hR hd K hK => ?_⟩
        obtain ⟨v0, vs, rfl, hl1⟩ := len_succ hl
        obtain ⟨v1, vs, rfl, hl2⟩ := len_succ hl1
        obtain ⟨v2, vs, rfl, hl3⟩ := len_succ hl2
        obtain ⟨v3, vs, rfl, hl4⟩ := len_succ hl3
        obtain ⟨v4, vs, rfl, hl5⟩ := len_succ hl4
        obtain ⟨v5, vs, rfl, hl6⟩ := len_succ hl5
        obtain ⟨v6, vs, rfl, hl7⟩ := len_succ hl6
        obtain ⟨v7, vs, rfl, hl8⟩ := len_succ hl7
        obtain ⟨v8, vs, rfl, hl9⟩ := len_succ hl8
        obtain ⟨v9, vs, rfl, hl10⟩ := len_succ hl9
        obtain rfl := len_zero hl10
        have dd := hd 4 (by simp) _ rfl; simp only [List.getD_cons_zero, List.getD_cons_succ] at dd; obtain rfl := dd
        clear hd hl hl1 hl2 hl3 hl4 hl5 hl6 hl7 hl8 hl9 hl10
        replace hK := hK.out
        simp only [Bk.putsO, List.set_cons_zero, List.set_cons_succ, Act.put, List.setIfInBounds_toArray] at hK ⊢
        have hK' : Shut _ := hK
        clear hK
        go_simp
        have hrv := HRV.out; rw [← hrv]
        (try go_wp2_with fail)
        exact hK'.out _ _ (Below.refl _ _) (fun D hD => by cases hD; rfl)
      · refine ⟨.plain, [], by decide, by simp, fun vs w hl hR hd K hK => ?_⟩
        obtain ⟨v0, vs, rfl, hl1⟩ := len_succ hl
        obtain ⟨v1, vs, rfl, hl2⟩ := len_succ hl1
        obtain ⟨v2, vs, rfl, hl3⟩ := len_succ hl2
        obtain ⟨v3, vs, rfl, hl4⟩ := len_succ hl3
        obtain ⟨v4, vs, rfl, hl5⟩ := len_succ hl4
        obtain ⟨v5, vs, rfl, hl6⟩ := len_succ hl5
        obtain ⟨v6, vs, rfl, hl7⟩ := len_succ hl6
        obtain ⟨v7, vs, rfl, hl8⟩ := len_succ hl7
        obtain ⟨v8, vs, rfl, hl9⟩ := len_succ hl8
        obtain ⟨v9, vs, rfl, hl10⟩ := len_succ hl9
        obtain rfl := len_zero hl10
        clear hd hl hl1 hl2 hl3 hl4 hl5 hl6 hl7 hl8 hl9 hl10
        replace hK := hK.out
        simp only [Bk.putsO, List.set_cons_zero, List.set_cons_succ, Act.put, List.setIfInBounds_toArray] at hK ⊢
        have hK' : Shut _ := hK
        clear hK
        go_simp
        go_at_call 161; (with_reducible refine (rall_any _).mono ?_); rintro e w2 ⟨a, n, c, rfl, hd, hb⟩
        (try go_wp2_with fail)
        exact hK'.out _ _ (hb) (fun D hD => by cases hD; exact ⟨a, n, c, rfl, hd⟩)
      · refine ⟨.plain, [5, 6], by decide, by simp, fun vs w hl hR hd K hK => ?_⟩
        obtain ⟨v0, vs, rfl, hl1⟩ := len_succ hl
        obtain ⟨v1, vs, rfl, hl2⟩ := len_succ hl1
        obtain ⟨v2, vs, rfl, hl3⟩ := len_succ hl2
        obtain ⟨v3, vs, rfl, hl4⟩ := len_succ hl3
        obtain ⟨v4, vs, rfl, hl5⟩ := len_succ hl4
        obtain ⟨v5, vs, rfl, hl6⟩ := len_succ hl5
        obtain ⟨v6, vs, rfl, hl7⟩ := len_succ hl6
        obtain ⟨v7, vs, rfl, hl8⟩ := len_succ hl7
        obtain ⟨v8, vs, rfl, hl9⟩ := len_succ hl8
        obtain ⟨v9, vs, rfl, hl10⟩ := len_succ hl9
        obtain rfl := len_zero hl10
        have dd := hd 5 (by simp) _ rfl; simp only [List.getD_cons_zero, List.getD_cons_succ] at dd; obtain rfl := dd
        have dd := hd 6 (by simp) _ rfl; simp only [List.getD_cons_zero, List.getD_cons_succ] at dd; refine dd.elim ?_; clear dd; intro a ha; refine ha.elim ?_; intro n hn; refine hn.elim ?_; intro c hc; have e1 := hc.1; have hd := hc.2; clear ha hn hc; subst e1
        clear hd hl hl1 hl2 hl3 hl4 hl5 hl6 hl7 hl8 hl9 hl10
        replace hK := hK.out
        simp only [Bk.putsO, List.set_cons_zero, List.set_cons_succ, Act.put, List.setIfInBounds_toArray] at hK ⊢
        have hK' : Shut _ := hK
        clear hK
        have hbd := build_fr rv a n c
        go_simp
        (try go_wp2_with fail)
        exact hK'.out _ _ (Below.refl _ _) (fun D hD => by cases hD; exact ⟨a, n, c, rfl, hd⟩)
      · refine ⟨.box ⟨8, 9, (fun cs w => ∃ a n c, cs = [.bool rv, .int .i64 0, .int .i64 0, .int .u64 0, .int .u64 0, .slice a n c, .int .i64 0] ∧ Dt w a n c [(0, 30000)])⟩, [], by decide, by simp, rfl, by simp, (fun D hD => by cases hD; exact fun _ _ => trivial), fun vs w hl K hK => ?_⟩
        obtain ⟨v0, vs, rfl, hl1⟩ := len_succ hl
        obtain ⟨v1, vs, rfl, hl2⟩ := len_succ hl1
        obtain ⟨v2, vs, rfl, hl3⟩ := len_succ hl2
        obtain ⟨v3, vs, rfl, hl4⟩ := len_succ hl3
        obtain ⟨v4, vs, rfl, hl5⟩ := len_succ hl4
        obtain ⟨v5, vs, rfl, hl6⟩ := len_succ hl5
        obtain ⟨v6, vs, rfl, hl7⟩ := len_succ hl6
        obtain ⟨v7, vs, rfl, hl8⟩ := len_succ hl7
        obtain ⟨v8, vs, rfl, hl9⟩ := len_succ hl8
        obtain ⟨v9, vs, rfl, hl10⟩ := len_succ hl9
        obtain rfl := len_zero hl10
        clear hl hl1 hl2 hl3 hl4 hl5 hl6 hl7 hl8 hl9 hl10
        replace hK := hK.out
        simp only [Bk.putsO, List.set_cons_zero, List.set_cons_succ, Act.put, List.setIfInBounds_toArray] at hK ⊢
        have hK' : Shut _ := hK
        clear hK
        go_simp
        (try go_wp2_with fail)
        exact hK'.out
      · refine ⟨.fill ⟨8, 9, (fun cs w => ∃ a n c, cs = [.bool rv, .int .i64 0, .int .i64 0, .int .u64 0, .int .u64 0, .slice a n c, .int .i64 0] ∧ Dt w a n c [(0, 30000)])⟩, [8, 7], by decide, by simp, rfl, by simp, by simp, by simp, by simp, (fun D hD => by cases hD; exact fun _ _ => trivial), fun vs w g hl hd hg e3 K hK => ?_⟩
        obtain ⟨v0, vs, rfl, hl1⟩ := len_succ hl
        obtain ⟨v1, vs, rfl, hl2⟩ := len_succ hl1
        obtain ⟨v2, vs, rfl, hl3⟩ := len_succ hl2
        obtain ⟨v3, vs, rfl, hl4⟩ := len_succ hl3
        obtain ⟨v4, vs, rfl, hl5⟩ := len_succ hl4
        obtain ⟨v5, vs, rfl, hl6⟩ := len_succ hl5
        obtain ⟨v6, vs, rfl, hl7⟩ := len_succ hl6
        obtain ⟨v7, vs, rfl, hl8⟩ := len_succ hl7
        obtain ⟨v8, vs, rfl, hl9⟩ := len_succ hl8
        obtain ⟨v9, vs, rfl, hl10⟩ := len_succ hl9
        obtain rfl := len_zero hl10
        have dd := hd 7 (by simp) _ rfl; simp only [List.getD_cons_zero, List.getD_cons_succ] at dd; refine dd.elim ?_; clear dd; intro a ha; refine ha.elim ?_; intro n hn; refine hn.elim ?_; intro c hc; have e1 := hc.1; have hd := hc.2; clear ha hn hc; subst e1
        simp only [List.getD_cons_zero, List.getD_cons_succ] at hg
        obtain rfl := hg
        clear hd hl hl1 hl2 hl3 hl4 hl5 hl6 hl7 hl8 hl9 hl10
        have e4 : w.heap[g]? = some (.cells #[.bool false, .int .i64 0, .int .i64 0, .int .u64 0, .int .u64 0, .slice none 0 0, .int .i64 0] 35 (0, 0)) := e3; clear e3; have mm := cell7 e4; have m0 := mm.1.1; have m1 := mm.1.2.1; have m2 := mm.1.2.2.1; have m3 := mm.1.2.2.2.1; have m4 := mm.1.2.2.2.2.1; have m5 := mm.1.2.2.2.2.2.1; have m6 := mm.1.2.2.2.2.2.2; have f0 := mm.2.1; have f1 := mm.2.2.1; have f2 := mm.2.2.2.1; have f3 := mm.2.2.2.2.1; have f4 := mm.2.2.2.2.2.1; have f5 := mm.2.2.2.2.2.2.1; have f6 := mm.2.2.2.2.2.2.2; clear mm e4
        replace hK := hK.out undef [.bool rv, .int .i64 0, .int .i64 0, .int .u64 0, .int .u64 0, .slice a n c, .int .i64 0] rfl (⟨a, n, c, rfl, hd⟩)
        simp only [Bk.fillC, Nat.zero_add, Nat.reduceAdd, Bk.putsO, List.set_cons_zero, List.set_cons_succ, Act.put, List.setIfInBounds_toArray] at hK ⊢
        have hK' : Shut _ := hK
        clear hK
        go_simp
        (try go_wp2_with fail)
        exact hK'.out
      · intro vs w5 hl hR hd hbx hne
        obtain ⟨v0, vs, rfl, hl1⟩ := len_succ hl
        obtain ⟨v1, vs, rfl, hl2⟩ := len_succ hl1
        obtain ⟨v2, vs, rfl, hl3⟩ := len_succ hl2
        obtain ⟨v3, vs, rfl, hl4⟩ := len_succ hl3
        obtain ⟨v4, vs, rfl, hl5⟩ := len_succ hl4
        obtain ⟨v5, vs, rfl, hl6⟩ := len_succ hl5
        obtain ⟨v6, vs, rfl, hl7⟩ := len_succ hl6
        obtain ⟨v7, vs, rfl, hl8⟩ := len_succ hl7
        obtain ⟨v8, vs, rfl, hl9⟩ := len_succ hl8
        obtain ⟨v9, vs, rfl, hl10⟩ := len_succ hl9
        obtain rfl := len_zero hl10
        obtain ⟨g0, cs0, e0, hg0, hh0, hP0⟩ := hbx ⟨8, 9, (fun cs w => ∃ a n c, cs = [.bool rv, .int .i64 0, .int .i64 0, .int .u64 0, .int .u64 0, .slice a n c, .int .i64 0] ∧ Dt w a n c [(0, 30000)])⟩ (by simp) (by simp) (by simp)
        simp only [List.getD_cons_zero, List.getD_cons_succ] at e0
        obtain rfl := e0
        clear hd hbx hl hl1 hl2 hl3 hl4 hl5 hl6 hl7 hl8 hl9 hl10
        simp only [Bk.putsO, List.set_cons_zero, List.set_cons_succ, Act.put, List.setIfInBounds_toArray]
        obtain ⟨a5, n5, c5, e5, hd5⟩ := hP0
        subst e5
        clear hne hpx hpb2 HRV
        have hB5 := hbw.trans (hR.mono hbw.size)
        have hh5 : w5.heap[g0]? = some (.cells #[.bool rv, .int .i64 0, .int .i64 0, .int .u64 0, .int .u64 0, .slice a5 n5 c5, .int .i64 0] 35 (0, 0)) := hh0
        clear hh0
        have hw1 : IntKind.i64.wrap ((i : Int) + 1) = (i : Int) + 1 := by rw [IntKind.wrap_i64]; omega
        have hw2 : IntKind.i64.wrap ((i : Int) + 2) = (i : Int) + 2 := by rw [IntKind.wrap_i64]; omega
        have hw3 : IntKind.i64.wrap ((i : Int) + 3) = (i : Int) + 3 := by rw [IntKind.wrap_i64]; omega
        have hw4 : IntKind.i64.wrap ((i : Int) + 4) = (i : Int) + 4 := by rw [IntKind.wrap_i64]; omega
        have hw7 : IntKind.i64.wrap ((i : Int) + 7) = (i : Int) + 7 := by rw [IntKind.wrap_i64]; omega
        go_wp2_with fail
        go_at_call 173
        (with_reducible refine (HAT.out _ (by omega) (by omega) _ hB5).mono ?_)
        rintro e w6 ⟨x6, rfl, hx6, hb6⟩
        have hlt5 := (Array.getElem?_eq_some_iff.1 hh5).1
        have hd6 := hd5.below hb6
        have hR6 := hR.trans (hb6.mono hR.size)
        have hB6 := hB5.trans (hb6.mono hB5.size)
        have hh6 := (hb6.block _ hlt5).trans hh5
        have mm := cell7 hh6
        have m0 := mm.1.1
        have m1 := mm.1.2.1
        have m2 := mm.1.2.2.1
        have m3 := mm.1.2.2.2.1
        have m4 := mm.1.2.2.2.2.1
        have m5 := mm.1.2.2.2.2.2.1
        have m6 := mm.1.2.2.2.2.2.2
        have f0 := mm.2.1
        have f1 := mm.2.2.1
        have f2 := mm.2.2.2.1
        have f3 := mm.2.2.2.2.1
        have f4 := mm.2.2.2.2.2.1
        have f5 := mm.2.2.2.2.2.2.1
        have f6 := mm.2.2.2.2.2.2.2
        clear mm
        have hm6 := rem_nat x6 rn
        have hj6 := Nat.mod_lt x6 (show 0 < rn by omega)
        generalize x6 % rn = j6 at *
        have hji6 : ((j6 : Nat) : Int) < ((rn : Nat) : Int) := by omega
        have hj06 : (0 : Int) ≤ ((j6 : Nat) : Int) := Int.natCast_nonneg _
        have hce6 := HRC.out j6 hj6 _ hB6
        go_wp2_with fail
        have q7 := wr1 (i := 2) (.int .i64 (zg R j6)) hR6 hg0 hh6 hd6
        have hB7 : Below w.heap.size w (w6.setCell ⟨g0, 2, none⟩ (.int .i64 (zg R j6))) := hB6.setCell (p := ⟨g0, 2, none⟩) (by have := hbw.size; dsimp only; omega) _
        have htg := HRM.out j6 hj6
        generalize hW7 : w6.setCell ⟨g0, 2, none⟩ (.int .i64 (zg R j6)) = w7 at *
        generalize zg R j6 = tg at *
        obtain ⟨hh7, hd7, hR7⟩ := q7
        simp only [List.setIfInBounds_toArray, List.set_cons_zero, List.set_cons_succ] at hh7
        clear hW7 m0 m1 m2 m3 m4 m5 m6 f0 f1 f2 f3 f4 f5 f6 hm6 hj6 hji6 hj06 hce6 hh6 hd6 hR6 hb6 hlt5
        go_at_call 173
        (with_reducible refine (HAT.out _ (by omega) (by omega) _ hB7).mono ?_)
        rintro e w8 ⟨x8, rfl, hx8, hb8⟩
        have hlt7 := (Array.getElem?_eq_some_iff.1 hh7).1
        have hd8 := hd7.below hb8
        have hR8 := hR7.trans (hb8.mono hR7.size)
        have hB8 := hB7.trans (hb8.mono hB7.size)
        have hh8 := (hb8.block _ hlt7).trans hh7
        have mm := cell7 hh8
        have m0 := mm.1.1
        have m1 := mm.1.2.1
        have m2 := mm.1.2.2.1
        have m3 := mm.1.2.2.2.1
        have m4 := mm.1.2.2.2.2.1
        have m5 := mm.1.2.2.2.2.2.1
        have m6 := mm.1.2.2.2.2.2.2
        have f0 := mm.2.1
        have f1 := mm.2.2.1
        have f2 := mm.2.2.2.1
        have f3 := mm.2.2.2.2.1
        have f4 := mm.2.2.2.2.2.1
        have f5 := mm.2.2.2.2.2.2.1
        have f6 := mm.2.2.2.2.2.2.2
        clear mm
        have hm8 := rem_nat x8 an
        have hj8 := Nat.mod_lt x8 (show 0 < an by omega)
        generalize x8 % an = j8 at *
        have hji8 : ((j8 : Nat) : Int) < ((an : Nat) : Int) := by omega
        have hj08 : (0 : Int) ≤ ((j8 : Nat) : Int) := Int.natCast_nonneg _
        have hce8 := HAC.out j8 hj8 _ hB8
        go_upto_block 2 with fail
        have q9 := wr1 (i := 1) (.int .i64 (zg A j8)) hR8 hg0 hh8 hd8
        have hB9 : Below w.heap.size w (w8.setCell ⟨g0, 1, none⟩ (.int .i64 (zg A j8))) := hB8.setCell (p := ⟨g0, 1, none⟩) (by have := hbw.size; dsimp only; omega) _
        have had := HAM.out j8 hj8
        generalize hW9 : w8.setCell ⟨g0, 1, none⟩ (.int .i64 (zg A j8)) = w9 at *
        generalize zg A j8 = ad at *
        obtain ⟨hh9, hd9, hR9⟩ := q9
        simp only [List.setIfInBounds_toArray, List.set_cons_zero, List.set_cons_succ] at hh9
        clear hW9 m0 m1 m2 m3 m4 m5 m6 f0 f1 f2 f3 f4 f5 f6 hm8 hj8 hji8 hj08 hce8 hh8 hd8 hR8 hb8 hlt7
        go_cut [] (fun wx => ∃ y z : Nat, wx.heap[g0]? = some (.cells #[.bool rv, .int .i64 ad, .int .i64 tg, .int .u64 (y : Nat), .int .u64 (z : Nat), .slice a5 n5 c5, .int .i64 0] 35 (0, 0)) ∧ YZ R y z ∧ (rv = true → y = 0 ∧ z = 0) ∧ Dt wx a5 n5 c5 [(0, 30000)] ∧ Below wr.heap.size wr wx)
        case first =>
          go_wp2_with fail
          go_loopw [10] (fun v10 wx => ∃ kk : Nat, kk ≤ 4 ∧ v10 = .int .i64 (kk : Nat) ∧ ∃ y z : Nat, wx.heap[g0]? = some (.cells #[.bool rv, .int .i64 ad, .int .i64 tg, .int .u64 (y : Nat), .int .u64 (z : Nat), .slice a5 n5 c5, .int .i64 0] 35 (0, 0)) ∧ YZ R y z ∧ (rv = true → y = 0 ∧ z = 0) ∧ Dt wx a5 n5 c5 [(0, 30000)] ∧ Below wr.heap.size wr wx) (fun v _ => 4 - (intOf v).toNat)
          case atStart => exact ⟨0, by omega, rfl, 0, 0, hh9, YZ.zero _, fun _ => ⟨rfl, rfl⟩, hd9, hR9⟩
          case round =>
            obtain ⟨kk, hkk, rfl, y, z, hhx, hyz, hrvz, hdx, hRx⟩ := hrel
            rename_i wx
            have hBx := hbw.trans (hRx.mono hbw.size)
            have HYZ := Lib.hid hyz
            have HRV2 := Lib.hid hrvz
            clear hyz hrvz
            have mm := cell7 hhx
            have m0 := mm.1.1
            have m1 := mm.1.2.1
            have m2 := mm.1.2.2.1
            have m3 := mm.1.2.2.2.1
            have m4 := mm.1.2.2.2.2.1
            have m5 := mm.1.2.2.2.2.2.1
            have m6 := mm.1.2.2.2.2.2.2
            have f0 := mm.2.1
            have f1 := mm.2.2.1
            have f2 := mm.2.2.2.1
            have f3 := mm.2.2.2.2.1
            have f4 := mm.2.2.2.2.2.1
            have f5 := mm.2.2.2.2.2.2.1
            have f6 := mm.2.2.2.2.2.2.2
            clear mm
            go_wp2_with fail
            (with_reducible refine (HAT.out _ (by omega) (by omega) _ hBx).mono ?_)
            rintro e wa ⟨xa, rfl, hxa, hba⟩
            have hltx := (Array.getElem?_eq_some_iff.1 hhx).1
            have hda := hdx.below hba
            have hRa := hRx.trans (hba.mono hRx.size)
            have hBa := hBx.trans (hba.mono hBx.size)
            have hha := (hba.block _ hltx).trans hhx
            clear m0 m1 m2 m3 m4 m5 m6 f0 f1 f2 f3 f4 f5 f6 hhx hdx hRx hBx hltx hba
            have mm := cell7 hha
            have m0 := mm.1.1
            have m1 := mm.1.2.1
            have m2 := mm.1.2.2.1
            have m3 := mm.1.2.2.2.1
            have m4 := mm.1.2.2.2.2.1
            have m5 := mm.1.2.2.2.2.2.1
            have m6 := mm.1.2.2.2.2.2.2
            have f0 := mm.2.1
            have f1 := mm.2.2.1
            have f2 := mm.2.2.2.1
            have f3 := mm.2.2.2.2.1
            have f4 := mm.2.2.2.2.2.1
            have f5 := mm.2.2.2.2.2.2.1
            have f6 := mm.2.2.2.2.2.2.2
            clear mm
            have hma : ((xa : Nat) : Int).tmod 4 = ((xa % 4 : Nat) : Int) := rem_nat xa 4
            have hqa : xa % 4 < 4 := Nat.mod_lt _ (by decide)
            generalize xa % 4 = qa at *
            by_cases hk1 : kk < qa
            · have hk1i : ((kk : Nat) : Int) < ((qa : Nat) : Int) := by omega
              cases rv
              · have hw5 : IntKind.i64.wrap ((i : Int) + 4 + ((kk : Nat) : Int)) = (i : Int) + 4 + ((kk : Nat) : Int) := by rw [IntKind.wrap_i64]; omega
                go_wp2_with fail
                (with_reducible refine (HAT.out _ (by omega) (by omega) _ hBa).mono ?_)
                rintro e wb ⟨xb, rfl, hxb, hbb⟩
                have hlta := (Array.getElem?_eq_some_iff.1 hha).1
                have hdb := hda.below hbb
                have hRb := hRa.trans (hbb.mono hRa.size)
                have hBb := hBa.trans (hbb.mono hBa.size)
                have hhb := (hbb.block _ hlta).trans hha
                clear m0 m1 m2 m3 m4 m5 m6 f0 f1 f2 f3 f4 f5 f6 hha hda hRa hBa hlta hbb
                have mm := cell7 hhb
                have m0 := mm.1.1
                have m1 := mm.1.2.1
                have m2 := mm.1.2.2.1
                have m3 := mm.1.2.2.2.1
                have m4 := mm.1.2.2.2.2.1
                have m5 := mm.1.2.2.2.2.2.1
                have m6 := mm.1.2.2.2.2.2.2
                have f0 := mm.2.1
                have f1 := mm.2.2.1
                have f2 := mm.2.2.2.1
                have f3 := mm.2.2.2.2.1
                have f4 := mm.2.2.2.2.2.1
                have f5 := mm.2.2.2.2.2.2.1
                have f6 := mm.2.2.2.2.2.2.2
                clear mm
                have hmb := rem_nat xb rn
                have hjb := Nat.mod_lt xb (show 0 < rn by omega)
                generalize xb % rn = jb at *
                have hjib : ((jb : Nat) : Int) < ((rn : Nat) : Int) := by omega
                have hj0b : (0 : Int) ≤ ((jb : Nat) : Int) := Int.natCast_nonneg _
                have hceb := HRC.out jb hjb _ hBb
                have hxr := HRM.out jb hjb
                generalize zg R jb = xx at *
                have hxx := HRR.out _ hxr
                obtain ⟨mb, hmx⟩ : ∃ m : Nat, xx = ((m : Nat) : Int) := ⟨xx.toNat, by omega⟩
                subst hmx
                have hor : bits .or .u64 ((y : Nat) : Int) ((z : Nat) : Int) = ((y ||| z : Nat) : Int) := u64_or_nat _ _ HYZ.out.1 HYZ.out.2.1
                go_wp2_with fail
                have HINM : Hid (inM (y ||| z) ((mb : Nat) : Int) = (y ||| z).testBit mb) := by
                  show _ = _
                  unfold inM
                  rw [decide_eq_true (show (0 : Int) ≤ ((mb : Nat) : Int) by omega), decide_eq_true (show ((mb : Nat) : Int) < 64 by omega), Int.toNat_natCast]; rfl
                have HNB : Hid (inM (y ||| z) ((mb : Nat) : Int) = false → (y ||| z).testBit mb = false) := fun h => HINM.out.symm.trans h
                have HCI := Lib.hid (in_any (y ||| z) ((mb : Nat) : Int) wb)
                generalize inM (y ||| z) ((mb : Nat) : Int) = inb at *
                (with_reducible refine HCI.out.mono ?_)
                rintro e wc2 ⟨rfl, hbc⟩
                have hltb := (Array.getElem?_eq_some_iff.1 hhb).1
                have hdc := hdb.below hbc
                have hRc := hRb.trans (hbc.mono hRb.size)
                have hBc := hBb.trans (hbc.mono hBb.size)
                have hhc := (hbc.block _ hltb).trans hhb
                clear m0 m1 m2 m3 m4 m5 m6 f0 f1 f2 f3 f4 f5 f6 hhb hdb hRb hBb hltb hbc
                have mm := cell7 hhc
                have m0 := mm.1.1
                have m1 := mm.1.2.1
                have m2 := mm.1.2.2.1
                have m3 := mm.1.2.2.2.1
                have m4 := mm.1.2.2.2.2.1
                have m5 := mm.1.2.2.2.2.2.1
                have m6 := mm.1.2.2.2.2.2.2
                have f0 := mm.2.1
                have f1 := mm.2.2.1
                have f2 := mm.2.2.2.1
                have f3 := mm.2.2.2.2.1
                have f4 := mm.2.2.2.2.2.1
                have f5 := mm.2.2.2.2.2.2.1
                have f6 := mm.2.2.2.2.2.2.2
                clear mm
                cases inb
                rotate_left
                · go_wp2_with fail
                  go_roundw
                  case rel => exact ⟨kk + 1, by omega, by go_num, y, z, hhc, HYZ.out, HRV2.out, hdc, hRc⟩
                  case measure => simp [intOf]; omega
                have HNB2 := Lib.hid (HNB.out rfl)
                go_wp2_with fail
                (with_reducible refine (HAT.out _ (by omega) (by omega) _ hBc).mono ?_)
                rintro e wd2 ⟨xd, rfl, hxd, hbd⟩
                have hltc := (Array.getElem?_eq_some_iff.1 hhc).1
                have hdd := hdc.below hbd
                have hRd := hRc.trans (hbd.mono hRc.size)
                have hBd := hBc.trans (hbd.mono hBc.size)
                have hhd := (hbd.block _ hltc).trans hhc
                clear m0 m1 m2 m3 m4 m5 m6 f0 f1 f2 f3 f4 f5 f6 hhc hdc hRc hBc hltc hbd
                have mm := cell7 hhd
                have m0 := mm.1.1
                have m1 := mm.1.2.1
                have m2 := mm.1.2.2.1
                have m3 := mm.1.2.2.2.1
                have m4 := mm.1.2.2.2.2.1
                have m5 := mm.1.2.2.2.2.2.1
                have m6 := mm.1.2.2.2.2.2.2
                have f0 := mm.2.1
                have f1 := mm.2.2.1
                have f2 := mm.2.2.2.1
                have f3 := mm.2.2.2.2.1
                have f4 := mm.2.2.2.2.2.1
                have f5 := mm.2.2.2.2.2.2.1
                have f6 := mm.2.2.2.2.2.2.2
                clear mm
                by_cases h170 : (170 : Int) ≤ ((xd : Nat) : Int)
                · skip
                  have hsh : bits .or .u64 ((z : Nat) : Int) (IntKind.u64.wrap (2 ^ mb)) = ((z ||| 2 ^ mb : Nat) : Int) := or_shl HYZ.out.2.1 (by omega)
                  go_wp2_with fail
                  have hdr : Below wd2.heap.size wd2 wd2.drew := (Below.refl _ _).drew
                  have hltd := (Array.getElem?_eq_some_iff.1 hhd).1
                  have hde := hdd.below hdr
                  have hRe := hRd.trans (hdr.mono hRd.size)
                  have hBe := hBd.trans (hdr.mono hBd.size)
                  have hhe := (hdr.block _ hltd).trans hhd
                  clear m0 m1 m2 m3 m4 m5 m6 f0 f1 f2 f3 f4 f5 f6 hhd hdd hRd hBd hltd hdr
                  have mm := cell7 hhe
                  have m0 := mm.1.1
                  have m1 := mm.1.2.1
                  have m2 := mm.1.2.2.1
                  have m3 := mm.1.2.2.2.1
                  have m4 := mm.1.2.2.2.2.1
                  have m5 := mm.1.2.2.2.2.2.1
                  have m6 := mm.1.2.2.2.2.2.2
                  have f0 := mm.2.1
                  have f1 := mm.2.2.1
                  have f2 := mm.2.2.2.1
                  have f3 := mm.2.2.2.2.1
                  have f4 := mm.2.2.2.2.2.1
                  have f5 := mm.2.2.2.2.2.2.1
                  have f6 := mm.2.2.2.2.2.2.2
                  clear mm
                  have qe := wr1 (i := 4) (.int .u64 ((z ||| 2 ^ mb : Nat) : Int)) hRe hg0 hhe hde
                  simp only [List.setIfInBounds_toArray, List.set_cons_zero, List.set_cons_succ] at qe
                  refine wp_region_noPanic ?_
                  refine wp_region_held_drew (S := fun w' => True) (by kernel_rfl) (trivial) (fun hS0 => ?_)
                  refine' wpAnyH_take (i := 0) (v := _) rfl (by kernel_rfl) (by kernel_rfl) (by kernel_rfl) (fun _ _ _ h => h) (Or.inl ⟨by rfl, fun w' hSw => ?_⟩) hS0 ?_; rotate_left; (focus ((try dsimp only at hSw); go_simp <;> (with_reducible rfl))); (try simp only [List.getElem_toArray, List.getElem_cons_succ, List.getElem_cons_zero, Act.put, List.setIfInBounds_toArray, List.set_cons_zero, List.set_cons_succ])
                  refine' wpAnyH_take (i := 2) (v := _) rfl (by kernel_rfl) (by kernel_rfl) (by kernel_rfl) (fun _ _ _ h => h) (Or.inl ⟨by rfl, fun w' hSw => ?_⟩) hS0 ?_; rotate_left; (focus ((try dsimp only at hSw); go_simp <;> (with_reducible rfl))); (try simp only [List.getElem_toArray, List.getElem_cons_succ, List.getElem_cons_zero, Act.put, List.setIfInBounds_toArray, List.set_cons_zero, List.set_cons_succ])
                  refine' wpAnyH_take (i := 3) (v := _) rfl (by kernel_rfl) (by kernel_rfl) (by kernel_rfl) (fun _ _ _ h => h) (Or.inl ⟨by rfl, fun w' hSw => ?_⟩) hS0 ?_; rotate_left; (focus ((try dsimp only at hSw); go_simp <;> (with_reducible rfl))); (try simp only [List.getElem_toArray, List.getElem_cons_succ, List.getElem_cons_zero, Act.put, List.setIfInBounds_toArray, List.set_cons_zero, List.set_cons_succ])
                  refine wpAnyH_ready (rs := [1]) (by kernel_rfl) (by simp) ?_
                  refine AllReadyH.cons rfl (fun K hK => ?_) AllReadyH.nil
                  go_simp; (try go_wp2_with fail); refine hK.out _ _ (trivial) (fun hS1 => ?_); clear hK K; (try simp only [List.getElem_toArray, List.getElem_cons_succ, List.getElem_cons_zero, Act.put, List.setIfInBounds_toArray, List.set_cons_zero, List.set_cons_succ])
                  refine' wpAnyH_take (i := 4) (v := _) rfl (by kernel_rfl) (by kernel_rfl) (by kernel_rfl) (fun _ _ _ h => h) (Or.inl ⟨by rfl, fun w' hSw => ?_⟩) hS1 ?_; rotate_left; (focus ((try dsimp only at hSw); go_simp <;> (with_reducible rfl))); (try simp only [List.getElem_toArray, List.getElem_cons_succ, List.getElem_cons_zero, Act.put, List.setIfInBounds_toArray, List.set_cons_zero, List.set_cons_succ])
                  refine' wpAnyH_take (i := 5) (v := _) rfl (by kernel_rfl) (by kernel_rfl) (by kernel_rfl) (fun _ _ _ h => h) (Or.inl ⟨by rfl, fun w' hSw => ?_⟩) hS1 ?_; rotate_left; (focus ((try dsimp only at hSw); go_simp <;> (with_reducible rfl))); (try simp only [List.getElem_toArray, List.getElem_cons_succ, List.getElem_cons_zero, Act.put, List.setIfInBounds_toArray, List.set_cons_zero, List.set_cons_succ])
                  refine wpAnyH_ready (rs := [6]) (by kernel_rfl) (by simp) ?_
                  refine AllReadyH.cons rfl (fun K hK => ?_) AllReadyH.nil
                  go_simp; (try go_wp2_with fail); refine hK.out _ _ (trivial) (fun hS2 => ?_); clear hK K; (try simp only [List.getElem_toArray, List.getElem_cons_succ, List.getElem_cons_zero, Act.put, List.setIfInBounds_toArray, List.set_cons_zero, List.set_cons_succ])
                  refine wpAnyH_done (by kernel_rfl) (NoPanic.normal ?_) _
                  go_wp2_with fail
                  go_roundw
                  case rel => exact ⟨kk + 1, by omega, by go_num, y, z ||| 2 ^ mb, qe.1, (HYZ.out.symm.add (by omega) (by omega) hxr (by rw [Nat.or_comm]; exact HNB2.out)).symm, (by intro h; cases h), qe.2.1, qe.2.2⟩
                  case measure => simp [intOf]; omega
                · skip
                  have hsh : bits .or .u64 ((y : Nat) : Int) (IntKind.u64.wrap (2 ^ mb)) = ((y ||| 2 ^ mb : Nat) : Int) := or_shl HYZ.out.1 (by omega)
                  go_wp2_with fail
                  have hdr : Below wd2.heap.size wd2 wd2.drew := (Below.refl _ _).drew
                  have hltd := (Array.getElem?_eq_some_iff.1 hhd).1
                  have hde := hdd.below hdr
                  have hRe := hRd.trans (hdr.mono hRd.size)
                  have hBe := hBd.trans (hdr.mono hBd.size)
                  have hhe := (hdr.block _ hltd).trans hhd
                  clear m0 m1 m2 m3 m4 m5 m6 f0 f1 f2 f3 f4 f5 f6 hhd hdd hRd hBd hltd hdr
                  have mm := cell7 hhe
                  have m0 := mm.1.1
                  have m1 := mm.1.2.1
                  have m2 := mm.1.2.2.1
                  have m3 := mm.1.2.2.2.1
                  have m4 := mm.1.2.2.2.2.1
                  have m5 := mm.1.2.2.2.2.2.1
                  have m6 := mm.1.2.2.2.2.2.2
                  have f0 := mm.2.1
                  have f1 := mm.2.2.1
                  have f2 := mm.2.2.2.1
                  have f3 := mm.2.2.2.2.1
                  have f4 := mm.2.2.2.2.2.1
                  have f5 := mm.2.2.2.2.2.2.1
                  have f6 := mm.2.2.2.2.2.2.2
                  clear mm
                  have qe := wr1 (i := 3) (.int .u64 ((y ||| 2 ^ mb : Nat) : Int)) hRe hg0 hhe hde
                  simp only [List.setIfInBounds_toArray, List.set_cons_zero, List.set_cons_succ] at qe
                  refine wp_region_noPanic ?_
                  refine wp_region_held_drew (S := fun w' => True) (by kernel_rfl) (trivial) (fun hS0 => ?_)
                  refine' wpAnyH_take (i := 0) (v := _) rfl (by kernel_rfl) (by kernel_rfl) (by kernel_rfl) (fun _ _ _ h => h) (Or.inl ⟨by rfl, fun w' hSw => ?_⟩) hS0 ?_; rotate_left; (focus ((try dsimp only at hSw); go_simp <;> (with_reducible rfl))); (try simp only [List.getElem_toArray, List.getElem_cons_succ, List.getElem_cons_zero, Act.put, List.setIfInBounds_toArray, List.set_cons_zero, List.set_cons_succ])
                  refine' wpAnyH_take (i := 2) (v := _) rfl (by kernel_rfl) (by kernel_rfl) (by kernel_rfl) (fun _ _ _ h => h) (Or.inl ⟨by rfl, fun w' hSw => ?_⟩) hS0 ?_; rotate_left; (focus ((try dsimp only at hSw); go_simp <;> (with_reducible rfl))); (try simp only [List.getElem_toArray, List.getElem_cons_succ, List.getElem_cons_zero, Act.put, List.setIfInBounds_toArray, List.set_cons_zero, List.set_cons_succ])
                  refine' wpAnyH_take (i := 3) (v := _) rfl (by kernel_rfl) (by kernel_rfl) (by kernel_rfl) (fun _ _ _ h => h) (Or.inl ⟨by rfl, fun w' hSw => ?_⟩) hS0 ?_; rotate_left; (focus ((try dsimp only at hSw); go_simp <;> (with_reducible rfl))); (try simp only [List.getElem_toArray, List.getElem_cons_succ, List.getElem_cons_zero, Act.put, List.setIfInBounds_toArray, List.set_cons_zero, List.set_cons_succ])
                  refine wpAnyH_ready (rs := [1]) (by kernel_rfl) (by simp) ?_
                  refine AllReadyH.cons rfl (fun K hK => ?_) AllReadyH.nil
                  go_simp; (try go_wp2_with fail); refine hK.out _ _ (trivial) (fun hS1 => ?_); clear hK K; (try simp only [List.getElem_toArray, List.getElem_cons_succ, List.getElem_cons_zero, Act.put, List.setIfInBounds_toArray, List.set_cons_zero, List.set_cons_succ])
                  refine' wpAnyH_take (i := 4) (v := _) rfl (by kernel_rfl) (by kernel_rfl) (by kernel_rfl) (fun _ _ _ h => h) (Or.inl ⟨by rfl, fun w' hSw => ?_⟩) hS1 ?_; rotate_left; (focus ((try dsimp only at hSw); go_simp <;> (with_reducible rfl))); (try simp only [List.getElem_toArray, List.getElem_cons_succ, List.getElem_cons_zero, Act.put, List.setIfInBounds_toArray, List.set_cons_zero, List.set_cons_succ])
                  refine' wpAnyH_take (i := 5) (v := _) rfl (by kernel_rfl) (by kernel_rfl) (by kernel_rfl) (fun _ _ _ h => h) (Or.inl ⟨by rfl, fun w' hSw => ?_⟩) hS1 ?_; rotate_left; (focus ((try dsimp only at hSw); go_simp <;> (with_reducible rfl))); (try simp only [List.getElem_toArray, List.getElem_cons_succ, List.getElem_cons_zero, Act.put, List.setIfInBounds_toArray, List.set_cons_zero, List.set_cons_succ])
                  refine wpAnyH_ready (rs := [6]) (by kernel_rfl) (by simp) ?_
                  refine AllReadyH.cons rfl (fun K hK => ?_) AllReadyH.nil
                  go_simp; (try go_wp2_with fail); refine hK.out _ _ (trivial) (fun hS2 => ?_); clear hK K; (try simp only [List.getElem_toArray, List.getElem_cons_succ, List.getElem_cons_zero, Act.put, List.setIfInBounds_toArray, List.set_cons_zero, List.set_cons_succ])
                  refine wpAnyH_done (by kernel_rfl) (NoPanic.normal ?_) _
                  go_wp2_with fail
                  go_roundw
                  case rel => exact ⟨kk + 1, by omega, by go_num, y ||| 2 ^ mb, z, qe.1, HYZ.out.add (by omega) (by omega) hxr HNB2.out, (by intro h; cases h), qe.2.1, qe.2.2⟩
                  case measure => simp [intOf]; omega
              · go_wp2_with fail
                go_meet
                exact ⟨y, z, hha, HYZ.out, HRV2.out, hda, hRa⟩
            · have hk1i : ¬ ((kk : Nat) : Int) < ((qa : Nat) : Int) := by omega
              go_wp2_with fail
              go_meet
              exact ⟨y, z, hha, HYZ.out, HRV2.out, hda, hRa⟩
        case rest =>
          obtain ⟨y, z, hhp, hyz, hrvz, hdp, hRp⟩ := hcut
          have hBp := hbw.trans (hRp.mono hbw.size)
          have HYZ := Lib.hid hyz
          have HRV2 := Lib.hid hrvz
          clear hyz hrvz hh9 hd9 hR9 hB9
          have mm := cell7 hhp
          have m0 := mm.1.1
          have m1 := mm.1.2.1
          have m2 := mm.1.2.2.1
          have m3 := mm.1.2.2.2.1
          have m4 := mm.1.2.2.2.2.1
          have m5 := mm.1.2.2.2.2.2.1
          have m6 := mm.1.2.2.2.2.2.2
          have f0 := mm.2.1
          have f1 := mm.2.2.1
          have f2 := mm.2.2.2.1
          have f3 := mm.2.2.2.2.1
          have f4 := mm.2.2.2.2.2.1
          have f5 := mm.2.2.2.2.2.2.1
          have f6 := mm.2.2.2.2.2.2.2
          clear mm
          have hi40 : i ≤ 40 := by have := HI.out; have := HN7.out; omega
          have hlen7 : hs.length + 1 ≤ 1000000000 := by have := HN7.out; omega
          go_wp2_with fail
          (with_reducible refine (HAT.out _ (by omega) (by omega) _ hBp).mono ?_)
          rintro e wq ⟨xq, rfl, hxq, hbq⟩
          have hltp := (Array.getElem?_eq_some_iff.1 hhp).1
          have hdq := hdp.below hbq
          have hRq := hRp.trans (hbq.mono hRp.size)
          have hBq := hBp.trans (hbq.mono hBp.size)
          have hhq := (hbq.block _ hltp).trans hhp
          clear m0 m1 m2 m3 m4 m5 m6 f0 f1 f2 f3 f4 f5 f6 hhp hdp hRp hBp hltp hbq
          have hm3 : ((xq : Nat) : Int).tmod 3 = ((xq % 3 : Nat) : Int) := rem_nat xq 3
          have hm9 : ((xq : Nat) : Int).tmod 9 = ((xq % 9 : Nat) : Int) := rem_nat xq 9
          have hm10 : ((xq : Nat) : Int).tmod 10 = ((xq % 10 : Nat) : Int) := rem_nat xq 10
          have hm77 : ((xq : Nat) : Int).tmod 7 = ((xq % 7 : Nat) : Int) := rem_nat xq 7
          have hl9 : xq % 9 < 9 := Nat.mod_lt _ (by decide)
          have hl10 : xq % 10 < 10 := Nat.mod_lt _ (by decide)
          have hl77 : xq % 7 < 7 := Nat.mod_lt _ (by decide)
          have hl3 : xq % 3 < 3 := Nat.mod_lt _ (by decide)
          generalize xq % 9 = q9 at *
          generalize xq % 10 = q10 at *
          generalize xq % 7 = q7 at *
          generalize xq % 3 = q3 at *
          have hwq9 : IntKind.i64.wrap (1 + ((q9 : Nat) : Int)) = 1 + ((q9 : Nat) : Int) := by rw [IntKind.wrap_i64]; omega
          have hwq10 : IntKind.i64.wrap (((q10 : Nat) : Int) + 3) = ((q10 : Nat) : Int) + 3 := by rw [IntKind.wrap_i64]; omega
          have hwq7 : IntKind.i64.wrap (8 + ((q7 : Nat) : Int)) = 8 + ((q7 : Nat) : Int) := by rw [IntKind.wrap_i64]; omega
          by_cases h200 : (200 : Int) ≤ ((xq : Nat) : Int)
          rotate_left
          · skip
            by_cases h31 : q3 = 1
            · subst h31
              cases rv
              · have qs := wr1 (i := 6) (.int .i64 (1 + ((q9 : Nat) : Int))) hRq hg0 hhq hdq
                have qB := (hBq).setCell (p := ⟨g0, 6, none⟩) (show w.heap.size ≤ g0 by have := hbw.size; omega) (.int .i64 (1 + ((q9 : Nat) : Int)))
                simp only [List.setIfInBounds_toArray, List.set_cons_zero, List.set_cons_succ] at qs
                obtain ⟨qh, qd, qR⟩ := qs
                have ml := cell7 hhq
                have k00 := ml.1.1
                have n66 := ml.1.2.2.2.2.2.2
                have fl6 := ml.2.2.2.2.2.2.2
                clear ml
                have mm := cell7 qh
                have m0 := mm.1.1
                have m1 := mm.1.2.1
                have m2 := mm.1.2.2.1
                have m3 := mm.1.2.2.2.1
                have m4 := mm.1.2.2.2.2.1
                have m5 := mm.1.2.2.2.2.2.1
                have m6 := mm.1.2.2.2.2.2.2
                have f0 := mm.2.1
                have f1 := mm.2.2.1
                have f2 := mm.2.2.2.1
                have f3 := mm.2.2.2.2.1
                have f4 := mm.2.2.2.2.2.1
                have f5 := mm.2.2.2.2.2.2.1
                have f6 := mm.2.2.2.2.2.2.2
                clear mm
                have hzt := (qB).size
                have hzt0 := hzt
                try simp only [World.size_setCell] at hzt0
                have hoA : Ok frE 35 (((wq).setCell ⟨g0, 6, none⟩ (.int .i64 (1 + ((q9 : Nat) : Int)))).alloc (.cells #[.bool false, .int .i64 ad, .int .i64 tg, .int .u64 (y : Nat), .int .u64 (z : Nat), .slice a5 n5 c5, .int .i64 (1 + ((q9 : Nat) : Int))] 35)) w.heap.size (.slice a7 n7 c7) hs := Ok.alloc (HS.out.1.below qR) _
                have hbA : Below ((wq).setCell ⟨g0, 6, none⟩ (.int .i64 (1 + ((q9 : Nat) : Int)))).heap.size ((wq).setCell ⟨g0, 6, none⟩ (.int .i64 (1 + ((q9 : Nat) : Int)))) (((wq).setCell ⟨g0, 6, none⟩ (.int .i64 (1 + ((q9 : Nat) : Int)))).alloc (.cells #[.bool false, .int .i64 ad, .int .i64 tg, .int .u64 (y : Nat), .int .u64 (z : Nat), .slice a5 n5 c5, .int .i64 (1 + ((q9 : Nat) : Int))] 35)) := (Below.refl _ _).alloc (Nat.le_refl _) _
                have hfc : FrC ((wq).setCell ⟨g0, 6, none⟩ (.int .i64 (1 + ((q9 : Nat) : Int)))) (hfL ⟨false, ad, tg, y, z, a5, n5, c5, (1 + ((q9 : Nat) : Int))⟩) ⟨false, ad, tg, y, z, [(0, 30000)], (1 + ((q9 : Nat) : Int))⟩ := ⟨a5, n5, c5, rfl, qd, HYZ.out.1, HYZ.out.2.1, HYZ.out.2.2.1, HYZ.out.2.2.2.1, can_allF⟩
                have HALF := Lib.hid (And.intro (HS.out.2.1.below qR) hfc)
                have HOA := Lib.hid hoA
                clear hoA hfc
                go_wp2_with (at_builtin; refine wpList_append_dk (E := frE) rfl (.tmp 141) (.tmp 143) 26 35 rfl Tryz.underlying26 w.heap.size i0 _ 72 hi0 hz0 hz1 hz2 rfl (by decide) (by decide) _ hs rfl HOA.out _ 1 1 [⟨false, ad, tg, y, z, a5, n5, c5, (1 + ((q9 : Nat) : Int))⟩] rfl (Dk.one (E := frE) ((wq).setCell ⟨g0, 6, none⟩ (.int .i64 (1 + ((q9 : Nat) : Int)))) ⟨false, ad, tg, y, z, a5, n5, c5, (1 + ((q9 : Nat) : Int))⟩ 35 _ (by simp)) hlen7 (by simp; omega) ?_; intro v8 w8 ho8 hgr8)
                have hfar := owns_type (T := 80) HOA.out (by decide)
                have hal8 := (((HALF.out.1.below hbA).far hgr8 hfar).snoc ((HALF.out.2.below hbA).far hgr8 hfar))
                have hb8 := ((qB).trans (hbA.mono hzt)).grown hgr8 (by simp; omega) (fun b hb => (HS.out.1.lt b hb).1)
                go_roundw
                case rel =>
                  refine ⟨i + 8, hs ++ [⟨false, ad, tg, y, z, a5, n5, c5, (1 + ((q9 : Nat) : Int))⟩], l ++ [⟨false, ad, tg, y, z, [(0, 30000)], (1 + ((q9 : Nat) : Int))⟩], ?_, by go_num, ?_, ho8, hal8, ?_, hb8⟩
                  · have := HI.out; rw [List.length_append]; simp only [List.length_cons, List.length_nil]; omega
                  · have := HN7.out; rw [List.length_append]; simp only [List.length_cons, List.length_nil]; omega
                  · intro f hf
                    rcases List.mem_append.1 hf with h | h
                    · exact HS.out.2.2 f h
                    · obtain rfl : f = ⟨false, ad, tg, y, z, [(0, 30000)], (1 + ((q9 : Nat) : Int))⟩ := by simpa using h
                      exact ⟨htg, had, HYZ.out, (fun h => by cases h), by dsimp only; omega, by dsimp only; omega⟩
                case measure => simp [intOf]; omega
              · skip
                have mm := cell7 hhq
                have m0 := mm.1.1
                have m1 := mm.1.2.1
                have m2 := mm.1.2.2.1
                have m3 := mm.1.2.2.2.1
                have m4 := mm.1.2.2.2.2.1
                have m5 := mm.1.2.2.2.2.2.1
                have m6 := mm.1.2.2.2.2.2.2
                have f0 := mm.2.1
                have f1 := mm.2.2.1
                have f2 := mm.2.2.2.1
                have f3 := mm.2.2.2.2.1
                have f4 := mm.2.2.2.2.2.1
                have f5 := mm.2.2.2.2.2.2.1
                have f6 := mm.2.2.2.2.2.2.2
                clear mm
                have hzt := (hBq).size
                have hzt0 := hzt
                try simp only [World.size_setCell] at hzt0
                have hoA : Ok frE 35 ((wq).alloc (.cells #[.bool true, .int .i64 ad, .int .i64 tg, .int .u64 (y : Nat), .int .u64 (z : Nat), .slice a5 n5 c5, .int .i64 0] 35)) w.heap.size (.slice a7 n7 c7) hs := Ok.alloc (HS.out.1.below hRq) _
                have hbA : Below (wq).heap.size (wq) ((wq).alloc (.cells #[.bool true, .int .i64 ad, .int .i64 tg, .int .u64 (y : Nat), .int .u64 (z : Nat), .slice a5 n5 c5, .int .i64 0] 35)) := (Below.refl _ _).alloc (Nat.le_refl _) _
                have hfc : FrC (wq) (hfL ⟨true, ad, tg, y, z, a5, n5, c5, 0⟩) ⟨true, ad, tg, y, z, [(0, 30000)], 0⟩ := ⟨a5, n5, c5, rfl, hdq, HYZ.out.1, HYZ.out.2.1, HYZ.out.2.2.1, HYZ.out.2.2.2.1, can_allF⟩
                have HALF := Lib.hid (And.intro (HS.out.2.1.below hRq) hfc)
                have HOA := Lib.hid hoA
                clear hoA hfc
                go_wp2_with (at_builtin; refine wpList_append_dk (E := frE) rfl (.tmp 141) (.tmp 143) 26 35 rfl Tryz.underlying26 w.heap.size i0 _ 72 hi0 hz0 hz1 hz2 rfl (by decide) (by decide) _ hs rfl HOA.out _ 1 1 [⟨true, ad, tg, y, z, a5, n5, c5, 0⟩] rfl (Dk.one (E := frE) (wq) ⟨true, ad, tg, y, z, a5, n5, c5, 0⟩ 35 _ (by simp)) hlen7 (by simp; omega) ?_; intro v8 w8 ho8 hgr8)
                have hfar := owns_type (T := 80) HOA.out (by decide)
                have hal8 := (((HALF.out.1.below hbA).far hgr8 hfar).snoc ((HALF.out.2.below hbA).far hgr8 hfar))
                have hb8 := ((hBq).trans (hbA.mono hzt)).grown hgr8 (by simp; omega) (fun b hb => (HS.out.1.lt b hb).1)
                go_roundw
                case rel =>
                  refine ⟨i + 8, hs ++ [⟨true, ad, tg, y, z, a5, n5, c5, 0⟩], l ++ [⟨true, ad, tg, y, z, [(0, 30000)], 0⟩], ?_, by go_num, ?_, ho8, hal8, ?_, hb8⟩
                  · have := HI.out; rw [List.length_append]; simp only [List.length_cons, List.length_nil]; omega
                  · have := HN7.out; rw [List.length_append]; simp only [List.length_cons, List.length_nil]; omega
                  · intro f hf
                    rcases List.mem_append.1 hf with h | h
                    · exact HS.out.2.2 f h
                    · obtain rfl : f = ⟨true, ad, tg, y, z, [(0, 30000)], 0⟩ := by simpa using h
                      exact ⟨htg, had, HYZ.out, (fun h => ⟨(HRV2.out (by trivial)).1, (HRV2.out (by trivial)).2, rfl⟩), by dsimp only; omega, by dsimp only; omega⟩
                case measure => simp [intOf]; omega
            · have h31i : ¬ ((q3 : Nat) : Int) = 1 := by omega
              cases rv
              · skip
                have mm := cell7 hhq
                have m0 := mm.1.1
                have m1 := mm.1.2.1
                have m2 := mm.1.2.2.1
                have m3 := mm.1.2.2.2.1
                have m4 := mm.1.2.2.2.2.1
                have m5 := mm.1.2.2.2.2.2.1
                have m6 := mm.1.2.2.2.2.2.2
                have f0 := mm.2.1
                have f1 := mm.2.2.1
                have f2 := mm.2.2.2.1
                have f3 := mm.2.2.2.2.1
                have f4 := mm.2.2.2.2.2.1
                have f5 := mm.2.2.2.2.2.2.1
                have f6 := mm.2.2.2.2.2.2.2
                clear mm
                have hzt := (hBq).size
                have hzt0 := hzt
                try simp only [World.size_setCell] at hzt0
                have hoA : Ok frE 35 ((wq).alloc (.cells #[.bool false, .int .i64 ad, .int .i64 tg, .int .u64 (y : Nat), .int .u64 (z : Nat), .slice a5 n5 c5, .int .i64 0] 35)) w.heap.size (.slice a7 n7 c7) hs := Ok.alloc (HS.out.1.below hRq) _
                have hbA : Below (wq).heap.size (wq) ((wq).alloc (.cells #[.bool false, .int .i64 ad, .int .i64 tg, .int .u64 (y : Nat), .int .u64 (z : Nat), .slice a5 n5 c5, .int .i64 0] 35)) := (Below.refl _ _).alloc (Nat.le_refl _) _
                have hfc : FrC (wq) (hfL ⟨false, ad, tg, y, z, a5, n5, c5, 0⟩) ⟨false, ad, tg, y, z, [(0, 30000)], 0⟩ := ⟨a5, n5, c5, rfl, hdq, HYZ.out.1, HYZ.out.2.1, HYZ.out.2.2.1, HYZ.out.2.2.2.1, can_allF⟩
                have HALF := Lib.hid (And.intro (HS.out.2.1.below hRq) hfc)
                have HOA := Lib.hid hoA
                clear hoA hfc
                go_wp2_with (at_builtin; refine wpList_append_dk (E := frE) rfl (.tmp 141) (.tmp 143) 26 35 rfl Tryz.underlying26 w.heap.size i0 _ 72 hi0 hz0 hz1 hz2 rfl (by decide) (by decide) _ hs rfl HOA.out _ 1 1 [⟨false, ad, tg, y, z, a5, n5, c5, 0⟩] rfl (Dk.one (E := frE) (wq) ⟨false, ad, tg, y, z, a5, n5, c5, 0⟩ 35 _ (by simp)) hlen7 (by simp; omega) ?_; intro v8 w8 ho8 hgr8)
                have hfar := owns_type (T := 80) HOA.out (by decide)
                have hal8 := (((HALF.out.1.below hbA).far hgr8 hfar).snoc ((HALF.out.2.below hbA).far hgr8 hfar))
                have hb8 := ((hBq).trans (hbA.mono hzt)).grown hgr8 (by simp; omega) (fun b hb => (HS.out.1.lt b hb).1)
                go_roundw
                case rel =>
                  refine ⟨i + 8, hs ++ [⟨false, ad, tg, y, z, a5, n5, c5, 0⟩], l ++ [⟨false, ad, tg, y, z, [(0, 30000)], 0⟩], ?_, by go_num, ?_, ho8, hal8, ?_, hb8⟩
                  · have := HI.out; rw [List.length_append]; simp only [List.length_cons, List.length_nil]; omega
                  · have := HN7.out; rw [List.length_append]; simp only [List.length_cons, List.length_nil]; omega
                  · intro f hf
                    rcases List.mem_append.1 hf with h | h
                    · exact HS.out.2.2 f h
                    · obtain rfl : f = ⟨false, ad, tg, y, z, [(0, 30000)], 0⟩ := by simpa using h
                      exact ⟨htg, had, HYZ.out, (fun h => by cases h), by dsimp only; omega, by dsimp only; omega⟩
                case measure => simp [intOf]; omega
              · skip
                have mm := cell7 hhq
                have m0 := mm.1.1
                have m1 := mm.1.2.1
                have m2 := mm.1.2.2.1
                have m3 := mm.1.2.2.2.1
                have m4 := mm.1.2.2.2.2.1
                have m5 := mm.1.2.2.2.2.2.1
                have m6 := mm.1.2.2.2.2.2.2
                have f0 := mm.2.1
                have f1 := mm.2.2.1
                have f2 := mm.2.2.2.1
                have f3 := mm.2.2.2.2.1
                have f4 := mm.2.2.2.2.2.1
                have f5 := mm.2.2.2.2.2.2.1
                have f6 := mm.2.2.2.2.2.2.2
                clear mm
                have hzt := (hBq).size
                have hzt0 := hzt
                try simp only [World.size_setCell] at hzt0
                have hoA : Ok frE 35 ((wq).alloc (.cells #[.bool true, .int .i64 ad, .int .i64 tg, .int .u64 (y : Nat), .int .u64 (z : Nat), .slice a5 n5 c5, .int .i64 0] 35)) w.heap.size (.slice a7 n7 c7) hs := Ok.alloc (HS.out.1.below hRq) _
                have hbA : Below (wq).heap.size (wq) ((wq).alloc (.cells #[.bool true, .int .i64 ad, .int .i64 tg, .int .u64 (y : Nat), .int .u64 (z : Nat), .slice a5 n5 c5, .int .i64 0] 35)) := (Below.refl _ _).alloc (Nat.le_refl _) _
                have hfc : FrC (wq) (hfL ⟨true, ad, tg, y, z, a5, n5, c5, 0⟩) ⟨true, ad, tg, y, z, [(0, 30000)], 0⟩ := ⟨a5, n5, c5, rfl, hdq, HYZ.out.1, HYZ.out.2.1, HYZ.out.2.2.1, HYZ.out.2.2.2.1, can_allF⟩
                have HALF := Lib.hid (And.intro (HS.out.2.1.below hRq) hfc)
                have HOA := Lib.hid hoA
                clear hoA hfc
                go_wp2_with (at_builtin; refine wpList_append_dk (E := frE) rfl (.tmp 141) (.tmp 143) 26 35 rfl Tryz.underlying26 w.heap.size i0 _ 72 hi0 hz0 hz1 hz2 rfl (by decide) (by decide) _ hs rfl HOA.out _ 1 1 [⟨true, ad, tg, y, z, a5, n5, c5, 0⟩] rfl (Dk.one (E := frE) (wq) ⟨true, ad, tg, y, z, a5, n5, c5, 0⟩ 35 _ (by simp)) hlen7 (by simp; omega) ?_; intro v8 w8 ho8 hgr8)
                have hfar := owns_type (T := 80) HOA.out (by decide)
                have hal8 := (((HALF.out.1.below hbA).far hgr8 hfar).snoc ((HALF.out.2.below hbA).far hgr8 hfar))
                have hb8 := ((hBq).trans (hbA.mono hzt)).grown hgr8 (by simp; omega) (fun b hb => (HS.out.1.lt b hb).1)
                go_roundw
                case rel =>
                  refine ⟨i + 8, hs ++ [⟨true, ad, tg, y, z, a5, n5, c5, 0⟩], l ++ [⟨true, ad, tg, y, z, [(0, 30000)], 0⟩], ?_, by go_num, ?_, ho8, hal8, ?_, hb8⟩
                  · have := HI.out; rw [List.length_append]; simp only [List.length_cons, List.length_nil]; omega
                  · have := HN7.out; rw [List.length_append]; simp only [List.length_cons, List.length_nil]; omega
                  · intro f hf
                    rcases List.mem_append.1 hf with h | h
                    · exact HS.out.2.2 f h
                    · obtain rfl : f = ⟨true, ad, tg, y, z, [(0, 30000)], 0⟩ := by simpa using h
                      exact ⟨htg, had, HYZ.out, (fun h => ⟨(HRV2.out (by trivial)).1, (HRV2.out (by trivial)).2, rfl⟩), by dsimp only; omega, by dsimp only; omega⟩
                case measure => simp [intOf]; omega
          have hds : Dy.Ds (wq.alloc (.cells #[.int .i64 ((q10 : Nat) : Int), .int .i64 (((q10 : Nat) : Int) + 3), .int .i64 (8 + ((q7 : Nat) : Int)), .int .i64 (8 + ((q7 : Nat) : Int))] 80)) (some ⟨wq.heap.size, 0, none⟩) 2 2 [(((q10 : Nat) : Int), ((q10 : Nat) : Int) + 3), (8 + ((q7 : Nat) : Int), 8 + ((q7 : Nat) : Int))] := by
            refine ⟨rfl, by omega, by decide, .inr ⟨_, 0, rfl, by simp, fun i p hp => ?_⟩⟩
            match i, hp with
            | 0, hp => cases hp; constructor <;> simp [go_sem]
            | 1, hp => cases hp; constructor <;> simp [go_sem]
            | i + 2, hp => simp at hp
          have HN := Lib.hid (normal_any _ 2 2 [(((q10 : Nat) : Int), ((q10 : Nat) : Int) + 3), (8 + ((q7 : Nat) : Int), 8 + ((q7 : Nat) : Int))] _ hds (by
            intro p hp
            simp only [List.mem_cons, List.not_mem_nil, or_false] at hp
            rcases hp with rfl | rfl <;> (unfold Dy.Okp; dsimp only; omega)))
          clear hds
          go_wp2_with fail
          refine HN.out.mono ?_
          rintro en wn ⟨v6, r6, rfl, ho6, hc6, hmm6, hb6⟩
          obtain ⟨a6, n6, c6, hv6, hd6⟩ := Os_dt ho6
          subst hv6
          have hbn : Below wq.heap.size wq wn := ((Below.refl _ _).alloc (Nat.le_refl _) _).trans (hb6.mono (by simp))
          have hltq := (Array.getElem?_eq_some_iff.1 hhq).1
          have hRn := hRq.trans (hbn.mono hRq.size)
          have hBn := hBq.trans (hbn.mono hBq.size)
          have hhn := (hbn.block _ hltq).trans hhq
          have qs := wr1 (i := 5) (.slice a6 n6 c6) hRn hg0 hhn hd6
          have hBs := hBn.setCell (p := ⟨g0, 5, none⟩) (show w.heap.size ≤ g0 by have := hbw.size; omega) (.slice a6 n6 c6)
          simp only [List.setIfInBounds_toArray, List.set_cons_zero, List.set_cons_succ] at qs
          obtain ⟨hhs, hds, hRs⟩ := qs
          have ml := cell7 hhn
          have nn5 := ml.1.2.2.2.2.2.1
          have fn5 := ml.2.2.2.2.2.2.1
          clear ml
          have HC6 := Lib.hid hc6
          clear ho6 hmm6 hb6 hbn hhq hdq hRq hBq hltq hc6 hd6 hRn hBn hhn
          by_cases h31 : q3 = 1
          · subst h31
            cases rv
            · have qs := wr1 (i := 6) (.int .i64 (1 + ((q9 : Nat) : Int))) hRs hg0 hhs hds
              have qB := (hBs).setCell (p := ⟨g0, 6, none⟩) (show w.heap.size ≤ g0 by have := hbw.size; omega) (.int .i64 (1 + ((q9 : Nat) : Int)))
              simp only [List.setIfInBounds_toArray, List.set_cons_zero, List.set_cons_succ] at qs
              obtain ⟨qh, qd, qR⟩ := qs
              have ml := cell7 hhs
              have k00 := ml.1.1
              have n66 := ml.1.2.2.2.2.2.2
              have fl6 := ml.2.2.2.2.2.2.2
              clear ml
              have mm := cell7 qh
              have m0 := mm.1.1
              have m1 := mm.1.2.1
              have m2 := mm.1.2.2.1
              have m3 := mm.1.2.2.2.1
              have m4 := mm.1.2.2.2.2.1
              have m5 := mm.1.2.2.2.2.2.1
              have m6 := mm.1.2.2.2.2.2.2
              have f0 := mm.2.1
              have f1 := mm.2.2.1
              have f2 := mm.2.2.2.1
              have f3 := mm.2.2.2.2.1
              have f4 := mm.2.2.2.2.2.1
              have f5 := mm.2.2.2.2.2.2.1
              have f6 := mm.2.2.2.2.2.2.2
              clear mm
              have hzt := (qB).size
              have hzt0 := hzt
              try simp only [World.size_setCell] at hzt0
              have hoA : Ok frE 35 (((wn.setCell ⟨g0, 5, none⟩ (.slice a6 n6 c6)).setCell ⟨g0, 6, none⟩ (.int .i64 (1 + ((q9 : Nat) : Int)))).alloc (.cells #[.bool false, .int .i64 ad, .int .i64 tg, .int .u64 (y : Nat), .int .u64 (z : Nat), .slice a6 n6 c6, .int .i64 (1 + ((q9 : Nat) : Int))] 35)) w.heap.size (.slice a7 n7 c7) hs := Ok.alloc (HS.out.1.below qR) _
              have hbA : Below ((wn.setCell ⟨g0, 5, none⟩ (.slice a6 n6 c6)).setCell ⟨g0, 6, none⟩ (.int .i64 (1 + ((q9 : Nat) : Int)))).heap.size ((wn.setCell ⟨g0, 5, none⟩ (.slice a6 n6 c6)).setCell ⟨g0, 6, none⟩ (.int .i64 (1 + ((q9 : Nat) : Int)))) (((wn.setCell ⟨g0, 5, none⟩ (.slice a6 n6 c6)).setCell ⟨g0, 6, none⟩ (.int .i64 (1 + ((q9 : Nat) : Int)))).alloc (.cells #[.bool false, .int .i64 ad, .int .i64 tg, .int .u64 (y : Nat), .int .u64 (z : Nat), .slice a6 n6 c6, .int .i64 (1 + ((q9 : Nat) : Int))] 35)) := (Below.refl _ _).alloc (Nat.le_refl _) _
              have hfc : FrC ((wn.setCell ⟨g0, 5, none⟩ (.slice a6 n6 c6)).setCell ⟨g0, 6, none⟩ (.int .i64 (1 + ((q9 : Nat) : Int)))) (hfL ⟨false, ad, tg, y, z, a6, n6, c6, (1 + ((q9 : Nat) : Int))⟩) ⟨false, ad, tg, y, z, r6, (1 + ((q9 : Nat) : Int))⟩ := ⟨a6, n6, c6, rfl, qd, HYZ.out.1, HYZ.out.2.1, HYZ.out.2.2.1, HYZ.out.2.2.2.1, HC6.out⟩
              have HALF := Lib.hid (And.intro (HS.out.2.1.below qR) hfc)
              have HOA := Lib.hid hoA
              clear hoA hfc
              go_wp2_with (at_builtin; refine wpList_append_dk (E := frE) rfl (.tmp 141) (.tmp 143) 26 35 rfl Tryz.underlying26 w.heap.size i0 _ 72 hi0 hz0 hz1 hz2 rfl (by decide) (by decide) _ hs rfl HOA.out _ 1 1 [⟨false, ad, tg, y, z, a6, n6, c6, (1 + ((q9 : Nat) : Int))⟩] rfl (Dk.one (E := frE) ((wn.setCell ⟨g0, 5, none⟩ (.slice a6 n6 c6)).setCell ⟨g0, 6, none⟩ (.int .i64 (1 + ((q9 : Nat) : Int)))) ⟨false, ad, tg, y, z, a6, n6, c6, (1 + ((q9 : Nat) : Int))⟩ 35 _ (by simp)) hlen7 (by simp; omega) ?_; intro v8 w8 ho8 hgr8)
              have hfar := owns_type (T := 80) HOA.out (by decide)
              have hal8 := (((HALF.out.1.below hbA).far hgr8 hfar).snoc ((HALF.out.2.below hbA).far hgr8 hfar))
              have hb8 := ((qB).trans (hbA.mono hzt)).grown hgr8 (by simp; omega) (fun b hb => (HS.out.1.lt b hb).1)
              go_roundw
              case rel =>
                refine ⟨i + 8, hs ++ [⟨false, ad, tg, y, z, a6, n6, c6, (1 + ((q9 : Nat) : Int))⟩], l ++ [⟨false, ad, tg, y, z, r6, (1 + ((q9 : Nat) : Int))⟩], ?_, by go_num, ?_, ho8, hal8, ?_, hb8⟩
                · have := HI.out; rw [List.length_append]; simp only [List.length_cons, List.length_nil]; omega
                · have := HN7.out; rw [List.length_append]; simp only [List.length_cons, List.length_nil]; omega
                · intro f hf
                  rcases List.mem_append.1 hf with h | h
                  · exact HS.out.2.2 f h
                  · obtain rfl : f = ⟨false, ad, tg, y, z, r6, (1 + ((q9 : Nat) : Int))⟩ := by simpa using h
                    exact ⟨htg, had, HYZ.out, (fun h => by cases h), by dsimp only; omega, by dsimp only; omega⟩
              case measure => simp [intOf]; omega
            · skip
              have mm := cell7 hhs
              have m0 := mm.1.1
              have m1 := mm.1.2.1
              have m2 := mm.1.2.2.1
              have m3 := mm.1.2.2.2.1
              have m4 := mm.1.2.2.2.2.1
              have m5 := mm.1.2.2.2.2.2.1
              have m6 := mm.1.2.2.2.2.2.2
              have f0 := mm.2.1
              have f1 := mm.2.2.1
              have f2 := mm.2.2.2.1
              have f3 := mm.2.2.2.2.1
              have f4 := mm.2.2.2.2.2.1
              have f5 := mm.2.2.2.2.2.2.1
              have f6 := mm.2.2.2.2.2.2.2
              clear mm
              have hzt := (hBs).size
              have hzt0 := hzt
              try simp only [World.size_setCell] at hzt0
              have hoA : Ok frE 35 ((wn.setCell ⟨g0, 5, none⟩ (.slice a6 n6 c6)).alloc (.cells #[.bool true, .int .i64 ad, .int .i64 tg, .int .u64 (y : Nat), .int .u64 (z : Nat), .slice a6 n6 c6, .int .i64 0] 35)) w.heap.size (.slice a7 n7 c7) hs := Ok.alloc (HS.out.1.below hRs) _
              have hbA : Below (wn.setCell ⟨g0, 5, none⟩ (.slice a6 n6 c6)).heap.size (wn.setCell ⟨g0, 5, none⟩ (.slice a6 n6 c6)) ((wn.setCell ⟨g0, 5, none⟩ (.slice a6 n6 c6)).alloc (.cells #[.bool true, .int .i64 ad, .int .i64 tg, .int .u64 (y : Nat), .int .u64 (z : Nat), .slice a6 n6 c6, .int .i64 0] 35)) := (Below.refl _ _).alloc (Nat.le_refl _) _
              have hfc : FrC (wn.setCell ⟨g0, 5, none⟩ (.slice a6 n6 c6)) (hfL ⟨true, ad, tg, y, z, a6, n6, c6, 0⟩) ⟨true, ad, tg, y, z, r6, 0⟩ := ⟨a6, n6, c6, rfl, hds, HYZ.out.1, HYZ.out.2.1, HYZ.out.2.2.1, HYZ.out.2.2.2.1, HC6.out⟩
              have HALF := Lib.hid (And.intro (HS.out.2.1.below hRs) hfc)
              have HOA := Lib.hid hoA
              clear hoA hfc
              go_wp2_with (at_builtin; refine wpList_append_dk (E := frE) rfl (.tmp 141) (.tmp 143) 26 35 rfl Tryz.underlying26 w.heap.size i0 _ 72 hi0 hz0 hz1 hz2 rfl (by decide) (by decide) _ hs rfl HOA.out _ 1 1 [⟨true, ad, tg, y, z, a6, n6, c6, 0⟩] rfl (Dk.one (E := frE) (wn.setCell ⟨g0, 5, none⟩ (.slice a6 n6 c6)) ⟨true, ad, tg, y, z, a6, n6, c6, 0⟩ 35 _ (by simp)) hlen7 (by simp; omega) ?_; intro v8 w8 ho8 hgr8)
              have hfar := owns_type (T := 80) HOA.out (by decide)
              have hal8 := (((HALF.out.1.below hbA).far hgr8 hfar).snoc ((HALF.out.2.below hbA).far hgr8 hfar))
              have hb8 := ((hBs).trans (hbA.mono hzt)).grown hgr8 (by simp; omega) (fun b hb => (HS.out.1.lt b hb).1)
              go_roundw
              case rel =>
                refine ⟨i + 8, hs ++ [⟨true, ad, tg, y, z, a6, n6, c6, 0⟩], l ++ [⟨true, ad, tg, y, z, r6, 0⟩], ?_, by go_num, ?_, ho8, hal8, ?_, hb8⟩
                · have := HI.out; rw [List.length_append]; simp only [List.length_cons, List.length_nil]; omega
                · have := HN7.out; rw [List.length_append]; simp only [List.length_cons, List.length_nil]; omega
                · intro f hf
                  rcases List.mem_append.1 hf with h | h
                  · exact HS.out.2.2 f h
                  · obtain rfl : f = ⟨true, ad, tg, y, z, r6, 0⟩ := by simpa using h
                    exact ⟨htg, had, HYZ.out, (fun h => ⟨(HRV2.out (by trivial)).1, (HRV2.out (by trivial)).2, rfl⟩), by dsimp only; omega, by dsimp only; omega⟩
              case measure => simp [intOf]; omega
          · have h31i : ¬ ((q3 : Nat) : Int) = 1 := by omega
            cases rv
            · skip
              have mm := cell7 hhs
              have m0 := mm.1.1
              have m1 := mm.1.2.1
              have m2 := mm.1.2.2.1
              have m3 := mm.1.2.2.2.1
              have m4 := mm.1.2.2.2.2.1
              have m5 := mm.1.2.2.2.2.2.1
              have m6 := mm.1.2.2.2.2.2.2
              have f0 := mm.2.1
              have f1 := mm.2.2.1
              have f2 := mm.2.2.2.1
              have f3 := mm.2.2.2.2.1
              have f4 := mm.2.2.2.2.2.1
              have f5 := mm.2.2.2.2.2.2.1
              have f6 := mm.2.2.2.2.2.2.2
              clear mm
              have hzt := (hBs).size
              have hzt0 := hzt
              try simp only [World.size_setCell] at hzt0
              have hoA : Ok frE 35 ((wn.setCell ⟨g0, 5, none⟩ (.slice a6 n6 c6)).alloc (.cells #[.bool false, .int .i64 ad, .int .i64 tg, .int .u64 (y : Nat), .int .u64 (z : Nat), .slice a6 n6 c6, .int .i64 0] 35)) w.heap.size (.slice a7 n7 c7) hs := Ok.alloc (HS.out.1.below hRs) _
              have hbA : Below (wn.setCell ⟨g0, 5, none⟩ (.slice a6 n6 c6)).heap.size (wn.setCell ⟨g0, 5, none⟩ (.slice a6 n6 c6)) ((wn.setCell ⟨g0, 5, none⟩ (.slice a6 n6 c6)).alloc (.cells #[.bool false, .int .i64 ad, .int .i64 tg, .int .u64 (y : Nat), .int .u64 (z : Nat), .slice a6 n6 c6, .int .i64 0] 35)) := (Below.refl _ _).alloc (Nat.le_refl _) _
              have hfc : FrC (wn.setCell ⟨g0, 5, none⟩ (.slice a6 n6 c6)) (hfL ⟨false, ad, tg, y, z, a6, n6, c6, 0⟩) ⟨false, ad, tg, y, z, r6, 0⟩ := ⟨a6, n6, c6, rfl, hds, HYZ.out.1, HYZ.out.2.1, HYZ.out.2.2.1, HYZ.out.2.2.2.1, HC6.out⟩
              have HALF := Lib.hid (And.intro (HS.out.2.1.below hRs) hfc)
              have HOA := Lib.hid hoA
              clear hoA hfc
              go_wp2_with (at_builtin; refine wpList_append_dk (E := frE) rfl (.tmp 141) (.tmp 143) 26 35 rfl Tryz.underlying26 w.heap.size i0 _ 72 hi0 hz0 hz1 hz2 rfl (by decide) (by decide) _ hs rfl HOA.out _ 1 1 [⟨false, ad, tg, y, z, a6, n6, c6, 0⟩] rfl (Dk.one (E := frE) (wn.setCell ⟨g0, 5, none⟩ (.slice a6 n6 c6)) ⟨false, ad, tg, y, z, a6, n6, c6, 0⟩ 35 _ (by simp)) hlen7 (by simp; omega) ?_; intro v8 w8 ho8 hgr8)
              have hfar := owns_type (T := 80) HOA.out (by decide)
              have hal8 := (((HALF.out.1.below hbA).far hgr8 hfar).snoc ((HALF.out.2.below hbA).far hgr8 hfar))
              have hb8 := ((hBs).trans (hbA.mono hzt)).grown hgr8 (by simp; omega) (fun b hb => (HS.out.1.lt b hb).1)
              go_roundw
              case rel =>
                refine ⟨i + 8, hs ++ [⟨false, ad, tg, y, z, a6, n6, c6, 0⟩], l ++ [⟨false, ad, tg, y, z, r6, 0⟩], ?_, by go_num, ?_, ho8, hal8, ?_, hb8⟩
                · have := HI.out; rw [List.length_append]; simp only [List.length_cons, List.length_nil]; omega
                · have := HN7.out; rw [List.length_append]; simp only [List.length_cons, List.length_nil]; omega
                · intro f hf
                  rcases List.mem_append.1 hf with h | h
                  · exact HS.out.2.2 f h
                  · obtain rfl : f = ⟨false, ad, tg, y, z, r6, 0⟩ := by simpa using h
                    exact ⟨htg, had, HYZ.out, (fun h => by cases h), by dsimp only; omega, by dsimp only; omega⟩
              case measure => simp [intOf]; omega
            · skip
              have mm := cell7 hhs
              have m0 := mm.1.1
              have m1 := mm.1.2.1
              have m2 := mm.1.2.2.1
              have m3 := mm.1.2.2.2.1
              have m4 := mm.1.2.2.2.2.1
              have m5 := mm.1.2.2.2.2.2.1
              have m6 := mm.1.2.2.2.2.2.2
              have f0 := mm.2.1
              have f1 := mm.2.2.1
              have f2 := mm.2.2.2.1
              have f3 := mm.2.2.2.2.1
              have f4 := mm.2.2.2.2.2.1
              have f5 := mm.2.2.2.2.2.2.1
              have f6 := mm.2.2.2.2.2.2.2
              clear mm
              have hzt := (hBs).size
              have hzt0 := hzt
              try simp only [World.size_setCell] at hzt0
              have hoA : Ok frE 35 ((wn.setCell ⟨g0, 5, none⟩ (.slice a6 n6 c6)).alloc (.cells #[.bool true, .int .i64 ad, .int .i64 tg, .int .u64 (y : Nat), .int .u64 (z : Nat), .slice a6 n6 c6, .int .i64 0] 35)) w.heap.size (.slice a7 n7 c7) hs := Ok.alloc (HS.out.1.below hRs) _
              have hbA : Below (wn.setCell ⟨g0, 5, none⟩ (.slice a6 n6 c6)).heap.size (wn.setCell ⟨g0, 5, none⟩ (.slice a6 n6 c6)) ((wn.setCell ⟨g0, 5, none⟩ (.slice a6 n6 c6)).alloc (.cells #[.bool true, .int .i64 ad, .int .i64 tg, .int .u64 (y : Nat), .int .u64 (z : Nat), .slice a6 n6 c6, .int .i64 0] 35)) := (Below.refl _ _).alloc (Nat.le_refl _) _
              have hfc : FrC (wn.setCell ⟨g0, 5, none⟩ (.slice a6 n6 c6)) (hfL ⟨true, ad, tg, y, z, a6, n6, c6, 0⟩) ⟨true, ad, tg, y, z, r6, 0⟩ := ⟨a6, n6, c6, rfl, hds, HYZ.out.1, HYZ.out.2.1, HYZ.out.2.2.1, HYZ.out.2.2.2.1, HC6.out⟩
              have HALF := Lib.hid (And.intro (HS.out.2.1.below hRs) hfc)
              have HOA := Lib.hid hoA
              clear hoA hfc
              go_wp2_with (at_builtin; refine wpList_append_dk (E := frE) rfl (.tmp 141) (.tmp 143) 26 35 rfl Tryz.underlying26 w.heap.size i0 _ 72 hi0 hz0 hz1 hz2 rfl (by decide) (by decide) _ hs rfl HOA.out _ 1 1 [⟨true, ad, tg, y, z, a6, n6, c6, 0⟩] rfl (Dk.one (E := frE) (wn.setCell ⟨g0, 5, none⟩ (.slice a6 n6 c6)) ⟨true, ad, tg, y, z, a6, n6, c6, 0⟩ 35 _ (by simp)) hlen7 (by simp; omega) ?_; intro v8 w8 ho8 hgr8)
              have hfar := owns_type (T := 80) HOA.out (by decide)
              have hal8 := (((HALF.out.1.below hbA).far hgr8 hfar).snoc ((HALF.out.2.below hbA).far hgr8 hfar))
              have hb8 := ((hBs).trans (hbA.mono hzt)).grown hgr8 (by simp; omega) (fun b hb => (HS.out.1.lt b hb).1)
              go_roundw
              case rel =>
                refine ⟨i + 8, hs ++ [⟨true, ad, tg, y, z, a6, n6, c6, 0⟩], l ++ [⟨true, ad, tg, y, z, r6, 0⟩], ?_, by go_num, ?_, ho8, hal8, ?_, hb8⟩
                · have := HI.out; rw [List.length_append]; simp only [List.length_cons, List.length_nil]; omega
                · have := HN7.out; rw [List.length_append]; simp only [List.length_cons, List.length_nil]; omega
                · intro f hf
                  rcases List.mem_append.1 hf with h | h
                  · exact HS.out.2.2 f h
                  · obtain rfl : f = ⟨true, ad, tg, y, z, r6, 0⟩ := by simpa using h
                    exact ⟨htg, had, HYZ.out, (fun h => ⟨(HRV2.out (by trivial)).1, (HRV2.out (by trivial)).2, rfl⟩), by dsimp only; omega, by dsimp only; omega⟩
              case measure => simp [intOf]; omega
    · have HD7 := Lib.hid hd7
      have HS := Lib.hid (And.intro hall hval)
      have hll : l.length ≤ 6 := by rw [← hall.1]; exact hl6
      clear hown hall hval hd7
      by_cases g1 : i + 8 ≤ pn
      · have g1i : (i : Int) + 8 ≤ (pn : Int) := by omega
        have g2i : ¬ ((n7 : Nat) : Int) < 6 := by omega
        clear hc8
        go_wp2_with fail
        go_ret
        exact ⟨a7, n7, c7, rfl, l, ⟨hs, HD7.out, HS.out.1⟩, HS.out.2, hll, hbw⟩
      · have g1i : ¬ ((i : Int) + 8 ≤ (pn : Int)) := by omega
        clear hc8
        go_wp2_with fail
        go_ret
        exact ⟨a7, n7, c7, rfl, l, ⟨hs, HD7.out, HS.out.1⟩, HS.out.2, hll, hbw⟩
end Go.Proofs.YtfjpbkmnlmecgaaGreatDoor.Ru
