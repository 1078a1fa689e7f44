/- The walk of RuleGrows. -/
import Derived.Test.YtfjpbkmnlmecgaaGreatDoorQhc
import Derived.Test.YtfjpbkmnlmecgaaGreatDoorQgz
import Derived.Deep.DeepCutAuto
namespace Go.Proofs.YtfjpbkmnlmecgaaGreatDoor.Ru
open Go.RowKit Go.PlainAid Go.Maps Go.Shelf Go.Proofs.YtfjpbkmnlmecgaaGreatDoor Go.Proofs.YtfjpbkmnlmecgaaGreatDoor.Bz
set_option linter.unusedVariables false
set_option linter.unusedSimpArgs false
set_option maxHeartbeats 8000000
set_option maxRecDepth 20000

theorem ruleGrows_walk (pa : Option Addr) (pn pc : Nat) (ps : List Nat) (x0 : Rask) (mo : Int) (w : World) (hW : Wz w) (hp : Bw w pa pn pc ps) (hx : AskOk x0) (hm0 : 0 ≤ mo) (hm1 : mo < 18446744073709551616) :
    Calls Tryz.prog 4 #[.slice pa pn pc, askV x0, .int .u64 mo] w fun e w' => e = .returned (.bool true) ∧ Below w.heap.size w w' := by
  have HA := Lib.hid (fun w' (hb : Below w.heap.size w w') => awake_any w' (hW.below hb))
  have HMD := Lib.hid (fun w' (hb : Below w.heap.size w w') => made_any pa pn pc ps w' (hp.below hb))
  clear hW hp
  obtain ⟨rk, tk, am, mm, dy, un⟩ := x0
  obtain ⟨hx1, hx2, hx3, hx4, hx5, hx6⟩ := hx
  dsimp only at hx1 hx2 hx3 hx4 hx5 hx6
  obtain ⟨mk, rfl⟩ : ∃ k : Nat, mo = k := ⟨mo.toNat, by omega⟩
  have hmk : mk < 18446744073709551616 := by omega
  unfold askV
  dsimp only
  have HSET := Lib.hid (fun w' => mset_any mm hx2 w')
  have HMORE := Lib.hid (fun w' => mset_any mk hmk w')
  clear hx1 hx2 hm0 hm1 hmk
  obtain ⟨W1, hW1⟩ : ∃ W1, W1 = w.alloc (.cells #[.bool rk, .int .i64 tk, .int .u64 (am : Nat), .int .u64 (mm : Nat), .int .i64 dy, .int .i64 un] 56) := ⟨_, rfl⟩
  have hn1 : W1.heap[w.heap.size]? = some (.cells #[.bool rk, .int .i64 tk, .int .u64 (am : Nat), .int .u64 (mm : Nat), .int .i64 dy, .int .i64 un] 56 (0, 0)) := by rw [hW1]; exact heap_alloc_new _ _
  have hz1 : W1.heap.size = w.heap.size + 1 := by rw [hW1]; simp
  have hb1 : Below w.heap.size w W1 := by rw [hW1]; exact (Below.refl _ _).alloc (Nat.le_refl _) _
  have HQ : Hid (∀ w', Below W1.heap.size W1 w' → w'.cell? ⟨w.heap.size, 0, none⟩ = some (.bool rk) ∧ w'.cell? ⟨w.heap.size, 1, none⟩ = some (.int .i64 tk) ∧ w'.cell? ⟨w.heap.size, 2, none⟩ = some (.int .u64 (am : Nat)) ∧ w'.cell? ⟨w.heap.size, 3, none⟩ = some (.int .u64 (mm : Nat)) ∧ w'.cell? ⟨w.heap.size, 4, none⟩ = some (.int .i64 dy) ∧ w'.cell? ⟨w.heap.size, 5, none⟩ = some (.int .i64 un)) := fun w' hb => by
    have hq := (hb.block w.heap.size (by omega)).trans hn1
    refine ⟨?_, ?_, ?_, ?_, ?_, ?_⟩ <;> simp [World.cell?, hq]
  have HB1 := Lib.hid hb1
  clear hn1 hz1 hb1
  go_enter Tryz.func4, Tryz.ntmps4
  go_wp2_with fail
  rw [← hW1]
  clear hW1
  (with_reducible refine (HA.out _ HB1.out).mono ?_)
  rintro e w0 ⟨rfl, hb0⟩
  have hB0 := stepc HB1.out hb0
  go_wp2_with fail
  (with_reducible refine (HMD.out _ hB0).mono ?_)
  rintro e w1 ⟨a, n, c, b, m, d, l, rfl, hrs, -, -, hl6, hb1⟩
  have hW11 := stepc hb0 hb1
  have HRS := Lib.hid hrs
  have hnl : n = (l.map toRl).length := hrs.len
  rw [List.length_map] at hnl
  have hn6 : n ≤ 6 := by omega
  have HNL := Lib.hid hnl
  clear hnl hrs HA HMD hB0 hb0
  obtain ⟨k0, k1, k2, k3, k4, k5⟩ := HQ.out _ hW11
  go_wp2_with fail
  (with_reducible refine (HSET.out _).mono ?_)
  rintro e w2 ⟨sa, sn, sc, rfl, hs2, hb2⟩
  clear k0 k1 k2 k3 k4 k5
  obtain ⟨W3, hW3⟩ : ∃ W3, W3 = w2.alloc (.cells #[.slice sa sn sc] 39) := ⟨_, rfl⟩
  have hb3 : Below w2.heap.size w2 W3 := by rw [hW3]; exact (Below.refl _ _).alloc (Nat.le_refl _) _
  have hz3 : W3.heap.size = w2.heap.size + 1 := by rw [hW3]; simp
  have hn3 : W3.heap[w2.heap.size]? = some (.cells #[.slice sa sn sc] 39 (0, 0)) := by rw [hW3]; exact heap_alloc_new _ _
  have HSC : Hid (∀ w', Below W3.heap.size W3 w' → w'.cell? ⟨w2.heap.size, 0, none⟩ = some (.slice sa sn sc)) := fun w' hb => (cell1 ((hb.block _ (by omega)).trans hn3)).1
  have HSB : Hid (∀ w', Below W3.heap.size W3 w' → Bs w' sa sn sc (maskL mm)) := fun w' hb => (hs2.below hb3).below hb
  have hW13 := stepc (stepc hW11 hb2) hb3
  have HQ := Lib.hid (fun w' (hb : Below W3.heap.size W3 w') => HQ.out w' (stepc hW13 hb))
  have HBW := Lib.hid (fun w' (hb : Below W3.heap.size W3 w') => stepc (stepc HB1.out hW13) hb)
  have HRS := Lib.hid (fun w' (hb : Below W3.heap.size W3 w') => (((HRS.out.below hb2).below hb3).below hb))
  have HASC : Hid (Asc (maskL mm)) := asc_mask _ _ (by omega)
  generalize maskL mm = mem at *
  generalize maskL mk = mem2 at *
  clear hs2 hb2 hb3 hz3 hn3 hW13 hW11 hb1 HB1 HSET
  go_wp2_with fail
  rw [← hW3]
  clear hW3
  go_loopw [24] (fun v wr => ∃ j : Nat, j ≤ n ∧ v = .int .i64 (j : Nat) ∧ Below W3.heap.size W3 wr) (fun v _ => n - (intOf v).toNat)
  case atStart => exact ⟨0, by omega, rfl, Below.refl _ _⟩
  case round =>
    obtain ⟨j, hj, rfl, hbw⟩ := hrel
    by_cases hjn : j < n
    · have hj0 : (0 : Int) ≤ ((j : Nat) : Int) := Int.natCast_nonneg _
      have hj1 : ((j : Nat) : Int) < ((n : Nat) : Int) := by omega
      obtain ⟨hs, hdk, hall⟩ := HRS.out wr hbw
      obtain ⟨r, hf⟩ : ∃ r, (l.map toRl)[j]? = some r := ⟨_, List.getElem?_eq_getElem (by rw [List.length_map, ← HNL.out]; exact hjn)⟩
      obtain ⟨h, hh⟩ : ∃ h, hs[j]? = some h := ⟨_, List.getElem?_eq_getElem (by rw [hall.1, List.length_map, ← HNL.out]; exact hjn)⟩
      have hrw := hall.2 j h r hh hf
      obtain ⟨rb, ro, hab, hbl, hcell⟩ := hdk.at hh
      subst hab
      have hcx := fun (k : Nat) (v : Value) (hk : (hrL h)[k]? = some v) => show wr.cell? ⟨rb, ro + j * 7 + k, none⟩ = some v from by rw [Nat.add_assoc]; exact hcell k v hk
      have q0 : wr.cell? ⟨rb, ro + j * 7, none⟩ = _ := hcx 0 _ rfl
      have q1 := hcx 1 _ rfl
      have q2 := hcx 2 _ rfl
      have q3 := hcx 3 _ rfl
      have q4 := hcx 4 _ rfl
      have q5 := hcx 5 _ rfl
      have q6 := hcx 6 _ rfl
      clear hcx hcell hf hh hall hdk hbl
      obtain ⟨rv, ad, tg, p1, n1, z1, p2, n2, z2, p3, n3, z3, lg⟩ := h
      dsimp only at q0 q1 q2 q3 q4 q5 q6
      obtain ⟨W5, hW5⟩ : ∃ W5, W5 = wr.alloc (.cells #[.bool rv, .int .i64 ad, .int .i64 tg, .slice p1 n1 z1, .slice p2 n2 z2, .slice p3 n3 z3, .int .i64 lg] 46) := ⟨_, rfl⟩
      have hb5 : Below wr.heap.size wr W5 := by rw [hW5]; exact (Below.refl _ _).alloc (Nat.le_refl _) _
      have hn5 : W5.heap[wr.heap.size]? = some (.cells #[.bool rv, .int .i64 ad, .int .i64 tg, .slice p1 n1 z1, .slice p2 n2 z2, .slice p3 n3 z3, .int .i64 lg] 46 (0, 0)) := by rw [hW5]; exact heap_alloc_new _ _
      have hl5 := (Array.getElem?_eq_some_iff.1 hn5).1
      have HC : Hid (∀ w', Below W5.heap.size W5 w' → w'.cell? ⟨wr.heap.size, 0, none⟩ = some (.bool rv) ∧ w'.cell? ⟨wr.heap.size, 1, none⟩ = some (.int .i64 ad) ∧ w'.cell? ⟨wr.heap.size, 2, none⟩ = some (.int .i64 tg) ∧ w'.cell? ⟨wr.heap.size, 3, none⟩ = some (.slice p1 n1 z1) ∧ w'.cell? ⟨wr.heap.size, 4, none⟩ = some (.slice p2 n2 z2) ∧ w'.cell? ⟨wr.heap.size, 5, none⟩ = some (.slice p3 n3 z3) ∧ w'.cell? ⟨wr.heap.size, 6, none⟩ = some (.int .i64 lg)) := fun w' hb => (cell7 ((hb.block _ hl5).trans hn5)).1
      have hB5 := stepc hbw hb5
      have HSC := Lib.hid (fun w' (hb : Below W5.heap.size W5 w') => HSC.out w' (stepc hB5 hb))
      have HSB := Lib.hid (fun w' (hb : Below W5.heap.size W5 w') => HSB.out w' (stepc hB5 hb))
      have HQ := Lib.hid (fun w' (hb : Below W5.heap.size W5 w') => HQ.out w' (stepc hB5 hb))
      have HBW := Lib.hid (fun w' (hb : Below W5.heap.size W5 w') => HBW.out w' (stepc hB5 hb))
      have HRW := Lib.hid (fun w' (hb : Below W5.heap.size W5 w') => (hrw.below hb5).below hb)
      have HB5 := Lib.hid hB5
      have HREV : Hid (rv = r.revoke) := hrw.1
      have HPM := Lib.hid (fun (e : Option Addr) (k f : Nat) (me : List Nat) (d u : Int) w' (hb : Below W5.heap.size W5 w') (hm : Bs w' e k f me) => show Calls Tryz.prog 21 #[.agg #[.bool rv, .int .i64 ad, .int .i64 tg, .slice p1 n1 z1, .slice p2 n2 z2, .slice p3 n3 z3, .int .i64 lg], .agg #[.slice e k f], .int .i64 d, .int .i64 u] w' (BoolPost w' (permB r me d u)) from permits_any ⟨rv, ad, tg, p1, n1, z1, p2, n2, z2, p3, n3, z3, lg⟩ r e k f me d u w' (HRW.out w' hb) hm)
      have HHO := Lib.hid (fun w' (hb : Below W5.heap.size W5 w') => holdsC_any p1 p2 sa n1 z1 n2 z2 sn sc (r.yes, r.no) mem w' ⟨(HRW.out w' hb).2.2.2.1.1, (HRW.out w' hb).2.2.2.2.1.1⟩ (HSB.out w' hb))
      have HEM := Lib.hid (fun w' (hb : Below W5.heap.size W5 w') => empty_any p2 n2 z2 r.no w' (HRW.out w' hb).2.2.2.2.1.1)
      have hk := Below.refl W5.heap.size W5
      clear hb5 hn5 hl5 hrw HRS
      have HDAY : Hid (permB r mem dy un = true → 0 ≤ dy ∧ dy ≤ un ∧ un ≤ 30000) := fun hp => by
        obtain ⟨-, h2, -, h4, h5, -⟩ := perm_iff.1 hp
        have := (HRW.out _ hk).2.2.2.2.2.2.2.day h2
        omega
      obtain ⟨b0, b1, b2, b3, b4, b5, b6⟩ := HC.out _ hk
      have s0 := HSC.out _ hk
      obtain ⟨k0, k1, k2, k3, k4, k5⟩ := HQ.out _ hk
      go_upto_region 8 with fail
      rw [← hW5]
      clear hW5 q0 q1 q2 q3 q4 q5 q6
      go_wp2_with fail
      (with_reducible refine (HPM.out sa sn sc mem dy un _ hk (HSB.out _ hk)).mono ?_)
      rintro e w6 ⟨rfl, hb6⟩
      have hk := stepc hk hb6
      clear b0 b1 b2 b3 b4 b5 b6 s0 k0 k1 k2 k3 k4 k5
      obtain ⟨b0, b1, b2, b3, b4, b5, b6⟩ := HC.out _ hk
      have s0 := HSC.out _ hk
      obtain ⟨k0, k1, k2, k3, k4, k5⟩ := HQ.out _ hk
      cases hP : permB r mem dy un
      · have HP := Lib.hid hP
        clear hP
        go_wp2_with fail
        go_roundw
        case rel => exact ⟨j + 1, by omega, by go_num, stepc HB5.out hk⟩
        case measure => simp [intOf]; omega
      obtain ⟨g1, g2, g3, g4, g5⟩ := grows hP
      obtain ⟨hd0, hd1, hd2⟩ := HDAY.out hP
      have HP := Lib.hid hP
      have HG2 := Lib.hid g2
      have HG3 := Lib.hid g3
      have HG5 := Lib.hid g5
      have hrv : rv = false := HREV.out.trans g1
      clear g1 g2 g3 g5 hP HREV
      subst hrv
      have g4n : ¬ un < dy := by omega
      have hsub : IntKind.i64.wrap (un - dy) = un - dy := by rw [IntKind.wrap_i64]; omega
      have hquo : (un - dy).tdiv 2 = (un - dy) / 2 := Int.tdiv_eq_ediv_of_nonneg (by omega)
      have hwq : IntKind.i64.wrap ((un - dy) / 2) = (un - dy) / 2 := by rw [IntKind.wrap_i64]; omega
      have hadd : IntKind.i64.wrap (dy + (un - dy) / 2) = dy + (un - dy) / 2 := by rw [IntKind.wrap_i64]; omega
      go_wp2_with fail
      (with_reducible refine (HHO.out _ hk).mono ?_)
      rw [HG2.out]
      rintro e w7 ⟨rfl, hb7⟩
      have hk := stepc hk hb7
      clear b0 b1 b2 b3 b4 b5 b6 s0 k0 k1 k2 k3 k4 k5
      obtain ⟨b0, b1, b2, b3, b4, b5, b6⟩ := HC.out _ hk
      have s0 := HSC.out _ hk
      obtain ⟨k0, k1, k2, k3, k4, k5⟩ := HQ.out _ hk
      go_wp2_with fail
      (with_reducible refine (HPM.out sa sn sc mem dy dy _ hk (HSB.out _ hk)).mono ?_)
      rw [HG3.out]
      rintro e w8 ⟨rfl, hb8⟩
      have hk := stepc hk hb8
      clear b0 b1 b2 b3 b4 b5 b6 s0 k0 k1 k2 k3 k4 k5
      obtain ⟨b0, b1, b2, b3, b4, b5, b6⟩ := HC.out _ hk
      have s0 := HSC.out _ hk
      obtain ⟨k0, k1, k2, k3, k4, k5⟩ := HQ.out _ hk
      go_wp2_with fail
      (with_reducible refine (HPM.out sa sn sc mem dy (dy + (un - dy) / 2) _ hk (HSB.out _ hk)).mono ?_)
      rw [HG5.out]
      rintro e w9 ⟨rfl, hb9⟩
      have hk := stepc hk hb9
      clear b0 b1 b2 b3 b4 b5 b6 s0 k0 k1 k2 k3 k4 k5
      obtain ⟨b0, b1, b2, b3, b4, b5, b6⟩ := HC.out _ hk
      have s0 := HSC.out _ hk
      obtain ⟨k0, k1, k2, k3, k4, k5⟩ := HQ.out _ hk
      clear b0 b1 b2 b3 b4 b5 b6 s0 k0 k1 k2 k3 k4 k5 hsub hquo hwq hadd HHO HG2 HG3 HG5
      cases hE : decide (r.no = [])
      · have HE := Lib.hid hE
        clear hE
        go_wp2_with fail
        refine region_slots [79, 80, 81, 82, 83, 84, 85, 86, 87, 88, 89, 90, 91, 92, 93, 94, 95]
          [fun v _ => v = .pointer (some ⟨wr.heap.size, 3, none⟩),
           fun v _ => v = .pointer (some ⟨wr.heap.size, 4, none⟩),
           fun v _ => v = .agg #[.slice p2 n2 z2],
           fun v _ => v = .bool false,
           fun v _ => v = .bool false,
           fun _ _ => True,
           fun _ _ => True,
           fun _ _ => True,
           fun _ _ => True,
           fun _ _ => True,
           fun _ _ => True,
           fun _ _ => True,
           fun _ _ => True,
           fun _ _ => True,
           fun _ _ => True,
           fun _ _ => True,
           fun v _ => v = .bool false]
          (fun w' => Below W5.heap.size W5 w') (fun w w' => Below w.heap.size w w') (by kernel_rfl) (by kernel_rfl) rfl [u79, u80, u81, u82, u83, u84, u85, u86, u87, u88, u89, u90, u91, u92, u93, u94, u95] (by simp only [puts, List.set_cons_zero, List.set_cons_succ, Act.put, List.setIfInBounds_toArray]) rfl ((stepc hk (Below.refl _ _).drew)) ?_ ⟨?_, ?_, ?_, ?_, ?_, ?_, ?_, ?_, ?_, ?_, ?_, ?_, ?_, ?_, ?_, ?_, ?_, trivial⟩ ?_
        · intro j D hj v w w' hb hD
          match j, hj with
          | 0, hj => cases hj; exact hD
          | 1, hj => cases hj; exact hD
          | 2, hj => cases hj; exact hD
          | 3, hj => cases hj; exact hD
          | 4, hj => cases hj; exact hD
          | 5, hj => cases hj; trivial
          | 6, hj => cases hj; trivial
          | 7, hj => cases hj; trivial
          | 8, hj => cases hj; trivial
          | 9, hj => cases hj; trivial
          | 10, hj => cases hj; trivial
          | 11, hj => cases hj; trivial
          | 12, hj => cases hj; trivial
          | 13, hj => cases hj; trivial
          | 14, hj => cases hj; trivial
          | 15, hj => cases hj; trivial
          | 16, hj => cases hj; exact hD
          | j + 17, hj => cases hj
        · refine ⟨[], by decide, fun vs w hl hR hd K hK => ?_⟩
          obtain ⟨v0, vs, rfl, hl1⟩ := len_succ hl
          obtain ⟨v1, vs, rfl, hl2⟩ := len_succ hl1
          obtain ⟨v2, vs, rfl, hl3⟩ := len_succ hl2
          obtain ⟨v3, vs, rfl, hl4⟩ := len_succ hl3
          obtain ⟨v4, vs, rfl, hl5⟩ := len_succ hl4
          obtain ⟨v5, vs, rfl, hl6⟩ := len_succ hl5
          obtain ⟨v6, vs, rfl, hl7⟩ := len_succ hl6
          obtain ⟨v7, vs, rfl, hl8⟩ := len_succ hl7
          obtain ⟨v8, vs, rfl, hl9⟩ := len_succ hl8
          obtain ⟨v9, vs, rfl, hl10⟩ := len_succ hl9
          obtain ⟨v10, vs, rfl, hl11⟩ := len_succ hl10
          obtain ⟨v11, vs, rfl, hl12⟩ := len_succ hl11
          obtain ⟨v12, vs, rfl, hl13⟩ := len_succ hl12
          obtain ⟨v13, vs, rfl, hl14⟩ := len_succ hl13
          obtain ⟨v14, vs, rfl, hl15⟩ := len_succ hl14
          obtain ⟨v15, vs, rfl, hl16⟩ := len_succ hl15
          obtain ⟨v16, vs, rfl, hl17⟩ := len_succ hl16
          obtain rfl := len_zero hl17
          clear hd hl hl1 hl2 hl3 hl4 hl5 hl6 hl7 hl8 hl9 hl10 hl11 hl12 hl13 hl14 hl15 hl16 hl17
          replace hK := hK.out
          simp only [puts, List.set_cons_zero, List.set_cons_succ, Act.put, List.setIfInBounds_toArray] at hK ⊢
          have hK' : Shut _ := hK
          clear hK
          go_simp
          (try go_wp2_with fail)
          exact hK'.out _ _ (Below.refl _ _) (hR) (fun D hD => by cases hD; rfl)
        · refine ⟨[0], by decide, fun vs w hl hR hd K hK => ?_⟩
          obtain ⟨v0, vs, rfl, hl1⟩ := len_succ hl
          obtain ⟨v1, vs, rfl, hl2⟩ := len_succ hl1
          obtain ⟨v2, vs, rfl, hl3⟩ := len_succ hl2
          obtain ⟨v3, vs, rfl, hl4⟩ := len_succ hl3
          obtain ⟨v4, vs, rfl, hl5⟩ := len_succ hl4
          obtain ⟨v5, vs, rfl, hl6⟩ := len_succ hl5
          obtain ⟨v6, vs, rfl, hl7⟩ := len_succ hl6
          obtain ⟨v7, vs, rfl, hl8⟩ := len_succ hl7
          obtain ⟨v8, vs, rfl, hl9⟩ := len_succ hl8
          obtain ⟨v9, vs, rfl, hl10⟩ := len_succ hl9
          obtain ⟨v10, vs, rfl, hl11⟩ := len_succ hl10
          obtain ⟨v11, vs, rfl, hl12⟩ := len_succ hl11
          obtain ⟨v12, vs, rfl, hl13⟩ := len_succ hl12
          obtain ⟨v13, vs, rfl, hl14⟩ := len_succ hl13
          obtain ⟨v14, vs, rfl, hl15⟩ := len_succ hl14
          obtain ⟨v15, vs, rfl, hl16⟩ := len_succ hl15
          obtain ⟨v16, vs, rfl, hl17⟩ := len_succ hl16
          obtain rfl := len_zero hl17
          have dd := hd 0 (by simp) _ rfl; simp only [List.getD_cons_zero, List.getD_cons_succ] at dd; obtain rfl := dd
          clear hd hl hl1 hl2 hl3 hl4 hl5 hl6 hl7 hl8 hl9 hl10 hl11 hl12 hl13 hl14 hl15 hl16 hl17
          replace hK := hK.out
          simp only [puts, List.set_cons_zero, List.set_cons_succ, Act.put, List.setIfInBounds_toArray] at hK ⊢
          have hK' : Shut _ := hK
          clear hK
          go_simp
          (try go_wp2_with fail)
          exact hK'.out _ _ (Below.refl _ _) (hR) (fun D hD => by cases hD; rfl)
        · refine ⟨[1], by decide, fun vs w hl hR hd K hK => ?_⟩
          obtain ⟨v0, vs, rfl, hl1⟩ := len_succ hl
          obtain ⟨v1, vs, rfl, hl2⟩ := len_succ hl1
          obtain ⟨v2, vs, rfl, hl3⟩ := len_succ hl2
          obtain ⟨v3, vs, rfl, hl4⟩ := len_succ hl3
          obtain ⟨v4, vs, rfl, hl5⟩ := len_succ hl4
          obtain ⟨v5, vs, rfl, hl6⟩ := len_succ hl5
          obtain ⟨v6, vs, rfl, hl7⟩ := len_succ hl6
          obtain ⟨v7, vs, rfl, hl8⟩ := len_succ hl7
          obtain ⟨v8, vs, rfl, hl9⟩ := len_succ hl8
          obtain ⟨v9, vs, rfl, hl10⟩ := len_succ hl9
          obtain ⟨v10, vs, rfl, hl11⟩ := len_succ hl10
          obtain ⟨v11, vs, rfl, hl12⟩ := len_succ hl11
          obtain ⟨v12, vs, rfl, hl13⟩ := len_succ hl12
          obtain ⟨v13, vs, rfl, hl14⟩ := len_succ hl13
          obtain ⟨v14, vs, rfl, hl15⟩ := len_succ hl14
          obtain ⟨v15, vs, rfl, hl16⟩ := len_succ hl15
          obtain ⟨v16, vs, rfl, hl17⟩ := len_succ hl16
          obtain rfl := len_zero hl17
          have dd := hd 1 (by simp) _ rfl; simp only [List.getD_cons_zero, List.getD_cons_succ] at dd; obtain rfl := dd
          clear hd hl hl1 hl2 hl3 hl4 hl5 hl6 hl7 hl8 hl9 hl10 hl11 hl12 hl13 hl14 hl15 hl16 hl17
          replace hK := hK.out
          simp only [puts, List.set_cons_zero, List.set_cons_succ, Act.put, List.setIfInBounds_toArray] at hK ⊢
          have hK' : Shut _ := hK
          clear hK
          obtain ⟨b0, b1, b2, b3, b4, b5, b6⟩ := HC.out _ hR
          go_simp
          (try go_wp2_with fail)
          exact hK'.out _ _ (Below.refl _ _) (hR) (fun D hD => by cases hD; rfl)
        · refine ⟨[2], by decide, fun vs w hl hR hd K hK => ?_⟩
          obtain ⟨v0, vs, rfl, hl1⟩ := len_succ hl
          obtain ⟨v1, vs, rfl, hl2⟩ := len_succ hl1
          obtain ⟨v2, vs, rfl, hl3⟩ := len_succ hl2
          obtain ⟨v3, vs, rfl, hl4⟩ := len_succ hl3
          obtain ⟨v4, vs, rfl, hl5⟩ := len_succ hl4
          obtain ⟨v5, vs, rfl, hl6⟩ := len_succ hl5
          obtain ⟨v6, vs, rfl, hl7⟩ := len_succ hl6
          obtain ⟨v7, vs, rfl, hl8⟩ := len_succ hl7
          obtain ⟨v8, vs, rfl, hl9⟩ := len_succ hl8
          obtain ⟨v9, vs, rfl, hl10⟩ := len_succ hl9
          obtain ⟨v10, vs, rfl, hl11⟩ := len_succ hl10
          obtain ⟨v11, vs, rfl, hl12⟩ := len_succ hl11
          obtain ⟨v12, vs, rfl, hl13⟩ := len_succ hl12
          obtain ⟨v13, vs, rfl, hl14⟩ := len_succ hl13
          obtain ⟨v14, vs, rfl, hl15⟩ := len_succ hl14
          obtain ⟨v15, vs, rfl, hl16⟩ := len_succ hl15
          obtain ⟨v16, vs, rfl, hl17⟩ := len_succ hl16
          obtain rfl := len_zero hl17
          have dd := hd 2 (by simp) _ rfl; simp only [List.getD_cons_zero, List.getD_cons_succ] at dd; obtain rfl := dd
          clear hd hl hl1 hl2 hl3 hl4 hl5 hl6 hl7 hl8 hl9 hl10 hl11 hl12 hl13 hl14 hl15 hl16 hl17
          replace hK := hK.out
          simp only [puts, List.set_cons_zero, List.set_cons_succ, Act.put, List.setIfInBounds_toArray] at hK ⊢
          have hK' : Shut _ := hK
          clear hK
          go_simp
          go_at_call 23; (with_reducible refine (HEM.out _ hR).mono ?_); rw [HE.out]; rintro e w2 ⟨rfl, hb⟩
          (try go_wp2_with fail)
          exact hK'.out _ _ (hb) (stepc hR (hb)) (fun D hD => by cases hD; rfl)
        · refine ⟨[3], by decide, fun vs w hl hR hd K hK => ?_⟩
          obtain ⟨v0, vs, rfl, hl1⟩ := len_succ hl
          obtain ⟨v1, vs, rfl, hl2⟩ := len_succ hl1
          obtain ⟨v2, vs, rfl, hl3⟩ := len_succ hl2
          obtain ⟨v3, vs, rfl, hl4⟩ := len_succ hl3
          obtain ⟨v4, vs, rfl, hl5⟩ := len_succ hl4
          obtain ⟨v5, vs, rfl, hl6⟩ := len_succ hl5
          obtain ⟨v6, vs, rfl, hl7⟩ := len_succ hl6
          obtain ⟨v7, vs, rfl, hl8⟩ := len_succ hl7
          obtain ⟨v8, vs, rfl, hl9⟩ := len_succ hl8
          obtain ⟨v9, vs, rfl, hl10⟩ := len_succ hl9
          obtain ⟨v10, vs, rfl, hl11⟩ := len_succ hl10
          obtain ⟨v11, vs, rfl, hl12⟩ := len_succ hl11
          obtain ⟨v12, vs, rfl, hl13⟩ := len_succ hl12
          obtain ⟨v13, vs, rfl, hl14⟩ := len_succ hl13
          obtain ⟨v14, vs, rfl, hl15⟩ := len_succ hl14
          obtain ⟨v15, vs, rfl, hl16⟩ := len_succ hl15
          obtain ⟨v16, vs, rfl, hl17⟩ := len_succ hl16
          obtain rfl := len_zero hl17
          have dd := hd 3 (by simp) _ rfl; simp only [List.getD_cons_zero, List.getD_cons_succ] at dd; obtain rfl := dd
          clear hd hl hl1 hl2 hl3 hl4 hl5 hl6 hl7 hl8 hl9 hl10 hl11 hl12 hl13 hl14 hl15 hl16 hl17
          replace hK := hK.out
          simp only [puts, List.set_cons_zero, List.set_cons_succ, Act.put, List.setIfInBounds_toArray] at hK ⊢
          have hK' : Shut _ := hK
          clear hK
          go_simp
          (try go_wp2_with fail)
          exact hK'.out _ _ (Below.refl _ _) (hR) (fun D hD => by cases hD; rfl)
        · refine ⟨[4], by decide, fun vs w hl hR hd K hK => ?_⟩
          obtain ⟨v0, vs, rfl, hl1⟩ := len_succ hl
          obtain ⟨v1, vs, rfl, hl2⟩ := len_succ hl1
          obtain ⟨v2, vs, rfl, hl3⟩ := len_succ hl2
          obtain ⟨v3, vs, rfl, hl4⟩ := len_succ hl3
          obtain ⟨v4, vs, rfl, hl5⟩ := len_succ hl4
          obtain ⟨v5, vs, rfl, hl6⟩ := len_succ hl5
          obtain ⟨v6, vs, rfl, hl7⟩ := len_succ hl6
          obtain ⟨v7, vs, rfl, hl8⟩ := len_succ hl7
          obtain ⟨v8, vs, rfl, hl9⟩ := len_succ hl8
          obtain ⟨v9, vs, rfl, hl10⟩ := len_succ hl9
          obtain ⟨v10, vs, rfl, hl11⟩ := len_succ hl10
          obtain ⟨v11, vs, rfl, hl12⟩ := len_succ hl11
          obtain ⟨v12, vs, rfl, hl13⟩ := len_succ hl12
          obtain ⟨v13, vs, rfl, hl14⟩ := len_succ hl13
          obtain ⟨v14, vs, rfl, hl15⟩ := len_succ hl14
          obtain ⟨v15, vs, rfl, hl16⟩ := len_succ hl15
          obtain ⟨v16, vs, rfl, hl17⟩ := len_succ hl16
          obtain rfl := len_zero hl17
          have dd := hd 4 (by simp) _ rfl; simp only [List.getD_cons_zero, List.getD_cons_succ] at dd; obtain rfl := dd
          clear hd hl hl1 hl2 hl3 hl4 hl5 hl6 hl7 hl8 hl9 hl10 hl11 hl12 hl13 hl14 hl15 hl16 hl17
          replace hK := hK.out
          simp only [puts, List.set_cons_zero, List.set_cons_succ, Act.put, List.setIfInBounds_toArray] at hK ⊢
          have hK' : Shut _ := hK
          clear hK
          go_simp
          (try go_wp2_with fail)
          exact hK'.out _ _ (Below.refl _ _) (hR) (fun D hD => by cases hD; trivial)
        · refine ⟨[4], by decide, fun vs w hl hR hd K hK => ?_⟩
          obtain ⟨v0, vs, rfl, hl1⟩ := len_succ hl
          obtain ⟨v1, vs, rfl, hl2⟩ := len_succ hl1
          obtain ⟨v2, vs, rfl, hl3⟩ := len_succ hl2
          obtain ⟨v3, vs, rfl, hl4⟩ := len_succ hl3
          obtain ⟨v4, vs, rfl, hl5⟩ := len_succ hl4
          obtain ⟨v5, vs, rfl, hl6⟩ := len_succ hl5
          obtain ⟨v6, vs, rfl, hl7⟩ := len_succ hl6
          obtain ⟨v7, vs, rfl, hl8⟩ := len_succ hl7
          obtain ⟨v8, vs, rfl, hl9⟩ := len_succ hl8
          obtain ⟨v9, vs, rfl, hl10⟩ := len_succ hl9
          obtain ⟨v10, vs, rfl, hl11⟩ := len_succ hl10
          obtain ⟨v11, vs, rfl, hl12⟩ := len_succ hl11
          obtain ⟨v12, vs, rfl, hl13⟩ := len_succ hl12
          obtain ⟨v13, vs, rfl, hl14⟩ := len_succ hl13
          obtain ⟨v14, vs, rfl, hl15⟩ := len_succ hl14
          obtain ⟨v15, vs, rfl, hl16⟩ := len_succ hl15
          obtain ⟨v16, vs, rfl, hl17⟩ := len_succ hl16
          obtain rfl := len_zero hl17
          have dd := hd 4 (by simp) _ rfl; simp only [List.getD_cons_zero, List.getD_cons_succ] at dd; obtain rfl := dd
          clear hd hl hl1 hl2 hl3 hl4 hl5 hl6 hl7 hl8 hl9 hl10 hl11 hl12 hl13 hl14 hl15 hl16 hl17
          replace hK := hK.out
          simp only [puts, List.set_cons_zero, List.set_cons_succ, Act.put, List.setIfInBounds_toArray] at hK ⊢
          have hK' : Shut _ := hK
          clear hK
          go_simp
          (try go_wp2_with fail)
          exact hK'.out _ _ (Below.refl _ _) (hR) (fun D hD => by cases hD; trivial)
        · refine ⟨[4], by decide, fun vs w hl hR hd K hK => ?_⟩
          obtain ⟨v0, vs, rfl, hl1⟩ := len_succ hl
          obtain ⟨v1, vs, rfl, hl2⟩ := len_succ hl1
          obtain ⟨v2, vs, rfl, hl3⟩ := len_succ hl2
          obtain ⟨v3, vs, rfl, hl4⟩ := len_succ hl3
          obtain ⟨v4, vs, rfl, hl5⟩ := len_succ hl4
          obtain ⟨v5, vs, rfl, hl6⟩ := len_succ hl5
          obtain ⟨v6, vs, rfl, hl7⟩ := len_succ hl6
          obtain ⟨v7, vs, rfl, hl8⟩ := len_succ hl7
          obtain ⟨v8, vs, rfl, hl9⟩ := len_succ hl8
          obtain ⟨v9, vs, rfl, hl10⟩ := len_succ hl9
          obtain ⟨v10, vs, rfl, hl11⟩ := len_succ hl10
          obtain ⟨v11, vs, rfl, hl12⟩ := len_succ hl11
          obtain ⟨v12, vs, rfl, hl13⟩ := len_succ hl12
          obtain ⟨v13, vs, rfl, hl14⟩ := len_succ hl13
          obtain ⟨v14, vs, rfl, hl15⟩ := len_succ hl14
          obtain ⟨v15, vs, rfl, hl16⟩ := len_succ hl15
          obtain ⟨v16, vs, rfl, hl17⟩ := len_succ hl16
          obtain rfl := len_zero hl17
          have dd := hd 4 (by simp) _ rfl; simp only [List.getD_cons_zero, List.getD_cons_succ] at dd; obtain rfl := dd
          clear hd hl hl1 hl2 hl3 hl4 hl5 hl6 hl7 hl8 hl9 hl10 hl11 hl12 hl13 hl14 hl15 hl16 hl17
          replace hK := hK.out
          simp only [puts, List.set_cons_zero, List.set_cons_succ, Act.put, List.setIfInBounds_toArray] at hK ⊢
          have hK' : Shut _ := hK
          clear hK
          go_simp
          (try go_wp2_with fail)
          exact hK'.out _ _ (Below.refl _ _) (hR) (fun D hD => by cases hD; trivial)
        · refine ⟨[4], by decide, fun vs w hl hR hd K hK => ?_⟩
          obtain ⟨v0, vs, rfl, hl1⟩ := len_succ hl
          obtain ⟨v1, vs, rfl, hl2⟩ := len_succ hl1
          obtain ⟨v2, vs, rfl, hl3⟩ := len_succ hl2
          obtain ⟨v3, vs, rfl, hl4⟩ := len_succ hl3
          obtain ⟨v4, vs, rfl, hl5⟩ := len_succ hl4
          obtain ⟨v5, vs, rfl, hl6⟩ := len_succ hl5
          obtain ⟨v6, vs, rfl, hl7⟩ := len_succ hl6
          obtain ⟨v7, vs, rfl, hl8⟩ := len_succ hl7
          obtain ⟨v8, vs, rfl, hl9⟩ := len_succ hl8
          obtain ⟨v9, vs, rfl, hl10⟩ := len_succ hl9
          obtain ⟨v10, vs, rfl, hl11⟩ := len_succ hl10
          obtain ⟨v11, vs, rfl, hl12⟩ := len_succ hl11
          obtain ⟨v12, vs, rfl, hl13⟩ := len_succ hl12
          obtain ⟨v13, vs, rfl, hl14⟩ := len_succ hl13
          obtain ⟨v14, vs, rfl, hl15⟩ := len_succ hl14
          obtain ⟨v15, vs, rfl, hl16⟩ := len_succ hl15
          obtain ⟨v16, vs, rfl, hl17⟩ := len_succ hl16
          obtain rfl := len_zero hl17
          have dd := hd 4 (by simp) _ rfl; simp only [List.getD_cons_zero, List.getD_cons_succ] at dd; obtain rfl := dd
          clear hd hl hl1 hl2 hl3 hl4 hl5 hl6 hl7 hl8 hl9 hl10 hl11 hl12 hl13 hl14 hl15 hl16 hl17
          replace hK := hK.out
          simp only [puts, List.set_cons_zero, List.set_cons_succ, Act.put, List.setIfInBounds_toArray] at hK ⊢
          have hK' : Shut _ := hK
          clear hK
          go_simp
          (try go_wp2_with fail)
          exact hK'.out _ _ (Below.refl _ _) (hR) (fun D hD => by cases hD; trivial)
        · refine ⟨[4], by decide, fun vs w hl hR hd K hK => ?_⟩
          obtain ⟨v0, vs, rfl, hl1⟩ := len_succ hl
          obtain ⟨v1, vs, rfl, hl2⟩ := len_succ hl1
          obtain ⟨v2, vs, rfl, hl3⟩ := len_succ hl2
          obtain ⟨v3, vs, rfl, hl4⟩ := len_succ hl3
          obtain ⟨v4, vs, rfl, hl5⟩ := len_succ hl4
          obtain ⟨v5, vs, rfl, hl6⟩ := len_succ hl5
          obtain ⟨v6, vs, rfl, hl7⟩ := len_succ hl6
          obtain ⟨v7, vs, rfl, hl8⟩ := len_succ hl7
          obtain ⟨v8, vs, rfl, hl9⟩ := len_succ hl8
          obtain ⟨v9, vs, rfl, hl10⟩ := len_succ hl9
          obtain ⟨v10, vs, rfl, hl11⟩ := len_succ hl10
          obtain ⟨v11, vs, rfl, hl12⟩ := len_succ hl11
          obtain ⟨v12, vs, rfl, hl13⟩ := len_succ hl12
          obtain ⟨v13, vs, rfl, hl14⟩ := len_succ hl13
          obtain ⟨v14, vs, rfl, hl15⟩ := len_succ hl14
          obtain ⟨v15, vs, rfl, hl16⟩ := len_succ hl15
          obtain ⟨v16, vs, rfl, hl17⟩ := len_succ hl16
          obtain rfl := len_zero hl17
          have dd := hd 4 (by simp) _ rfl; simp only [List.getD_cons_zero, List.getD_cons_succ] at dd; obtain rfl := dd
          clear hd hl hl1 hl2 hl3 hl4 hl5 hl6 hl7 hl8 hl9 hl10 hl11 hl12 hl13 hl14 hl15 hl16 hl17
          replace hK := hK.out
          simp only [puts, List.set_cons_zero, List.set_cons_succ, Act.put, List.setIfInBounds_toArray] at hK ⊢
          have hK' : Shut _ := hK
          clear hK
          go_simp
          (try go_wp2_with fail)
          exact hK'.out _ _ (Below.refl _ _) (hR) (fun D hD => by cases hD; trivial)
        · refine ⟨[4], by decide, fun vs w hl hR hd K hK => ?_⟩
          obtain ⟨v0, vs, rfl, hl1⟩ := len_succ hl
          obtain ⟨v1, vs, rfl, hl2⟩ := len_succ hl1
          obtain ⟨v2, vs, rfl, hl3⟩ := len_succ hl2
          obtain ⟨v3, vs, rfl, hl4⟩ := len_succ hl3
          obtain ⟨v4, vs, rfl, hl5⟩ := len_succ hl4
          obtain ⟨v5, vs, rfl, hl6⟩ := len_succ hl5
          obtain ⟨v6, vs, rfl, hl7⟩ := len_succ hl6
          obtain ⟨v7, vs, rfl, hl8⟩ := len_succ hl7
          obtain ⟨v8, vs, rfl, hl9⟩ := len_succ hl8
          obtain ⟨v9, vs, rfl, hl10⟩ := len_succ hl9
          obtain ⟨v10, vs, rfl, hl11⟩ := len_succ hl10
          obtain ⟨v11, vs, rfl, hl12⟩ := len_succ hl11
          obtain ⟨v12, vs, rfl, hl13⟩ := len_succ hl12
          obtain ⟨v13, vs, rfl, hl14⟩ := len_succ hl13
          obtain ⟨v14, vs, rfl, hl15⟩ := len_succ hl14
          obtain ⟨v15, vs, rfl, hl16⟩ := len_succ hl15
          obtain ⟨v16, vs, rfl, hl17⟩ := len_succ hl16
          obtain rfl := len_zero hl17
          have dd := hd 4 (by simp) _ rfl; simp only [List.getD_cons_zero, List.getD_cons_succ] at dd; obtain rfl := dd
          clear hd hl hl1 hl2 hl3 hl4 hl5 hl6 hl7 hl8 hl9 hl10 hl11 hl12 hl13 hl14 hl15 hl16 hl17
          replace hK := hK.out
          simp only [puts, List.set_cons_zero, List.set_cons_succ, Act.put, List.setIfInBounds_toArray] at hK ⊢
          have hK' : Shut _ := hK
          clear hK
          go_simp
          (try go_wp2_with fail)
          exact hK'.out _ _ (Below.refl _ _) (hR) (fun D hD => by cases hD; trivial)
        · refine ⟨[4], by decide, fun vs w hl hR hd K hK => ?_⟩
          obtain ⟨v0, vs, rfl, hl1⟩ := len_succ hl
          obtain ⟨v1, vs, rfl, hl2⟩ := len_succ hl1
          obtain ⟨v2, vs, rfl, hl3⟩ := len_succ hl2
          obtain ⟨v3, vs, rfl, hl4⟩ := len_succ hl3
          obtain ⟨v4, vs, rfl, hl5⟩ := len_succ hl4
          obtain ⟨v5, vs, rfl, hl6⟩ := len_succ hl5
          obtain ⟨v6, vs, rfl, hl7⟩ := len_succ hl6
          obtain ⟨v7, vs, rfl, hl8⟩ := len_succ hl7
          obtain ⟨v8, vs, rfl, hl9⟩ := len_succ hl8
          obtain ⟨v9, vs, rfl, hl10⟩ := len_succ hl9
          obtain ⟨v10, vs, rfl, hl11⟩ := len_succ hl10
          obtain ⟨v11, vs, rfl, hl12⟩ := len_succ hl11
          obtain ⟨v12, vs, rfl, hl13⟩ := len_succ hl12
          obtain ⟨v13, vs, rfl, hl14⟩ := len_succ hl13
          obtain ⟨v14, vs, rfl, hl15⟩ := len_succ hl14
          obtain ⟨v15, vs, rfl, hl16⟩ := len_succ hl15
          obtain ⟨v16, vs, rfl, hl17⟩ := len_succ hl16
          obtain rfl := len_zero hl17
          have dd := hd 4 (by simp) _ rfl; simp only [List.getD_cons_zero, List.getD_cons_succ] at dd; obtain rfl := dd
          clear hd hl hl1 hl2 hl3 hl4 hl5 hl6 hl7 hl8 hl9 hl10 hl11 hl12 hl13 hl14 hl15 hl16 hl17
          replace hK := hK.out
          simp only [puts, List.set_cons_zero, List.set_cons_succ, Act.put, List.setIfInBounds_toArray] at hK ⊢
          have hK' : Shut _ := hK
          clear hK
          go_simp
          (try go_wp2_with fail)
          exact hK'.out _ _ (Below.refl _ _) (hR) (fun D hD => by cases hD; trivial)
        · refine ⟨[4], by decide, fun vs w hl hR hd K hK => ?_⟩
          obtain ⟨v0, vs, rfl, hl1⟩ := len_succ hl
          obtain ⟨v1, vs, rfl, hl2⟩ := len_succ hl1
          obtain ⟨v2, vs, rfl, hl3⟩ := len_succ hl2
          obtain ⟨v3, vs, rfl, hl4⟩ := len_succ hl3
          obtain ⟨v4, vs, rfl, hl5⟩ := len_succ hl4
          obtain ⟨v5, vs, rfl, hl6⟩ := len_succ hl5
          obtain ⟨v6, vs, rfl, hl7⟩ := len_succ hl6
          obtain ⟨v7, vs, rfl, hl8⟩ := len_succ hl7
          obtain ⟨v8, vs, rfl, hl9⟩ := len_succ hl8
          obtain ⟨v9, vs, rfl, hl10⟩ := len_succ hl9
          obtain ⟨v10, vs, rfl, hl11⟩ := len_succ hl10
          obtain ⟨v11, vs, rfl, hl12⟩ := len_succ hl11
          obtain ⟨v12, vs, rfl, hl13⟩ := len_succ hl12
          obtain ⟨v13, vs, rfl, hl14⟩ := len_succ hl13
          obtain ⟨v14, vs, rfl, hl15⟩ := len_succ hl14
          obtain ⟨v15, vs, rfl, hl16⟩ := len_succ hl15
          obtain ⟨v16, vs, rfl, hl17⟩ := len_succ hl16
          obtain rfl := len_zero hl17
          have dd := hd 4 (by simp) _ rfl; simp only [List.getD_cons_zero, List.getD_cons_succ] at dd; obtain rfl := dd
          clear hd hl hl1 hl2 hl3 hl4 hl5 hl6 hl7 hl8 hl9 hl10 hl11 hl12 hl13 hl14 hl15 hl16 hl17
          replace hK := hK.out
          simp only [puts, List.set_cons_zero, List.set_cons_succ, Act.put, List.setIfInBounds_toArray] at hK ⊢
          have hK' : Shut _ := hK
          clear hK
          go_simp
          (try go_wp2_with fail)
          exact hK'.out _ _ (Below.refl _ _) (hR) (fun D hD => by cases hD; trivial)
        · refine ⟨[4], by decide, fun vs w hl hR hd K hK => ?_⟩
          obtain ⟨v0, vs, rfl, hl1⟩ := len_succ hl
          obtain ⟨v1, vs, rfl, hl2⟩ := len_succ hl1
          obtain ⟨v2, vs, rfl, hl3⟩ := len_succ hl2
          obtain ⟨v3, vs, rfl, hl4⟩ := len_succ hl3
          obtain ⟨v4, vs, rfl, hl5⟩ := len_succ hl4
          obtain ⟨v5, vs, rfl, hl6⟩ := len_succ hl5
          obtain ⟨v6, vs, rfl, hl7⟩ := len_succ hl6
          obtain ⟨v7, vs, rfl, hl8⟩ := len_succ hl7
          obtain ⟨v8, vs, rfl, hl9⟩ := len_succ hl8
          obtain ⟨v9, vs, rfl, hl10⟩ := len_succ hl9
          obtain ⟨v10, vs, rfl, hl11⟩ := len_succ hl10
          obtain ⟨v11, vs, rfl, hl12⟩ := len_succ hl11
          obtain ⟨v12, vs, rfl, hl13⟩ := len_succ hl12
          obtain ⟨v13, vs, rfl, hl14⟩ := len_succ hl13
          obtain ⟨v14, vs, rfl, hl15⟩ := len_succ hl14
          obtain ⟨v15, vs, rfl, hl16⟩ := len_succ hl15
          obtain ⟨v16, vs, rfl, hl17⟩ := len_succ hl16
          obtain rfl := len_zero hl17
          have dd := hd 4 (by simp) _ rfl; simp only [List.getD_cons_zero, List.getD_cons_succ] at dd; obtain rfl := dd
          clear hd hl hl1 hl2 hl3 hl4 hl5 hl6 hl7 hl8 hl9 hl10 hl11 hl12 hl13 hl14 hl15 hl16 hl17
          replace hK := hK.out
          simp only [puts, List.set_cons_zero, List.set_cons_succ, Act.put, List.setIfInBounds_toArray] at hK ⊢
          have hK' : Shut _ := hK
          clear hK
          go_simp
          (try go_wp2_with fail)
          exact hK'.out _ _ (Below.refl _ _) (hR) (fun D hD => by cases hD; trivial)
        · refine ⟨[4], by decide, fun vs w hl hR hd K hK => ?_⟩
          obtain ⟨v0, vs, rfl, hl1⟩ := len_succ hl
          obtain ⟨v1, vs, rfl, hl2⟩ := len_succ hl1
          obtain ⟨v2, vs, rfl, hl3⟩ := len_succ hl2
          obtain ⟨v3, vs, rfl, hl4⟩ := len_succ hl3
          obtain ⟨v4, vs, rfl, hl5⟩ := len_succ hl4
          obtain ⟨v5, vs, rfl, hl6⟩ := len_succ hl5
          obtain ⟨v6, vs, rfl, hl7⟩ := len_succ hl6
          obtain ⟨v7, vs, rfl, hl8⟩ := len_succ hl7
          obtain ⟨v8, vs, rfl, hl9⟩ := len_succ hl8
          obtain ⟨v9, vs, rfl, hl10⟩ := len_succ hl9
          obtain ⟨v10, vs, rfl, hl11⟩ := len_succ hl10
          obtain ⟨v11, vs, rfl, hl12⟩ := len_succ hl11
          obtain ⟨v12, vs, rfl, hl13⟩ := len_succ hl12
          obtain ⟨v13, vs, rfl, hl14⟩ := len_succ hl13
          obtain ⟨v14, vs, rfl, hl15⟩ := len_succ hl14
          obtain ⟨v15, vs, rfl, hl16⟩ := len_succ hl15
          obtain ⟨v16, vs, rfl, hl17⟩ := len_succ hl16
          obtain rfl := len_zero hl17
          have dd := hd 4 (by simp) _ rfl; simp only [List.getD_cons_zero, List.getD_cons_succ] at dd; obtain rfl := dd
          clear hd hl hl1 hl2 hl3 hl4 hl5 hl6 hl7 hl8 hl9 hl10 hl11 hl12 hl13 hl14 hl15 hl16 hl17
          replace hK := hK.out
          simp only [puts, List.set_cons_zero, List.set_cons_succ, Act.put, List.setIfInBounds_toArray] at hK ⊢
          have hK' : Shut _ := hK
          clear hK
          go_simp
          (try go_wp2_with fail)
          exact hK'.out _ _ (Below.refl _ _) (hR) (fun D hD => by cases hD; trivial)
        · refine ⟨[4], by decide, fun vs w hl hR hd K hK => ?_⟩
          obtain ⟨v0, vs, rfl, hl1⟩ := len_succ hl
          obtain ⟨v1, vs, rfl, hl2⟩ := len_succ hl1
          obtain ⟨v2, vs, rfl, hl3⟩ := len_succ hl2
          obtain ⟨v3, vs, rfl, hl4⟩ := len_succ hl3
          obtain ⟨v4, vs, rfl, hl5⟩ := len_succ hl4
          obtain ⟨v5, vs, rfl, hl6⟩ := len_succ hl5
          obtain ⟨v6, vs, rfl, hl7⟩ := len_succ hl6
          obtain ⟨v7, vs, rfl, hl8⟩ := len_succ hl7
          obtain ⟨v8, vs, rfl, hl9⟩ := len_succ hl8
          obtain ⟨v9, vs, rfl, hl10⟩ := len_succ hl9
          obtain ⟨v10, vs, rfl, hl11⟩ := len_succ hl10
          obtain ⟨v11, vs, rfl, hl12⟩ := len_succ hl11
          obtain ⟨v12, vs, rfl, hl13⟩ := len_succ hl12
          obtain ⟨v13, vs, rfl, hl14⟩ := len_succ hl13
          obtain ⟨v14, vs, rfl, hl15⟩ := len_succ hl14
          obtain ⟨v15, vs, rfl, hl16⟩ := len_succ hl15
          obtain ⟨v16, vs, rfl, hl17⟩ := len_succ hl16
          obtain rfl := len_zero hl17
          have dd := hd 4 (by simp) _ rfl; simp only [List.getD_cons_zero, List.getD_cons_succ] at dd; obtain rfl := dd
          clear hd hl hl1 hl2 hl3 hl4 hl5 hl6 hl7 hl8 hl9 hl10 hl11 hl12 hl13 hl14 hl15 hl16 hl17
          replace hK := hK.out
          simp only [puts, List.set_cons_zero, List.set_cons_succ, Act.put, List.setIfInBounds_toArray] at hK ⊢
          have hK' : Shut _ := hK
          clear hK
          go_simp
          (try go_wp2_with fail)
          exact hK'.out _ _ (Below.refl _ _) (hR) (fun D hD => by cases hD; trivial)
        · refine ⟨[4], by decide, fun vs w hl hR hd K hK => ?_⟩
          obtain ⟨v0, vs, rfl, hl1⟩ := len_succ hl
          obtain ⟨v1, vs, rfl, hl2⟩ := len_succ hl1
          obtain ⟨v2, vs, rfl, hl3⟩ := len_succ hl2
          obtain ⟨v3, vs, rfl, hl4⟩ := len_succ hl3
          obtain ⟨v4, vs, rfl, hl5⟩ := len_succ hl4
          obtain ⟨v5, vs, rfl, hl6⟩ := len_succ hl5
          obtain ⟨v6, vs, rfl, hl7⟩ := len_succ hl6
          obtain ⟨v7, vs, rfl, hl8⟩ := len_succ hl7
          obtain ⟨v8, vs, rfl, hl9⟩ := len_succ hl8
          obtain ⟨v9, vs, rfl, hl10⟩ := len_succ hl9
          obtain ⟨v10, vs, rfl, hl11⟩ := len_succ hl10
          obtain ⟨v11, vs, rfl, hl12⟩ := len_succ hl11
          obtain ⟨v12, vs, rfl, hl13⟩ := len_succ hl12
          obtain ⟨v13, vs, rfl, hl14⟩ := len_succ hl13
          obtain ⟨v14, vs, rfl, hl15⟩ := len_succ hl14
          obtain ⟨v15, vs, rfl, hl16⟩ := len_succ hl15
          obtain ⟨v16, vs, rfl, hl17⟩ := len_succ hl16
          obtain rfl := len_zero hl17
          have dd := hd 4 (by simp) _ rfl; simp only [List.getD_cons_zero, List.getD_cons_succ] at dd; obtain rfl := dd
          clear hd hl hl1 hl2 hl3 hl4 hl5 hl6 hl7 hl8 hl9 hl10 hl11 hl12 hl13 hl14 hl15 hl16 hl17
          replace hK := hK.out
          simp only [puts, List.set_cons_zero, List.set_cons_succ, Act.put, List.setIfInBounds_toArray] at hK ⊢
          have hK' : Shut _ := hK
          clear hK
          go_simp
          (try go_wp2_with fail)
          exact hK'.out _ _ (Below.refl _ _) (hR) (fun D hD => by cases hD; rfl)
        · intro vs wz hl hR hd
          obtain ⟨v0, vs, rfl, hl1⟩ := len_succ hl
          obtain ⟨v1, vs, rfl, hl2⟩ := len_succ hl1
          obtain ⟨v2, vs, rfl, hl3⟩ := len_succ hl2
          obtain ⟨v3, vs, rfl, hl4⟩ := len_succ hl3
          obtain ⟨v4, vs, rfl, hl5⟩ := len_succ hl4
          obtain ⟨v5, vs, rfl, hl6⟩ := len_succ hl5
          obtain ⟨v6, vs, rfl, hl7⟩ := len_succ hl6
          obtain ⟨v7, vs, rfl, hl8⟩ := len_succ hl7
          obtain ⟨v8, vs, rfl, hl9⟩ := len_succ hl8
          obtain ⟨v9, vs, rfl, hl10⟩ := len_succ hl9
          obtain ⟨v10, vs, rfl, hl11⟩ := len_succ hl10
          obtain ⟨v11, vs, rfl, hl12⟩ := len_succ hl11
          obtain ⟨v12, vs, rfl, hl13⟩ := len_succ hl12
          obtain ⟨v13, vs, rfl, hl14⟩ := len_succ hl13
          obtain ⟨v14, vs, rfl, hl15⟩ := len_succ hl14
          obtain ⟨v15, vs, rfl, hl16⟩ := len_succ hl15
          obtain ⟨v16, vs, rfl, hl17⟩ := len_succ hl16
          obtain rfl := len_zero hl17
          have dd := hd 16 _ rfl; simp only [List.getD_cons_zero, List.getD_cons_succ] at dd; obtain rfl := dd
          clear hd hl hl1 hl2 hl3 hl4 hl5 hl6 hl7 hl8 hl9 hl10 hl11 hl12 hl13 hl14 hl15 hl16 hl17
          simp only [puts, List.set_cons_zero, List.set_cons_succ, Act.put, List.setIfInBounds_toArray]
          go_wp2_with fail
          go_roundw
          case rel => exact ⟨j + 1, by omega, by go_num, stepc HB5.out hR⟩
          case measure => simp [intOf]; omega
      · have HE := Lib.hid hE
        have HGM : Hid (permB r (orL mem mem2) dy un = true) := grows_more HASC.out (of_decide_eq_true hE) HP.out
        clear hE
        go_wp2_with fail
        refine region_slots [79, 80, 81, 82, 83, 84, 85, 86, 87, 88, 89, 90, 91, 92, 93, 94, 95]
          [fun v _ => v = .pointer (some ⟨wr.heap.size, 3, none⟩),
           fun v _ => v = .pointer (some ⟨wr.heap.size, 4, none⟩),
           fun v _ => v = .agg #[.slice p2 n2 z2],
           fun v _ => v = .bool true,
           fun v _ => v = .bool true,
           fun v _ => v = .agg #[.bool false, .int .i64 ad, .int .i64 tg, .slice p1 n1 z1, .slice p2 n2 z2, .slice p3 n3 z3, .int .i64 lg],
           fun v _ => v = .agg #[.slice sa sn sc],
           fun v _ => v = .int .u64 (mk : Nat),
           fun v w => StV w v mem2,
           fun v w => StV w v (orL mem mem2),
           fun v _ => v = .pointer (some ⟨w.heap.size, 4, none⟩),
           fun v _ => v = .int .i64 dy,
           fun v _ => v = .pointer (some ⟨w.heap.size, 5, none⟩),
           fun v _ => v = .int .i64 un,
           fun v _ => v = .bool true,
           fun v _ => v = .bool false,
           fun v _ => v = .bool false]
          (fun w' => Below W5.heap.size W5 w') (fun w w' => Below w.heap.size w w') (by kernel_rfl) (by kernel_rfl) rfl [u79, u80, u81, u82, u83, u84, u85, u86, u87, u88, u89, u90, u91, u92, u93, u94, u95] (by simp only [puts, List.set_cons_zero, List.set_cons_succ, Act.put, List.setIfInBounds_toArray]) rfl ((stepc hk (Below.refl _ _).drew)) ?_ ⟨?_, ?_, ?_, ?_, ?_, ?_, ?_, ?_, ?_, ?_, ?_, ?_, ?_, ?_, ?_, ?_, ?_, trivial⟩ ?_
        · intro j D hj v w w' hb hD
          match j, hj with
          | 0, hj => cases hj; exact hD
          | 1, hj => cases hj; exact hD
          | 2, hj => cases hj; exact hD
          | 3, hj => cases hj; exact hD
          | 4, hj => cases hj; exact hD
          | 5, hj => cases hj; exact hD
          | 6, hj => cases hj; exact hD
          | 7, hj => cases hj; exact hD
          | 8, hj => cases hj; exact hD.below hb
          | 9, hj => cases hj; exact hD.below hb
          | 10, hj => cases hj; exact hD
          | 11, hj => cases hj; exact hD
          | 12, hj => cases hj; exact hD
          | 13, hj => cases hj; exact hD
          | 14, hj => cases hj; exact hD
          | 15, hj => cases hj; exact hD
          | 16, hj => cases hj; exact hD
          | j + 17, hj => cases hj
        · refine ⟨[], by decide, fun vs w hl hR hd K hK => ?_⟩
          obtain ⟨v0, vs, rfl, hl1⟩ := len_succ hl
          obtain ⟨v1, vs, rfl, hl2⟩ := len_succ hl1
          obtain ⟨v2, vs, rfl, hl3⟩ := len_succ hl2
          obtain ⟨v3, vs, rfl, hl4⟩ := len_succ hl3
          obtain ⟨v4, vs, rfl, hl5⟩ := len_succ hl4
          obtain ⟨v5, vs, rfl, hl6⟩ := len_succ hl5
          obtain ⟨v6, vs, rfl, hl7⟩ := len_succ hl6
          obtain ⟨v7, vs, rfl, hl8⟩ := len_succ hl7
          obtain ⟨v8, vs, rfl, hl9⟩ := len_succ hl8
          obtain ⟨v9, vs, rfl, hl10⟩ := len_succ hl9
          obtain ⟨v10, vs, rfl, hl11⟩ := len_succ hl10
          obtain ⟨v11, vs, rfl, hl12⟩ := len_succ hl11
          obtain ⟨v12, vs, rfl, hl13⟩ := len_succ hl12
          obtain ⟨v13, vs, rfl, hl14⟩ := len_succ hl13
          obtain ⟨v14, vs, rfl, hl15⟩ := len_succ hl14
          obtain ⟨v15, vs, rfl, hl16⟩ := len_succ hl15
          obtain ⟨v16, vs, rfl, hl17⟩ := len_succ hl16
          obtain rfl := len_zero hl17
          clear hd hl hl1 hl2 hl3 hl4 hl5 hl6 hl7 hl8 hl9 hl10 hl11 hl12 hl13 hl14 hl15 hl16 hl17
          replace hK := hK.out
          simp only [puts, List.set_cons_zero, List.set_cons_succ, Act.put, List.setIfInBounds_toArray] at hK ⊢
          have hK' : Shut _ := hK
          clear hK
          go_simp
          (try go_wp2_with fail)
          exact hK'.out _ _ (Below.refl _ _) (hR) (fun D hD => by cases hD; rfl)
        · refine ⟨[0], by decide, fun vs w hl hR hd K hK => ?_⟩
          obtain ⟨v0, vs, rfl, hl1⟩ := len_succ hl
          obtain ⟨v1, vs, rfl, hl2⟩ := len_succ hl1
          obtain ⟨v2, vs, rfl, hl3⟩ := len_succ hl2
          obtain ⟨v3, vs, rfl, hl4⟩ := len_succ hl3
          obtain ⟨v4, vs, rfl, hl5⟩ := len_succ hl4
          obtain ⟨v5, vs, rfl, hl6⟩ := len_succ hl5
          obtain ⟨v6, vs, rfl, hl7⟩ := len_succ hl6
          obtain ⟨v7, vs, rfl, hl8⟩ := len_succ hl7
          obtain ⟨v8, vs, rfl, hl9⟩ := len_succ hl8
          obtain ⟨v9, vs, rfl, hl10⟩ := len_succ hl9
          obtain ⟨v10, vs, rfl, hl11⟩ := len_succ hl10
          obtain ⟨v11, vs, rfl, hl12⟩ := len_succ hl11
          obtain ⟨v12, vs, rfl, hl13⟩ := len_succ hl12
          obtain ⟨v13, vs, rfl, hl14⟩ := len_succ hl13
          obtain ⟨v14, vs, rfl, hl15⟩ := len_succ hl14
          obtain ⟨v15, vs, rfl, hl16⟩ := len_succ hl15
          obtain ⟨v16, vs, rfl, hl17⟩ := len_succ hl16
          obtain rfl := len_zero hl17
          have dd := hd 0 (by simp) _ rfl; simp only [List.getD_cons_zero, List.getD_cons_succ] at dd; obtain rfl := dd
          clear hd hl hl1 hl2 hl3 hl4 hl5 hl6 hl7 hl8 hl9 hl10 hl11 hl12 hl13 hl14 hl15 hl16 hl17
          replace hK := hK.out
          simp only [puts, List.set_cons_zero, List.set_cons_succ, Act.put, List.setIfInBounds_toArray] at hK ⊢
          have hK' : Shut _ := hK
          clear hK
          go_simp
          (try go_wp2_with fail)
          exact hK'.out _ _ (Below.refl _ _) (hR) (fun D hD => by cases hD; rfl)
        · refine ⟨[1], by decide, fun vs w hl hR hd K hK => ?_⟩
          obtain ⟨v0, vs, rfl, hl1⟩ := len_succ hl
          obtain ⟨v1, vs, rfl, hl2⟩ := len_succ hl1
          obtain ⟨v2, vs, rfl, hl3⟩ := len_succ hl2
          obtain ⟨v3, vs, rfl, hl4⟩ := len_succ hl3
          obtain ⟨v4, vs, rfl, hl5⟩ := len_succ hl4
          obtain ⟨v5, vs, rfl, hl6⟩ := len_succ hl5
          obtain ⟨v6, vs, rfl, hl7⟩ := len_succ hl6
          obtain ⟨v7, vs, rfl, hl8⟩ := len_succ hl7
          obtain ⟨v8, vs, rfl, hl9⟩ := len_succ hl8
          obtain ⟨v9, vs, rfl, hl10⟩ := len_succ hl9
          obtain ⟨v10, vs, rfl, hl11⟩ := len_succ hl10
          obtain ⟨v11, vs, rfl, hl12⟩ := len_succ hl11
          obtain ⟨v12, vs, rfl, hl13⟩ := len_succ hl12
          obtain ⟨v13, vs, rfl, hl14⟩ := len_succ hl13
          obtain ⟨v14, vs, rfl, hl15⟩ := len_succ hl14
          obtain ⟨v15, vs, rfl, hl16⟩ := len_succ hl15
          obtain ⟨v16, vs, rfl, hl17⟩ := len_succ hl16
          obtain rfl := len_zero hl17
          have dd := hd 1 (by simp) _ rfl; simp only [List.getD_cons_zero, List.getD_cons_succ] at dd; obtain rfl := dd
          clear hd hl hl1 hl2 hl3 hl4 hl5 hl6 hl7 hl8 hl9 hl10 hl11 hl12 hl13 hl14 hl15 hl16 hl17
          replace hK := hK.out
          simp only [puts, List.set_cons_zero, List.set_cons_succ, Act.put, List.setIfInBounds_toArray] at hK ⊢
          have hK' : Shut _ := hK
          clear hK
          obtain ⟨b0, b1, b2, b3, b4, b5, b6⟩ := HC.out _ hR
          go_simp
          (try go_wp2_with fail)
          exact hK'.out _ _ (Below.refl _ _) (hR) (fun D hD => by cases hD; rfl)
        · refine ⟨[2], by decide, fun vs w hl hR hd K hK => ?_⟩
          obtain ⟨v0, vs, rfl, hl1⟩ := len_succ hl
          obtain ⟨v1, vs, rfl, hl2⟩ := len_succ hl1
          obtain ⟨v2, vs, rfl, hl3⟩ := len_succ hl2
          obtain ⟨v3, vs, rfl, hl4⟩ := len_succ hl3
          obtain ⟨v4, vs, rfl, hl5⟩ := len_succ hl4
          obtain ⟨v5, vs, rfl, hl6⟩ := len_succ hl5
          obtain ⟨v6, vs, rfl, hl7⟩ := len_succ hl6
          obtain ⟨v7, vs, rfl, hl8⟩ := len_succ hl7
          obtain ⟨v8, vs, rfl, hl9⟩ := len_succ hl8
          obtain ⟨v9, vs, rfl, hl10⟩ := len_succ hl9
          obtain ⟨v10, vs, rfl, hl11⟩ := len_succ hl10
          obtain ⟨v11, vs, rfl, hl12⟩ := len_succ hl11
          obtain ⟨v12, vs, rfl, hl13⟩ := len_succ hl12
          obtain ⟨v13, vs, rfl, hl14⟩ := len_succ hl13
          obtain ⟨v14, vs, rfl, hl15⟩ := len_succ hl14
          obtain ⟨v15, vs, rfl, hl16⟩ := len_succ hl15
          obtain ⟨v16, vs, rfl, hl17⟩ := len_succ hl16
          obtain rfl := len_zero hl17
          have dd := hd 2 (by simp) _ rfl; simp only [List.getD_cons_zero, List.getD_cons_succ] at dd; obtain rfl := dd
          clear hd hl hl1 hl2 hl3 hl4 hl5 hl6 hl7 hl8 hl9 hl10 hl11 hl12 hl13 hl14 hl15 hl16 hl17
          replace hK := hK.out
          simp only [puts, List.set_cons_zero, List.set_cons_succ, Act.put, List.setIfInBounds_toArray] at hK ⊢
          have hK' : Shut _ := hK
          clear hK
          go_simp
          go_at_call 23; (with_reducible refine (HEM.out _ hR).mono ?_); rw [HE.out]; rintro e w2 ⟨rfl, hb⟩
          (try go_wp2_with fail)
          exact hK'.out _ _ (hb) (stepc hR (hb)) (fun D hD => by cases hD; rfl)
        · refine ⟨[3], by decide, fun vs w hl hR hd K hK => ?_⟩
          obtain ⟨v0, vs, rfl, hl1⟩ := len_succ hl
          obtain ⟨v1, vs, rfl, hl2⟩ := len_succ hl1
          obtain ⟨v2, vs, rfl, hl3⟩ := len_succ hl2
          obtain ⟨v3, vs, rfl, hl4⟩ := len_succ hl3
          obtain ⟨v4, vs, rfl, hl5⟩ := len_succ hl4
          obtain ⟨v5, vs, rfl, hl6⟩ := len_succ hl5
          obtain ⟨v6, vs, rfl, hl7⟩ := len_succ hl6
          obtain ⟨v7, vs, rfl, hl8⟩ := len_succ hl7
          obtain ⟨v8, vs, rfl, hl9⟩ := len_succ hl8
          obtain ⟨v9, vs, rfl, hl10⟩ := len_succ hl9
          obtain ⟨v10, vs, rfl, hl11⟩ := len_succ hl10
          obtain ⟨v11, vs, rfl, hl12⟩ := len_succ hl11
          obtain ⟨v12, vs, rfl, hl13⟩ := len_succ hl12
          obtain ⟨v13, vs, rfl, hl14⟩ := len_succ hl13
          obtain ⟨v14, vs, rfl, hl15⟩ := len_succ hl14
          obtain ⟨v15, vs, rfl, hl16⟩ := len_succ hl15
          obtain ⟨v16, vs, rfl, hl17⟩ := len_succ hl16
          obtain rfl := len_zero hl17
          have dd := hd 3 (by simp) _ rfl; simp only [List.getD_cons_zero, List.getD_cons_succ] at dd; obtain rfl := dd
          clear hd hl hl1 hl2 hl3 hl4 hl5 hl6 hl7 hl8 hl9 hl10 hl11 hl12 hl13 hl14 hl15 hl16 hl17
          replace hK := hK.out
          simp only [puts, List.set_cons_zero, List.set_cons_succ, Act.put, List.setIfInBounds_toArray] at hK ⊢
          have hK' : Shut _ := hK
          clear hK
          go_simp
          (try go_wp2_with fail)
          exact hK'.out _ _ (Below.refl _ _) (hR) (fun D hD => by cases hD; rfl)
        · refine ⟨[4], by decide, fun vs w hl hR hd K hK => ?_⟩
          obtain ⟨v0, vs, rfl, hl1⟩ := len_succ hl
          obtain ⟨v1, vs, rfl, hl2⟩ := len_succ hl1
          obtain ⟨v2, vs, rfl, hl3⟩ := len_succ hl2
          obtain ⟨v3, vs, rfl, hl4⟩ := len_succ hl3
          obtain ⟨v4, vs, rfl, hl5⟩ := len_succ hl4
          obtain ⟨v5, vs, rfl, hl6⟩ := len_succ hl5
          obtain ⟨v6, vs, rfl, hl7⟩ := len_succ hl6
          obtain ⟨v7, vs, rfl, hl8⟩ := len_succ hl7
          obtain ⟨v8, vs, rfl, hl9⟩ := len_succ hl8
          obtain ⟨v9, vs, rfl, hl10⟩ := len_succ hl9
          obtain ⟨v10, vs, rfl, hl11⟩ := len_succ hl10
          obtain ⟨v11, vs, rfl, hl12⟩ := len_succ hl11
          obtain ⟨v12, vs, rfl, hl13⟩ := len_succ hl12
          obtain ⟨v13, vs, rfl, hl14⟩ := len_succ hl13
          obtain ⟨v14, vs, rfl, hl15⟩ := len_succ hl14
          obtain ⟨v15, vs, rfl, hl16⟩ := len_succ hl15
          obtain ⟨v16, vs, rfl, hl17⟩ := len_succ hl16
          obtain rfl := len_zero hl17
          have dd := hd 4 (by simp) _ rfl; simp only [List.getD_cons_zero, List.getD_cons_succ] at dd; obtain rfl := dd
          clear hd hl hl1 hl2 hl3 hl4 hl5 hl6 hl7 hl8 hl9 hl10 hl11 hl12 hl13 hl14 hl15 hl16 hl17
          replace hK := hK.out
          simp only [puts, List.set_cons_zero, List.set_cons_succ, Act.put, List.setIfInBounds_toArray] at hK ⊢
          have hK' : Shut _ := hK
          clear hK
          obtain ⟨b0, b1, b2, b3, b4, b5, b6⟩ := HC.out _ hR
          go_simp
          (try go_wp2_with fail)
          exact hK'.out _ _ (Below.refl _ _) (hR) (fun D hD => by cases hD; rfl)
        · refine ⟨[4], by decide, fun vs w hl hR hd K hK => ?_⟩
          obtain ⟨v0, vs, rfl, hl1⟩ := len_succ hl
          obtain ⟨v1, vs, rfl, hl2⟩ := len_succ hl1
          obtain ⟨v2, vs, rfl, hl3⟩ := len_succ hl2
          obtain ⟨v3, vs, rfl, hl4⟩ := len_succ hl3
          obtain ⟨v4, vs, rfl, hl5⟩ := len_succ hl4
          obtain ⟨v5, vs, rfl, hl6⟩ := len_succ hl5
          obtain ⟨v6, vs, rfl, hl7⟩ := len_succ hl6
          obtain ⟨v7, vs, rfl, hl8⟩ := len_succ hl7
          obtain ⟨v8, vs, rfl, hl9⟩ := len_succ hl8
          obtain ⟨v9, vs, rfl, hl10⟩ := len_succ hl9
          obtain ⟨v10, vs, rfl, hl11⟩ := len_succ hl10
          obtain ⟨v11, vs, rfl, hl12⟩ := len_succ hl11
          obtain ⟨v12, vs, rfl, hl13⟩ := len_succ hl12
          obtain ⟨v13, vs, rfl, hl14⟩ := len_succ hl13
          obtain ⟨v14, vs, rfl, hl15⟩ := len_succ hl14
          obtain ⟨v15, vs, rfl, hl16⟩ := len_succ hl15
          obtain ⟨v16, vs, rfl, hl17⟩ := len_succ hl16
          obtain rfl := len_zero hl17
          have dd := hd 4 (by simp) _ rfl; simp only [List.getD_cons_zero, List.getD_cons_succ] at dd; obtain rfl := dd
          clear hd hl hl1 hl2 hl3 hl4 hl5 hl6 hl7 hl8 hl9 hl10 hl11 hl12 hl13 hl14 hl15 hl16 hl17
          replace hK := hK.out
          simp only [puts, List.set_cons_zero, List.set_cons_succ, Act.put, List.setIfInBounds_toArray] at hK ⊢
          have hK' : Shut _ := hK
          clear hK
          have s0 := HSC.out _ hR
          go_simp
          (try go_wp2_with fail)
          exact hK'.out _ _ (Below.refl _ _) (hR) (fun D hD => by cases hD; rfl)
        · refine ⟨[4], by decide, fun vs w hl hR hd K hK => ?_⟩
          obtain ⟨v0, vs, rfl, hl1⟩ := len_succ hl
          obtain ⟨v1, vs, rfl, hl2⟩ := len_succ hl1
          obtain ⟨v2, vs, rfl, hl3⟩ := len_succ hl2
          obtain ⟨v3, vs, rfl, hl4⟩ := len_succ hl3
          obtain ⟨v4, vs, rfl, hl5⟩ := len_succ hl4
          obtain ⟨v5, vs, rfl, hl6⟩ := len_succ hl5
          obtain ⟨v6, vs, rfl, hl7⟩ := len_succ hl6
          obtain ⟨v7, vs, rfl, hl8⟩ := len_succ hl7
          obtain ⟨v8, vs, rfl, hl9⟩ := len_succ hl8
          obtain ⟨v9, vs, rfl, hl10⟩ := len_succ hl9
          obtain ⟨v10, vs, rfl, hl11⟩ := len_succ hl10
          obtain ⟨v11, vs, rfl, hl12⟩ := len_succ hl11
          obtain ⟨v12, vs, rfl, hl13⟩ := len_succ hl12
          obtain ⟨v13, vs, rfl, hl14⟩ := len_succ hl13
          obtain ⟨v14, vs, rfl, hl15⟩ := len_succ hl14
          obtain ⟨v15, vs, rfl, hl16⟩ := len_succ hl15
          obtain ⟨v16, vs, rfl, hl17⟩ := len_succ hl16
          obtain rfl := len_zero hl17
          have dd := hd 4 (by simp) _ rfl; simp only [List.getD_cons_zero, List.getD_cons_succ] at dd; obtain rfl := dd
          clear hd hl hl1 hl2 hl3 hl4 hl5 hl6 hl7 hl8 hl9 hl10 hl11 hl12 hl13 hl14 hl15 hl16 hl17
          replace hK := hK.out
          simp only [puts, List.set_cons_zero, List.set_cons_succ, Act.put, List.setIfInBounds_toArray] at hK ⊢
          have hK' : Shut _ := hK
          clear hK
          go_simp
          (try go_wp2_with fail)
          exact hK'.out _ _ (Below.refl _ _) (hR) (fun D hD => by cases hD; rfl)
        · refine ⟨[7, 4], by decide, fun vs w hl hR hd K hK => ?_⟩
          obtain ⟨v0, vs, rfl, hl1⟩ := len_succ hl
          obtain ⟨v1, vs, rfl, hl2⟩ := len_succ hl1
          obtain ⟨v2, vs, rfl, hl3⟩ := len_succ hl2
          obtain ⟨v3, vs, rfl, hl4⟩ := len_succ hl3
          obtain ⟨v4, vs, rfl, hl5⟩ := len_succ hl4
          obtain ⟨v5, vs, rfl, hl6⟩ := len_succ hl5
          obtain ⟨v6, vs, rfl, hl7⟩ := len_succ hl6
          obtain ⟨v7, vs, rfl, hl8⟩ := len_succ hl7
          obtain ⟨v8, vs, rfl, hl9⟩ := len_succ hl8
          obtain ⟨v9, vs, rfl, hl10⟩ := len_succ hl9
          obtain ⟨v10, vs, rfl, hl11⟩ := len_succ hl10
          obtain ⟨v11, vs, rfl, hl12⟩ := len_succ hl11
          obtain ⟨v12, vs, rfl, hl13⟩ := len_succ hl12
          obtain ⟨v13, vs, rfl, hl14⟩ := len_succ hl13
          obtain ⟨v14, vs, rfl, hl15⟩ := len_succ hl14
          obtain ⟨v15, vs, rfl, hl16⟩ := len_succ hl15
          obtain ⟨v16, vs, rfl, hl17⟩ := len_succ hl16
          obtain rfl := len_zero hl17
          have dd := hd 7 (by simp) _ rfl; simp only [List.getD_cons_zero, List.getD_cons_succ] at dd; obtain rfl := dd
          have dd := hd 4 (by simp) _ rfl; simp only [List.getD_cons_zero, List.getD_cons_succ] at dd; obtain rfl := dd
          clear hd hl hl1 hl2 hl3 hl4 hl5 hl6 hl7 hl8 hl9 hl10 hl11 hl12 hl13 hl14 hl15 hl16 hl17
          replace hK := hK.out
          simp only [puts, List.set_cons_zero, List.set_cons_succ, Act.put, List.setIfInBounds_toArray] at hK ⊢
          have hK' : Shut _ := hK
          clear hK
          go_simp
          go_at_call 20; (with_reducible refine (HMORE.out _).mono ?_); rintro e w2 ⟨a1, m1, c1, rfl, hr, hb⟩
          (try go_wp2_with fail)
          exact hK'.out _ _ (hb) (stepc hR (hb)) (fun D hD => by cases hD; exact ⟨_, _, _, rfl, hr⟩)
        · refine ⟨[6, 8, 4], by decide, fun vs w hl hR hd K hK => ?_⟩
          obtain ⟨v0, vs, rfl, hl1⟩ := len_succ hl
          obtain ⟨v1, vs, rfl, hl2⟩ := len_succ hl1
          obtain ⟨v2, vs, rfl, hl3⟩ := len_succ hl2
          obtain ⟨v3, vs, rfl, hl4⟩ := len_succ hl3
          obtain ⟨v4, vs, rfl, hl5⟩ := len_succ hl4
          obtain ⟨v5, vs, rfl, hl6⟩ := len_succ hl5
          obtain ⟨v6, vs, rfl, hl7⟩ := len_succ hl6
          obtain ⟨v7, vs, rfl, hl8⟩ := len_succ hl7
          obtain ⟨v8, vs, rfl, hl9⟩ := len_succ hl8
          obtain ⟨v9, vs, rfl, hl10⟩ := len_succ hl9
          obtain ⟨v10, vs, rfl, hl11⟩ := len_succ hl10
          obtain ⟨v11, vs, rfl, hl12⟩ := len_succ hl11
          obtain ⟨v12, vs, rfl, hl13⟩ := len_succ hl12
          obtain ⟨v13, vs, rfl, hl14⟩ := len_succ hl13
          obtain ⟨v14, vs, rfl, hl15⟩ := len_succ hl14
          obtain ⟨v15, vs, rfl, hl16⟩ := len_succ hl15
          obtain ⟨v16, vs, rfl, hl17⟩ := len_succ hl16
          obtain rfl := len_zero hl17
          have dd := hd 6 (by simp) _ rfl; simp only [List.getD_cons_zero, List.getD_cons_succ] at dd; obtain rfl := dd
          have dd := hd 8 (by simp) _ rfl; simp only [List.getD_cons_zero, List.getD_cons_succ] at dd; refine dd.elim ?_; clear dd; intro a1 ha1; refine ha1.elim ?_; intro m1 hm1; refine hm1.elim ?_; intro c1 hc1; have e1 := hc1.1; have hs1 := hc1.2; clear ha1 hm1 hc1; subst e1
          have dd := hd 4 (by simp) _ rfl; simp only [List.getD_cons_zero, List.getD_cons_succ] at dd; obtain rfl := dd
          clear hd hl hl1 hl2 hl3 hl4 hl5 hl6 hl7 hl8 hl9 hl10 hl11 hl12 hl13 hl14 hl15 hl16 hl17
          replace hK := hK.out
          simp only [puts, List.set_cons_zero, List.set_cons_succ, Act.put, List.setIfInBounds_toArray] at hK ⊢
          have hK' : Shut _ := hK
          clear hK
          go_simp
          go_at_call 24; (with_reducible refine (or_any sa a1 sn m1 sc c1 mem mem2 _ (HSB.out _ hR) hs1).mono ?_); rintro e w2 ⟨a2, m2, c2, rfl, hr, hb⟩
          (try go_wp2_with fail)
          exact hK'.out _ _ (hb) (stepc hR (hb)) (fun D hD => by cases hD; exact ⟨_, _, _, rfl, hr⟩)
        · refine ⟨[4], by decide, fun vs w hl hR hd K hK => ?_⟩
          obtain ⟨v0, vs, rfl, hl1⟩ := len_succ hl
          obtain ⟨v1, vs, rfl, hl2⟩ := len_succ hl1
          obtain ⟨v2, vs, rfl, hl3⟩ := len_succ hl2
          obtain ⟨v3, vs, rfl, hl4⟩ := len_succ hl3
          obtain ⟨v4, vs, rfl, hl5⟩ := len_succ hl4
          obtain ⟨v5, vs, rfl, hl6⟩ := len_succ hl5
          obtain ⟨v6, vs, rfl, hl7⟩ := len_succ hl6
          obtain ⟨v7, vs, rfl, hl8⟩ := len_succ hl7
          obtain ⟨v8, vs, rfl, hl9⟩ := len_succ hl8
          obtain ⟨v9, vs, rfl, hl10⟩ := len_succ hl9
          obtain ⟨v10, vs, rfl, hl11⟩ := len_succ hl10
          obtain ⟨v11, vs, rfl, hl12⟩ := len_succ hl11
          obtain ⟨v12, vs, rfl, hl13⟩ := len_succ hl12
          obtain ⟨v13, vs, rfl, hl14⟩ := len_succ hl13
          obtain ⟨v14, vs, rfl, hl15⟩ := len_succ hl14
          obtain ⟨v15, vs, rfl, hl16⟩ := len_succ hl15
          obtain ⟨v16, vs, rfl, hl17⟩ := len_succ hl16
          obtain rfl := len_zero hl17
          have dd := hd 4 (by simp) _ rfl; simp only [List.getD_cons_zero, List.getD_cons_succ] at dd; obtain rfl := dd
          clear hd hl hl1 hl2 hl3 hl4 hl5 hl6 hl7 hl8 hl9 hl10 hl11 hl12 hl13 hl14 hl15 hl16 hl17
          replace hK := hK.out
          simp only [puts, List.set_cons_zero, List.set_cons_succ, Act.put, List.setIfInBounds_toArray] at hK ⊢
          have hK' : Shut _ := hK
          clear hK
          go_simp
          (try go_wp2_with fail)
          exact hK'.out _ _ (Below.refl _ _) (hR) (fun D hD => by cases hD; rfl)
        · refine ⟨[10, 4], by decide, fun vs w hl hR hd K hK => ?_⟩
          obtain ⟨v0, vs, rfl, hl1⟩ := len_succ hl
          obtain ⟨v1, vs, rfl, hl2⟩ := len_succ hl1
          obtain ⟨v2, vs, rfl, hl3⟩ := len_succ hl2
          obtain ⟨v3, vs, rfl, hl4⟩ := len_succ hl3
          obtain ⟨v4, vs, rfl, hl5⟩ := len_succ hl4
          obtain ⟨v5, vs, rfl, hl6⟩ := len_succ hl5
          obtain ⟨v6, vs, rfl, hl7⟩ := len_succ hl6
          obtain ⟨v7, vs, rfl, hl8⟩ := len_succ hl7
          obtain ⟨v8, vs, rfl, hl9⟩ := len_succ hl8
          obtain ⟨v9, vs, rfl, hl10⟩ := len_succ hl9
          obtain ⟨v10, vs, rfl, hl11⟩ := len_succ hl10
          obtain ⟨v11, vs, rfl, hl12⟩ := len_succ hl11
          obtain ⟨v12, vs, rfl, hl13⟩ := len_succ hl12
          obtain ⟨v13, vs, rfl, hl14⟩ := len_succ hl13
          obtain ⟨v14, vs, rfl, hl15⟩ := len_succ hl14
          obtain ⟨v15, vs, rfl, hl16⟩ := len_succ hl15
          obtain ⟨v16, vs, rfl, hl17⟩ := len_succ hl16
          obtain rfl := len_zero hl17
          have dd := hd 10 (by simp) _ rfl; simp only [List.getD_cons_zero, List.getD_cons_succ] at dd; obtain rfl := dd
          have dd := hd 4 (by simp) _ rfl; simp only [List.getD_cons_zero, List.getD_cons_succ] at dd; obtain rfl := dd
          clear hd hl hl1 hl2 hl3 hl4 hl5 hl6 hl7 hl8 hl9 hl10 hl11 hl12 hl13 hl14 hl15 hl16 hl17
          replace hK := hK.out
          simp only [puts, List.set_cons_zero, List.set_cons_succ, Act.put, List.setIfInBounds_toArray] at hK ⊢
          have hK' : Shut _ := hK
          clear hK
          obtain ⟨k0, k1, k2, k3, k4, k5⟩ := HQ.out _ hR
          go_simp
          (try go_wp2_with fail)
          exact hK'.out _ _ (Below.refl _ _) (hR) (fun D hD => by cases hD; rfl)
        · refine ⟨[4], by decide, fun vs w hl hR hd K hK => ?_⟩
          obtain ⟨v0, vs, rfl, hl1⟩ := len_succ hl
          obtain ⟨v1, vs, rfl, hl2⟩ := len_succ hl1
          obtain ⟨v2, vs, rfl, hl3⟩ := len_succ hl2
          obtain ⟨v3, vs, rfl, hl4⟩ := len_succ hl3
          obtain ⟨v4, vs, rfl, hl5⟩ := len_succ hl4
          obtain ⟨v5, vs, rfl, hl6⟩ := len_succ hl5
          obtain ⟨v6, vs, rfl, hl7⟩ := len_succ hl6
          obtain ⟨v7, vs, rfl, hl8⟩ := len_succ hl7
          obtain ⟨v8, vs, rfl, hl9⟩ := len_succ hl8
          obtain ⟨v9, vs, rfl, hl10⟩ := len_succ hl9
          obtain ⟨v10, vs, rfl, hl11⟩ := len_succ hl10
          obtain ⟨v11, vs, rfl, hl12⟩ := len_succ hl11
          obtain ⟨v12, vs, rfl, hl13⟩ := len_succ hl12
          obtain ⟨v13, vs, rfl, hl14⟩ := len_succ hl13
          obtain ⟨v14, vs, rfl, hl15⟩ := len_succ hl14
          obtain ⟨v15, vs, rfl, hl16⟩ := len_succ hl15
          obtain ⟨v16, vs, rfl, hl17⟩ := len_succ hl16
          obtain rfl := len_zero hl17
          have dd := hd 4 (by simp) _ rfl; simp only [List.getD_cons_zero, List.getD_cons_succ] at dd; obtain rfl := dd
          clear hd hl hl1 hl2 hl3 hl4 hl5 hl6 hl7 hl8 hl9 hl10 hl11 hl12 hl13 hl14 hl15 hl16 hl17
          replace hK := hK.out
          simp only [puts, List.set_cons_zero, List.set_cons_succ, Act.put, List.setIfInBounds_toArray] at hK ⊢
          have hK' : Shut _ := hK
          clear hK
          go_simp
          (try go_wp2_with fail)
          exact hK'.out _ _ (Below.refl _ _) (hR) (fun D hD => by cases hD; rfl)
        · refine ⟨[12, 4], by decide, fun vs w hl hR hd K hK => ?_⟩
          obtain ⟨v0, vs, rfl, hl1⟩ := len_succ hl
          obtain ⟨v1, vs, rfl, hl2⟩ := len_succ hl1
          obtain ⟨v2, vs, rfl, hl3⟩ := len_succ hl2
          obtain ⟨v3, vs, rfl, hl4⟩ := len_succ hl3
          obtain ⟨v4, vs, rfl, hl5⟩ := len_succ hl4
          obtain ⟨v5, vs, rfl, hl6⟩ := len_succ hl5
          obtain ⟨v6, vs, rfl, hl7⟩ := len_succ hl6
          obtain ⟨v7, vs, rfl, hl8⟩ := len_succ hl7
          obtain ⟨v8, vs, rfl, hl9⟩ := len_succ hl8
          obtain ⟨v9, vs, rfl, hl10⟩ := len_succ hl9
          obtain ⟨v10, vs, rfl, hl11⟩ := len_succ hl10
          obtain ⟨v11, vs, rfl, hl12⟩ := len_succ hl11
          obtain ⟨v12, vs, rfl, hl13⟩ := len_succ hl12
          obtain ⟨v13, vs, rfl, hl14⟩ := len_succ hl13
          obtain ⟨v14, vs, rfl, hl15⟩ := len_succ hl14
          obtain ⟨v15, vs, rfl, hl16⟩ := len_succ hl15
          obtain ⟨v16, vs, rfl, hl17⟩ := len_succ hl16
          obtain rfl := len_zero hl17
          have dd := hd 12 (by simp) _ rfl; simp only [List.getD_cons_zero, List.getD_cons_succ] at dd; obtain rfl := dd
          have dd := hd 4 (by simp) _ rfl; simp only [List.getD_cons_zero, List.getD_cons_succ] at dd; obtain rfl := dd
          clear hd hl hl1 hl2 hl3 hl4 hl5 hl6 hl7 hl8 hl9 hl10 hl11 hl12 hl13 hl14 hl15 hl16 hl17
          replace hK := hK.out
          simp only [puts, List.set_cons_zero, List.set_cons_succ, Act.put, List.setIfInBounds_toArray] at hK ⊢
          have hK' : Shut _ := hK
          clear hK
          obtain ⟨k0, k1, k2, k3, k4, k5⟩ := HQ.out _ hR
          go_simp
          (try go_wp2_with fail)
          exact hK'.out _ _ (Below.refl _ _) (hR) (fun D hD => by cases hD; rfl)
        · refine ⟨[5, 9, 11, 13, 4], by decide, fun vs w hl hR hd K hK => ?_⟩
          obtain ⟨v0, vs, rfl, hl1⟩ := len_succ hl
          obtain ⟨v1, vs, rfl, hl2⟩ := len_succ hl1
          obtain ⟨v2, vs, rfl, hl3⟩ := len_succ hl2
          obtain ⟨v3, vs, rfl, hl4⟩ := len_succ hl3
          obtain ⟨v4, vs, rfl, hl5⟩ := len_succ hl4
          obtain ⟨v5, vs, rfl, hl6⟩ := len_succ hl5
          obtain ⟨v6, vs, rfl, hl7⟩ := len_succ hl6
          obtain ⟨v7, vs, rfl, hl8⟩ := len_succ hl7
          obtain ⟨v8, vs, rfl, hl9⟩ := len_succ hl8
          obtain ⟨v9, vs, rfl, hl10⟩ := len_succ hl9
          obtain ⟨v10, vs, rfl, hl11⟩ := len_succ hl10
          obtain ⟨v11, vs, rfl, hl12⟩ := len_succ hl11
          obtain ⟨v12, vs, rfl, hl13⟩ := len_succ hl12
          obtain ⟨v13, vs, rfl, hl14⟩ := len_succ hl13
          obtain ⟨v14, vs, rfl, hl15⟩ := len_succ hl14
          obtain ⟨v15, vs, rfl, hl16⟩ := len_succ hl15
          obtain ⟨v16, vs, rfl, hl17⟩ := len_succ hl16
          obtain rfl := len_zero hl17
          have dd := hd 5 (by simp) _ rfl; simp only [List.getD_cons_zero, List.getD_cons_succ] at dd; obtain rfl := dd
          have dd := hd 9 (by simp) _ rfl; simp only [List.getD_cons_zero, List.getD_cons_succ] at dd; refine dd.elim ?_; clear dd; intro a1 ha1; refine ha1.elim ?_; intro m1 hm1; refine hm1.elim ?_; intro c1 hc1; have e1 := hc1.1; have hs1 := hc1.2; clear ha1 hm1 hc1; subst e1
          have dd := hd 11 (by simp) _ rfl; simp only [List.getD_cons_zero, List.getD_cons_succ] at dd; obtain rfl := dd
          have dd := hd 13 (by simp) _ rfl; simp only [List.getD_cons_zero, List.getD_cons_succ] at dd; obtain rfl := dd
          have dd := hd 4 (by simp) _ rfl; simp only [List.getD_cons_zero, List.getD_cons_succ] at dd; obtain rfl := dd
          clear hd hl hl1 hl2 hl3 hl4 hl5 hl6 hl7 hl8 hl9 hl10 hl11 hl12 hl13 hl14 hl15 hl16 hl17
          replace hK := hK.out
          simp only [puts, List.set_cons_zero, List.set_cons_succ, Act.put, List.setIfInBounds_toArray] at hK ⊢
          have hK' : Shut _ := hK
          clear hK
          go_simp
          go_at_call 21; (with_reducible refine (HPM.out a1 m1 c1 (orL mem mem2) dy un _ hR hs1).mono ?_); rw [HGM.out]; rintro e w2 ⟨rfl, hb⟩
          (try go_wp2_with fail)
          exact hK'.out _ _ (hb) (stepc hR (hb)) (fun D hD => by cases hD; rfl)
        · refine ⟨[14, 4], by decide, fun vs w hl hR hd K hK => ?_⟩
          obtain ⟨v0, vs, rfl, hl1⟩ := len_succ hl
          obtain ⟨v1, vs, rfl, hl2⟩ := len_succ hl1
          obtain ⟨v2, vs, rfl, hl3⟩ := len_succ hl2
          obtain ⟨v3, vs, rfl, hl4⟩ := len_succ hl3
          obtain ⟨v4, vs, rfl, hl5⟩ := len_succ hl4
          obtain ⟨v5, vs, rfl, hl6⟩ := len_succ hl5
          obtain ⟨v6, vs, rfl, hl7⟩ := len_succ hl6
          obtain ⟨v7, vs, rfl, hl8⟩ := len_succ hl7
          obtain ⟨v8, vs, rfl, hl9⟩ := len_succ hl8
          obtain ⟨v9, vs, rfl, hl10⟩ := len_succ hl9
          obtain ⟨v10, vs, rfl, hl11⟩ := len_succ hl10
          obtain ⟨v11, vs, rfl, hl12⟩ := len_succ hl11
          obtain ⟨v12, vs, rfl, hl13⟩ := len_succ hl12
          obtain ⟨v13, vs, rfl, hl14⟩ := len_succ hl13
          obtain ⟨v14, vs, rfl, hl15⟩ := len_succ hl14
          obtain ⟨v15, vs, rfl, hl16⟩ := len_succ hl15
          obtain ⟨v16, vs, rfl, hl17⟩ := len_succ hl16
          obtain rfl := len_zero hl17
          have dd := hd 14 (by simp) _ rfl; simp only [List.getD_cons_zero, List.getD_cons_succ] at dd; obtain rfl := dd
          have dd := hd 4 (by simp) _ rfl; simp only [List.getD_cons_zero, List.getD_cons_succ] at dd; obtain rfl := dd
          clear hd hl hl1 hl2 hl3 hl4 hl5 hl6 hl7 hl8 hl9 hl10 hl11 hl12 hl13 hl14 hl15 hl16 hl17
          replace hK := hK.out
          simp only [puts, List.set_cons_zero, List.set_cons_succ, Act.put, List.setIfInBounds_toArray] at hK ⊢
          have hK' : Shut _ := hK
          clear hK
          go_simp
          (try go_wp2_with fail)
          exact hK'.out _ _ (Below.refl _ _) (hR) (fun D hD => by cases hD; rfl)
        · refine ⟨[4, 15], by decide, fun vs w hl hR hd K hK => ?_⟩
          obtain ⟨v0, vs, rfl, hl1⟩ := len_succ hl
          obtain ⟨v1, vs, rfl, hl2⟩ := len_succ hl1
          obtain ⟨v2, vs, rfl, hl3⟩ := len_succ hl2
          obtain ⟨v3, vs, rfl, hl4⟩ := len_succ hl3
          obtain ⟨v4, vs, rfl, hl5⟩ := len_succ hl4
          obtain ⟨v5, vs, rfl, hl6⟩ := len_succ hl5
          obtain ⟨v6, vs, rfl, hl7⟩ := len_succ hl6
          obtain ⟨v7, vs, rfl, hl8⟩ := len_succ hl7
          obtain ⟨v8, vs, rfl, hl9⟩ := len_succ hl8
          obtain ⟨v9, vs, rfl, hl10⟩ := len_succ hl9
          obtain ⟨v10, vs, rfl, hl11⟩ := len_succ hl10
          obtain ⟨v11, vs, rfl, hl12⟩ := len_succ hl11
          obtain ⟨v12, vs, rfl, hl13⟩ := len_succ hl12
          obtain ⟨v13, vs, rfl, hl14⟩ := len_succ hl13
          obtain ⟨v14, vs, rfl, hl15⟩ := len_succ hl14
          obtain ⟨v15, vs, rfl, hl16⟩ := len_succ hl15
          obtain ⟨v16, vs, rfl, hl17⟩ := len_succ hl16
          obtain rfl := len_zero hl17
          have dd := hd 4 (by simp) _ rfl; simp only [List.getD_cons_zero, List.getD_cons_succ] at dd; obtain rfl := dd
          have dd := hd 15 (by simp) _ rfl; simp only [List.getD_cons_zero, List.getD_cons_succ] at dd; obtain rfl := dd
          clear hd hl hl1 hl2 hl3 hl4 hl5 hl6 hl7 hl8 hl9 hl10 hl11 hl12 hl13 hl14 hl15 hl16 hl17
          replace hK := hK.out
          simp only [puts, List.set_cons_zero, List.set_cons_succ, Act.put, List.setIfInBounds_toArray] at hK ⊢
          have hK' : Shut _ := hK
          clear hK
          go_simp
          (try go_wp2_with fail)
          exact hK'.out _ _ (Below.refl _ _) (hR) (fun D hD => by cases hD; rfl)
        · intro vs wz hl hR hd
          obtain ⟨v0, vs, rfl, hl1⟩ := len_succ hl
          obtain ⟨v1, vs, rfl, hl2⟩ := len_succ hl1
          obtain ⟨v2, vs, rfl, hl3⟩ := len_succ hl2
          obtain ⟨v3, vs, rfl, hl4⟩ := len_succ hl3
          obtain ⟨v4, vs, rfl, hl5⟩ := len_succ hl4
          obtain ⟨v5, vs, rfl, hl6⟩ := len_succ hl5
          obtain ⟨v6, vs, rfl, hl7⟩ := len_succ hl6
          obtain ⟨v7, vs, rfl, hl8⟩ := len_succ hl7
          obtain ⟨v8, vs, rfl, hl9⟩ := len_succ hl8
          obtain ⟨v9, vs, rfl, hl10⟩ := len_succ hl9
          obtain ⟨v10, vs, rfl, hl11⟩ := len_succ hl10
          obtain ⟨v11, vs, rfl, hl12⟩ := len_succ hl11
          obtain ⟨v12, vs, rfl, hl13⟩ := len_succ hl12
          obtain ⟨v13, vs, rfl, hl14⟩ := len_succ hl13
          obtain ⟨v14, vs, rfl, hl15⟩ := len_succ hl14
          obtain ⟨v15, vs, rfl, hl16⟩ := len_succ hl15
          obtain ⟨v16, vs, rfl, hl17⟩ := len_succ hl16
          obtain rfl := len_zero hl17
          have dd := hd 16 _ rfl; simp only [List.getD_cons_zero, List.getD_cons_succ] at dd; obtain rfl := dd
          clear hd hl hl1 hl2 hl3 hl4 hl5 hl6 hl7 hl8 hl9 hl10 hl11 hl12 hl13 hl14 hl15 hl16 hl17
          simp only [puts, List.set_cons_zero, List.set_cons_succ, Act.put, List.setIfInBounds_toArray]
          go_wp2_with fail
          go_roundw
          case rel => exact ⟨j + 1, by omega, by go_num, stepc HB5.out hR⟩
          case measure => simp [intOf]; omega
    · obtain rfl : j = n := by omega
      have HB := Lib.hid (HBW.out _ hbw)
      go_wp2_with fail
      go_ret
      exact ⟨rfl, HB.out⟩
end Go.Proofs.YtfjpbkmnlmecgaaGreatDoor.Ru
