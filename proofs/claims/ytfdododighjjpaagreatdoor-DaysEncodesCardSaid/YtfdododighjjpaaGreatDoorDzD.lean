/- Contracts: the reference's digits. -/
import Derived.Test.YtfdododighjjpaaGreatDoorDaM
import Derived.Test.YtfdododighjjpaaGreatDoorDaT
import Derived.Test.YtfdododighjjpaaGreatDoorInv
import Derived.RegionTactic
import Derived.BigRegion
import Derived.Deep.RegionHeld3
import Derived.Laws.IdiomStrings
namespace Go.Proofs.YtfdododighjjpaaGreatDoor.Dy
open Go.RowKit Go.PlainAid
set_option linter.unusedVariables false
set_option linter.unusedSimpArgs false
set_option maxHeartbeats 4000000
set_option maxRecDepth 20000
theorem ret_st {a b : ByteArray} (h : a = b) : Ending.returned (.string a) = .returned (.string b) := by rw [h]
theorem u8_of (n : Nat) (h : n < 10) : ((UInt8.ofNat (48 + n)).toNat : Int) = 48 + (n : Int) := by
  rw [UInt8.toNat_ofNat']; omega
/-- One byte to a string. -/
theorem byte_str (w : World) (b n : Nat) (hn : n < 10) (h : w.cell? ⟨b, 0, none⟩ = some (.int .u8 (48 + (n : Int)))) :
    (convert 51 9 (.slice (some ⟨b, 0, none⟩) 1 1)).run Tryz.prog w = .ok (.string ⟨#[UInt8.ofNat (48 + n)]⟩) w := by
  refine run_convert_bytes_back w 51 9 5 ⟨b, 0, none⟩ 1 [UInt8.ofNat (48 + n)] (by kernel_rfl) (by kernel_rfl) (by kernel_rfl) (fun j hj => ?_)
  match j, hj with
  | 0, _ => rw [List.getElem_cons_zero, u8_of n hn]; exact h
theorem dec_cut (n : Nat) (h : ¬ n < 10) : Lib.decDigits n = Lib.decDigits (n / 10) ++ [UInt8.ofNat (48 + n % 10)] := by
  conv => lhs; rw [Lib.decDigits]
  rw [dif_neg h]
theorem ba_cat (a b : List UInt8) : (⟨a.toArray⟩ : ByteArray) ++ (⟨b.toArray⟩ : ByteArray) = ⟨(a ++ b).toArray⟩ := by
  apply ByteArray.ext
  simp [ByteArray.data_append]
theorem step_call {w w1 w2 : World} (h : RowKit.Below w.heap.size w w1) (h2 : RowKit.Below w1.heap.size w1 w2) : RowKit.Below w.heap.size w w2 := h.trans (h2.mono h.size)
theorem refdig_any (n : Nat) : ∀ (i : Int) (w : World), i = n → n ≤ 30000 →
    Calls Tryz.prog 44 #[.int .i64 i] w fun e w' => e = .returned (.string ⟨(Lib.decDigits n).toArray⟩) ∧ RowKit.Below w.heap.size w w' := by
  induction n using Nat.strongRecOn with
  | _ n ih =>
    intro i w hi hn
    subst hi
    by_cases h : n < 10
    · have hcv := byte_str (w.alloc (.cells #[.int .u8 (48 + (n : Int))] 5)) w.heap.size n h (new1 _ _ _).1
      go_enter Tryz.func44, Tryz.ntmps44
      go_wp2_with fail
      go_ret
      exact ⟨ret_st (by rw [Lib.decDigits_one h]; exact congrArg (fun x : UInt8 => (⟨#[x]⟩ : ByteArray)) (UInt8.ofNat_add 48 n).symm), (RowKit.Below.refl _ _).alloc (Nat.le_refl _) _⟩
    · have I1 := Lib.hid (fun W => ih (n / 10) (by omega) ((n : Int) / 10) W (by omega) (by omega))
      clear ih
      have hd1 : (⟨(Lib.decDigits (n / 10)).toArray⟩ : ByteArray).size ≤ 5 := by show (Lib.decDigits (n / 10)).toArray.size ≤ 5; rw [List.size_toArray]; exact (dec_day (n / 10) (by omega)).2
      have HCAT : Hid ((⟨(Lib.decDigits (n / 10)).toArray⟩ : ByteArray) ++ (⟨#[UInt8.ofNat (48 + n % 10)]⟩ : ByteArray) = ⟨(Lib.decDigits n).toArray⟩) := by show _ = _; rw [dec_cut n h, ← ba_cat]
      generalize (⟨(Lib.decDigits n).toArray⟩ : ByteArray) = d at HCAT
      generalize (⟨(Lib.decDigits (n / 10)).toArray⟩ : ByteArray) = d1 at I1 hd1 HCAT
      have e1 : IntKind.i64.wrap ((n : Int) / 10) = (n : Int) / 10 := by rw [IntKind.wrap_i64]; omega
      have e2 : (n : Int).tmod 10 = ((n % 10 : Nat) : Int) := by rw [Int.tmod_eq_emod_of_nonneg (by omega)]; omega
      obtain ⟨m, hm⟩ : ∃ m, n % 10 = m := ⟨_, rfl⟩
      have hm10 : m < 10 := by omega
      rw [hm] at e2 HCAT
      clear hm
      obtain ⟨bs, hbs⟩ : ∃ bs : ByteArray, ⟨#[UInt8.ofNat (48 + m)]⟩ = bs := ⟨_, rfl⟩
      have hb1 : bs.size = 1 := by rw [← hbs]; rfl
      rw [hbs] at HCAT
      have HBS := Lib.hid hbs
      clear hbs
      have e3 : IntKind.i64.wrap (48 + (m : Int)) = 48 + (m : Int) := by rw [IntKind.wrap_i64]; omega
      have e4 : IntKind.u8.wrap (48 + (m : Int)) = 48 + (m : Int) := by rw [IntKind.wrap_u8]; omega
      have hsz : d1.size + bs.size ≤ 140737488355328 := by omega
      clear hb1
      go_enter Tryz.func44, Tryz.ntmps44
      go_upto_region 3 with fail
      refine region_slots [10, 11, 12, 13, 14, 15, 16, 17, 18, 19, 2]
        [fun v w => v = .int .i64 (n : Int),
         fun v w => v = .int .i64 ((n : Int) / 10),
         fun v w => v = .string d1,
         fun v w => v = .int .i64 (n : Int),
         fun v w => v = .int .i64 (m : Int),
         fun v w => v = .int .i64 (48 + (m : Int)),
         fun v w => v = .int .u8 (48 + (m : Int)),
         fun v w => ∃ g, v = .slice (some ⟨g, 0, none⟩) 1 1 ∧ g < w.heap.size ∧ w.cell? ⟨g, 0, none⟩ = some (.int .u8 (48 + (m : Int))),
         fun v w => v = .string bs,
         fun v w => v = .string d,
         fun v w => v = .string d]
        (fun w' => Below w.heap.size w w') (fun w w' => Below w.heap.size w w') (by kernel_rfl) (by kernel_rfl) rfl [undef, undef, undef, undef, undef, undef, undef, undef, undef, undef, (.string ⟨#[]⟩)] (by simp only [puts, List.set_cons_zero, List.set_cons_succ, Act.put, List.setIfInBounds_toArray]) rfl ((Below.refl _ _).drew) ?_ ⟨?_, ?_, ?_, ?_, ?_, ?_, ?_, ?_, ?_, ?_, ?_, trivial⟩ ?_
      · intro j D hj v w w' hb hD
        match j, hj with
        | 0, hj => cases hj; exact hD
        | 1, hj => cases hj; exact hD
        | 2, hj => cases hj; exact hD
        | 3, hj => cases hj; exact hD
        | 4, hj => cases hj; exact hD
        | 5, hj => cases hj; exact hD
        | 6, hj => cases hj; exact hD
        | 7, hj => cases hj; obtain ⟨g, e, h1, h2⟩ := hD; exact ⟨g, e, Nat.lt_of_lt_of_le h1 hb.size, (hb.cell (p := ⟨g, 0, none⟩) h1).trans h2⟩
        | 8, hj => cases hj; exact hD
        | 9, hj => cases hj; exact hD
        | 10, hj => cases hj; exact hD
        | j + 11, hj => cases hj
      · refine ⟨[], by decide, fun vs w hl hR hd K hK => ?_⟩
        obtain ⟨v0, vs, rfl, hl1⟩ := len_succ hl
        obtain ⟨v1, vs, rfl, hl2⟩ := len_succ hl1
        obtain ⟨v2, vs, rfl, hl3⟩ := len_succ hl2
        obtain ⟨v3, vs, rfl, hl4⟩ := len_succ hl3
        obtain ⟨v4, vs, rfl, hl5⟩ := len_succ hl4
        obtain ⟨v5, vs, rfl, hl6⟩ := len_succ hl5
        obtain ⟨v6, vs, rfl, hl7⟩ := len_succ hl6
        obtain ⟨v7, vs, rfl, hl8⟩ := len_succ hl7
        obtain ⟨v8, vs, rfl, hl9⟩ := len_succ hl8
        obtain ⟨v9, vs, rfl, hl10⟩ := len_succ hl9
        obtain ⟨v10, vs, rfl, hl11⟩ := len_succ hl10
        obtain rfl := len_zero hl11
        clear hd hl hl1 hl2 hl3 hl4 hl5 hl6 hl7 hl8 hl9 hl10 hl11
        replace hK := hK.out
        simp only [puts, List.set_cons_zero, List.set_cons_succ, Act.put, List.setIfInBounds_toArray] at hK ⊢
        have hK' : Shut _ := hK
        clear hK
        go_simp
        (try go_wp2_with fail)
        exact hK'.out _ _ (Below.refl _ _) (hR) (fun D hD => by cases hD; rfl)
      · refine ⟨[0], by decide, fun vs w hl hR hd K hK => ?_⟩
        obtain ⟨v0, vs, rfl, hl1⟩ := len_succ hl
        obtain ⟨v1, vs, rfl, hl2⟩ := len_succ hl1
        obtain ⟨v2, vs, rfl, hl3⟩ := len_succ hl2
        obtain ⟨v3, vs, rfl, hl4⟩ := len_succ hl3
        obtain ⟨v4, vs, rfl, hl5⟩ := len_succ hl4
        obtain ⟨v5, vs, rfl, hl6⟩ := len_succ hl5
        obtain ⟨v6, vs, rfl, hl7⟩ := len_succ hl6
        obtain ⟨v7, vs, rfl, hl8⟩ := len_succ hl7
        obtain ⟨v8, vs, rfl, hl9⟩ := len_succ hl8
        obtain ⟨v9, vs, rfl, hl10⟩ := len_succ hl9
        obtain ⟨v10, vs, rfl, hl11⟩ := len_succ hl10
        obtain rfl := len_zero hl11
        have dd := hd 0 (by simp) _ rfl; simp only [List.getD_cons_zero, List.getD_cons_succ] at dd; obtain rfl := dd
        clear hd hl hl1 hl2 hl3 hl4 hl5 hl6 hl7 hl8 hl9 hl10 hl11
        replace hK := hK.out
        simp only [puts, List.set_cons_zero, List.set_cons_succ, Act.put, List.setIfInBounds_toArray] at hK ⊢
        have hK' : Shut _ := hK
        clear hK
        go_simp
        (try go_wp2_with fail)
        exact hK'.out _ _ (Below.refl _ _) (hR) (fun D hD => by cases hD; rfl)
      · refine ⟨[1], by decide, fun vs w hl hR hd K hK => ?_⟩
        obtain ⟨v0, vs, rfl, hl1⟩ := len_succ hl
        obtain ⟨v1, vs, rfl, hl2⟩ := len_succ hl1
        obtain ⟨v2, vs, rfl, hl3⟩ := len_succ hl2
        obtain ⟨v3, vs, rfl, hl4⟩ := len_succ hl3
        obtain ⟨v4, vs, rfl, hl5⟩ := len_succ hl4
        obtain ⟨v5, vs, rfl, hl6⟩ := len_succ hl5
        obtain ⟨v6, vs, rfl, hl7⟩ := len_succ hl6
        obtain ⟨v7, vs, rfl, hl8⟩ := len_succ hl7
        obtain ⟨v8, vs, rfl, hl9⟩ := len_succ hl8
        obtain ⟨v9, vs, rfl, hl10⟩ := len_succ hl9
        obtain ⟨v10, vs, rfl, hl11⟩ := len_succ hl10
        obtain rfl := len_zero hl11
        have dd := hd 1 (by simp) _ rfl; simp only [List.getD_cons_zero, List.getD_cons_succ] at dd; obtain rfl := dd
        clear hd hl hl1 hl2 hl3 hl4 hl5 hl6 hl7 hl8 hl9 hl10 hl11
        replace hK := hK.out
        simp only [puts, List.set_cons_zero, List.set_cons_succ, Act.put, List.setIfInBounds_toArray] at hK ⊢
        have hK' : Shut _ := hK
        clear hK
        go_simp
        go_at_call 44; (with_reducible refine (I1.out _).mono ?_); rintro e w2 ⟨rfl, hb⟩
        (try go_wp2_with fail)
        exact hK'.out _ _ (hb) (step_call hR (hb)) (fun D hD => by cases hD; rfl)
      · refine ⟨[], by decide, fun vs w hl hR hd K hK => ?_⟩
        obtain ⟨v0, vs, rfl, hl1⟩ := len_succ hl
        obtain ⟨v1, vs, rfl, hl2⟩ := len_succ hl1
        obtain ⟨v2, vs, rfl, hl3⟩ := len_succ hl2
        obtain ⟨v3, vs, rfl, hl4⟩ := len_succ hl3
        obtain ⟨v4, vs, rfl, hl5⟩ := len_succ hl4
        obtain ⟨v5, vs, rfl, hl6⟩ := len_succ hl5
        obtain ⟨v6, vs, rfl, hl7⟩ := len_succ hl6
        obtain ⟨v7, vs, rfl, hl8⟩ := len_succ hl7
        obtain ⟨v8, vs, rfl, hl9⟩ := len_succ hl8
        obtain ⟨v9, vs, rfl, hl10⟩ := len_succ hl9
        obtain ⟨v10, vs, rfl, hl11⟩ := len_succ hl10
        obtain rfl := len_zero hl11
        clear hd hl hl1 hl2 hl3 hl4 hl5 hl6 hl7 hl8 hl9 hl10 hl11
        replace hK := hK.out
        simp only [puts, List.set_cons_zero, List.set_cons_succ, Act.put, List.setIfInBounds_toArray] at hK ⊢
        have hK' : Shut _ := hK
        clear hK
        go_simp
        (try go_wp2_with fail)
        exact hK'.out _ _ (Below.refl _ _) (hR) (fun D hD => by cases hD; rfl)
      · refine ⟨[3], by decide, fun vs w hl hR hd K hK => ?_⟩
        obtain ⟨v0, vs, rfl, hl1⟩ := len_succ hl
        obtain ⟨v1, vs, rfl, hl2⟩ := len_succ hl1
        obtain ⟨v2, vs, rfl, hl3⟩ := len_succ hl2
        obtain ⟨v3, vs, rfl, hl4⟩ := len_succ hl3
        obtain ⟨v4, vs, rfl, hl5⟩ := len_succ hl4
        obtain ⟨v5, vs, rfl, hl6⟩ := len_succ hl5
        obtain ⟨v6, vs, rfl, hl7⟩ := len_succ hl6
        obtain ⟨v7, vs, rfl, hl8⟩ := len_succ hl7
        obtain ⟨v8, vs, rfl, hl9⟩ := len_succ hl8
        obtain ⟨v9, vs, rfl, hl10⟩ := len_succ hl9
        obtain ⟨v10, vs, rfl, hl11⟩ := len_succ hl10
        obtain rfl := len_zero hl11
        have dd := hd 3 (by simp) _ rfl; simp only [List.getD_cons_zero, List.getD_cons_succ] at dd; obtain rfl := dd
        clear hd hl hl1 hl2 hl3 hl4 hl5 hl6 hl7 hl8 hl9 hl10 hl11
        replace hK := hK.out
        simp only [puts, List.set_cons_zero, List.set_cons_succ, Act.put, List.setIfInBounds_toArray] at hK ⊢
        have hK' : Shut _ := hK
        clear hK
        go_simp
        (try go_wp2_with fail)
        exact hK'.out _ _ (Below.refl _ _) (hR) (fun D hD => by cases hD; rfl)
      · refine ⟨[4], by decide, fun vs w hl hR hd K hK => ?_⟩
        obtain ⟨v0, vs, rfl, hl1⟩ := len_succ hl
        obtain ⟨v1, vs, rfl, hl2⟩ := len_succ hl1
        obtain ⟨v2, vs, rfl, hl3⟩ := len_succ hl2
        obtain ⟨v3, vs, rfl, hl4⟩ := len_succ hl3
        obtain ⟨v4, vs, rfl, hl5⟩ := len_succ hl4
        obtain ⟨v5, vs, rfl, hl6⟩ := len_succ hl5
        obtain ⟨v6, vs, rfl, hl7⟩ := len_succ hl6
        obtain ⟨v7, vs, rfl, hl8⟩ := len_succ hl7
        obtain ⟨v8, vs, rfl, hl9⟩ := len_succ hl8
        obtain ⟨v9, vs, rfl, hl10⟩ := len_succ hl9
        obtain ⟨v10, vs, rfl, hl11⟩ := len_succ hl10
        obtain rfl := len_zero hl11
        have dd := hd 4 (by simp) _ rfl; simp only [List.getD_cons_zero, List.getD_cons_succ] at dd; obtain rfl := dd
        clear hd hl hl1 hl2 hl3 hl4 hl5 hl6 hl7 hl8 hl9 hl10 hl11
        replace hK := hK.out
        simp only [puts, List.set_cons_zero, List.set_cons_succ, Act.put, List.setIfInBounds_toArray] at hK ⊢
        have hK' : Shut _ := hK
        clear hK
        go_simp
        (try go_wp2_with fail)
        exact hK'.out _ _ (Below.refl _ _) (hR) (fun D hD => by cases hD; rfl)
      · refine ⟨[5], by decide, fun vs w hl hR hd K hK => ?_⟩
        obtain ⟨v0, vs, rfl, hl1⟩ := len_succ hl
        obtain ⟨v1, vs, rfl, hl2⟩ := len_succ hl1
        obtain ⟨v2, vs, rfl, hl3⟩ := len_succ hl2
        obtain ⟨v3, vs, rfl, hl4⟩ := len_succ hl3
        obtain ⟨v4, vs, rfl, hl5⟩ := len_succ hl4
        obtain ⟨v5, vs, rfl, hl6⟩ := len_succ hl5
        obtain ⟨v6, vs, rfl, hl7⟩ := len_succ hl6
        obtain ⟨v7, vs, rfl, hl8⟩ := len_succ hl7
        obtain ⟨v8, vs, rfl, hl9⟩ := len_succ hl8
        obtain ⟨v9, vs, rfl, hl10⟩ := len_succ hl9
        obtain ⟨v10, vs, rfl, hl11⟩ := len_succ hl10
        obtain rfl := len_zero hl11
        have dd := hd 5 (by simp) _ rfl; simp only [List.getD_cons_zero, List.getD_cons_succ] at dd; obtain rfl := dd
        clear hd hl hl1 hl2 hl3 hl4 hl5 hl6 hl7 hl8 hl9 hl10 hl11
        replace hK := hK.out
        simp only [puts, List.set_cons_zero, List.set_cons_succ, Act.put, List.setIfInBounds_toArray] at hK ⊢
        have hK' : Shut _ := hK
        clear hK
        go_simp
        (try go_wp2_with fail)
        exact hK'.out _ _ (Below.refl _ _) (hR) (fun D hD => by cases hD; rfl)
      · refine ⟨[6], by decide, fun vs w hl hR hd K hK => ?_⟩
        obtain ⟨v0, vs, rfl, hl1⟩ := len_succ hl
        obtain ⟨v1, vs, rfl, hl2⟩ := len_succ hl1
        obtain ⟨v2, vs, rfl, hl3⟩ := len_succ hl2
        obtain ⟨v3, vs, rfl, hl4⟩ := len_succ hl3
        obtain ⟨v4, vs, rfl, hl5⟩ := len_succ hl4
        obtain ⟨v5, vs, rfl, hl6⟩ := len_succ hl5
        obtain ⟨v6, vs, rfl, hl7⟩ := len_succ hl6
        obtain ⟨v7, vs, rfl, hl8⟩ := len_succ hl7
        obtain ⟨v8, vs, rfl, hl9⟩ := len_succ hl8
        obtain ⟨v9, vs, rfl, hl10⟩ := len_succ hl9
        obtain ⟨v10, vs, rfl, hl11⟩ := len_succ hl10
        obtain rfl := len_zero hl11
        have dd := hd 6 (by simp) _ rfl; simp only [List.getD_cons_zero, List.getD_cons_succ] at dd; obtain rfl := dd
        clear hd hl hl1 hl2 hl3 hl4 hl5 hl6 hl7 hl8 hl9 hl10 hl11
        replace hK := hK.out
        simp only [puts, List.set_cons_zero, List.set_cons_succ, Act.put, List.setIfInBounds_toArray] at hK ⊢
        have hK' : Shut _ := hK
        clear hK
        go_simp
        (try go_wp2_with fail)
        exact hK'.out _ _ ((Below.refl _ _).alloc (Nat.le_refl _) _) (step_call hR ((Below.refl _ _).alloc (Nat.le_refl _) _)) (fun D hD => by cases hD; exact ⟨_, rfl, by simp, (new1 _ _ _).1⟩)
      · refine ⟨[7], by decide, fun vs w hl hR hd K hK => ?_⟩
        obtain ⟨v0, vs, rfl, hl1⟩ := len_succ hl
        obtain ⟨v1, vs, rfl, hl2⟩ := len_succ hl1
        obtain ⟨v2, vs, rfl, hl3⟩ := len_succ hl2
        obtain ⟨v3, vs, rfl, hl4⟩ := len_succ hl3
        obtain ⟨v4, vs, rfl, hl5⟩ := len_succ hl4
        obtain ⟨v5, vs, rfl, hl6⟩ := len_succ hl5
        obtain ⟨v6, vs, rfl, hl7⟩ := len_succ hl6
        obtain ⟨v7, vs, rfl, hl8⟩ := len_succ hl7
        obtain ⟨v8, vs, rfl, hl9⟩ := len_succ hl8
        obtain ⟨v9, vs, rfl, hl10⟩ := len_succ hl9
        obtain ⟨v10, vs, rfl, hl11⟩ := len_succ hl10
        obtain rfl := len_zero hl11
        have dd := hd 7 (by simp) _ rfl; simp only [List.getD_cons_zero, List.getD_cons_succ] at dd; have hg := Classical.choose_spec dd; generalize Classical.choose dd = g at hg; clear dd; have e := hg.1; have hs := hg.2.2; clear hg; subst e
        clear hd hl hl1 hl2 hl3 hl4 hl5 hl6 hl7 hl8 hl9 hl10 hl11
        replace hK := hK.out
        simp only [puts, List.set_cons_zero, List.set_cons_succ, Act.put, List.setIfInBounds_toArray] at hK ⊢
        have hK' : Shut _ := hK
        clear hK
        have kc := byte_str _ g m hm10 hs; rw [HBS.out] at kc
        go_simp
        (try go_wp2_with fail)
        exact hK'.out _ _ (Below.refl _ _) (hR) (fun D hD => by cases hD; rfl)
      · refine ⟨[2, 8], by decide, fun vs w hl hR hd K hK => ?_⟩
        obtain ⟨v0, vs, rfl, hl1⟩ := len_succ hl
        obtain ⟨v1, vs, rfl, hl2⟩ := len_succ hl1
        obtain ⟨v2, vs, rfl, hl3⟩ := len_succ hl2
        obtain ⟨v3, vs, rfl, hl4⟩ := len_succ hl3
        obtain ⟨v4, vs, rfl, hl5⟩ := len_succ hl4
        obtain ⟨v5, vs, rfl, hl6⟩ := len_succ hl5
        obtain ⟨v6, vs, rfl, hl7⟩ := len_succ hl6
        obtain ⟨v7, vs, rfl, hl8⟩ := len_succ hl7
        obtain ⟨v8, vs, rfl, hl9⟩ := len_succ hl8
        obtain ⟨v9, vs, rfl, hl10⟩ := len_succ hl9
        obtain ⟨v10, vs, rfl, hl11⟩ := len_succ hl10
        obtain rfl := len_zero hl11
        have dd := hd 2 (by simp) _ rfl; simp only [List.getD_cons_zero, List.getD_cons_succ] at dd; obtain rfl := dd
        have dd := hd 8 (by simp) _ rfl; simp only [List.getD_cons_zero, List.getD_cons_succ] at dd; obtain rfl := dd
        clear hd hl hl1 hl2 hl3 hl4 hl5 hl6 hl7 hl8 hl9 hl10 hl11
        replace hK := hK.out
        simp only [puts, List.set_cons_zero, List.set_cons_succ, Act.put, List.setIfInBounds_toArray] at hK ⊢
        have hK' : Shut _ := hK
        clear hK
        go_simp
        (try go_wp2_with fail)
        exact hK'.out _ _ (Below.refl _ _) (hR) (fun D hD => by cases hD; exact congrArg Value.string HCAT.out)
      · refine ⟨[9], by decide, fun vs w hl hR hd K hK => ?_⟩
        obtain ⟨v0, vs, rfl, hl1⟩ := len_succ hl
        obtain ⟨v1, vs, rfl, hl2⟩ := len_succ hl1
        obtain ⟨v2, vs, rfl, hl3⟩ := len_succ hl2
        obtain ⟨v3, vs, rfl, hl4⟩ := len_succ hl3
        obtain ⟨v4, vs, rfl, hl5⟩ := len_succ hl4
        obtain ⟨v5, vs, rfl, hl6⟩ := len_succ hl5
        obtain ⟨v6, vs, rfl, hl7⟩ := len_succ hl6
        obtain ⟨v7, vs, rfl, hl8⟩ := len_succ hl7
        obtain ⟨v8, vs, rfl, hl9⟩ := len_succ hl8
        obtain ⟨v9, vs, rfl, hl10⟩ := len_succ hl9
        obtain ⟨v10, vs, rfl, hl11⟩ := len_succ hl10
        obtain rfl := len_zero hl11
        have dd := hd 9 (by simp) _ rfl; simp only [List.getD_cons_zero, List.getD_cons_succ] at dd; obtain rfl := dd
        clear hd hl hl1 hl2 hl3 hl4 hl5 hl6 hl7 hl8 hl9 hl10 hl11
        replace hK := hK.out
        simp only [puts, List.set_cons_zero, List.set_cons_succ, Act.put, List.setIfInBounds_toArray] at hK ⊢
        have hK' : Shut _ := hK
        clear hK
        go_simp
        (try go_wp2_with fail)
        exact hK'.out _ _ (Below.refl _ _) (hR) (fun D hD => by cases hD; rfl)
      · intro vs w4 hl hR hd
        obtain ⟨v0, vs, rfl, hl1⟩ := len_succ hl
        obtain ⟨v1, vs, rfl, hl2⟩ := len_succ hl1
        obtain ⟨v2, vs, rfl, hl3⟩ := len_succ hl2
        obtain ⟨v3, vs, rfl, hl4⟩ := len_succ hl3
        obtain ⟨v4, vs, rfl, hl5⟩ := len_succ hl4
        obtain ⟨v5, vs, rfl, hl6⟩ := len_succ hl5
        obtain ⟨v6, vs, rfl, hl7⟩ := len_succ hl6
        obtain ⟨v7, vs, rfl, hl8⟩ := len_succ hl7
        obtain ⟨v8, vs, rfl, hl9⟩ := len_succ hl8
        obtain ⟨v9, vs, rfl, hl10⟩ := len_succ hl9
        obtain ⟨v10, vs, rfl, hl11⟩ := len_succ hl10
        obtain rfl := len_zero hl11
        have dd := hd 10 _ rfl; simp only [List.getD_cons_zero, List.getD_cons_succ] at dd; obtain rfl := dd
        clear hd hl hl1 hl2 hl3 hl4 hl5 hl6 hl7 hl8 hl9 hl10 hl11
        simp only [puts, List.set_cons_zero, List.set_cons_succ, Act.put, List.setIfInBounds_toArray]
        go_wp2_with fail
        go_ret
        exact ⟨rfl, hR⟩
end Go.Proofs.YtfdododighjjpaaGreatDoor.Dy
