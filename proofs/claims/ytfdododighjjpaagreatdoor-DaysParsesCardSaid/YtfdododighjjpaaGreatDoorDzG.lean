/- Contracts: the reference's number. -/
import Derived.Test.YtfdododighjjpaaGreatDoorDzF
import Derived.WalkSpells
import Derived.WalkLawsBesides
namespace Go.Proofs.YtfdododighjjpaaGreatDoor.Dy
open Go.RowKit Go.PlainAid
set_option linter.unusedVariables false
set_option linter.unusedSimpArgs false
set_option maxHeartbeats 4000000
set_option maxRecDepth 20000

def stepD (a : Nat) (b : UInt8) : Nat := 10 * a + (b.toNat - 48)
def valD (l : List UInt8) : Nat := l.foldl stepD 0
theorem valD_snoc (l : List UInt8) (b : UInt8) : valD (l ++ [b]) = 10 * valD l + (b.toNat - 48) := by
  unfold valD; rw [List.foldl_append]; rfl
theorem fold_ge : ∀ (l : List UInt8) (a : Nat), a ≤ l.foldl stepD a
  | [], a => Nat.le_refl _
  | b :: l, a => by
    have := fold_ge l (stepD a b)
    rw [List.foldl_cons]
    unfold stepD at this ⊢
    omega
theorem valD_take (l : List UInt8) (k : Nat) : valD (l.take k) ≤ valD l := by
  have e : valD l = (l.drop k).foldl stepD (valD (l.take k)) := by
    unfold valD; rw [← List.foldl_append, List.take_append_drop]
  rw [e]; exact fold_ge _ _
theorem valD_dec (x : Nat) : valD (Lib.decDigits x) = x := by
  induction x using Nat.strongRecOn with
  | _ x ih =>
    by_cases h : x < 10
    · rw [Lib.decDigits_one h]
      show 10 * 0 + ((UInt8.ofNat (48 + x)).toNat - 48) = x
      rw [UInt8.toNat_ofNat']; omega
    · rw [dec_cut x h, valD_snoc, ih (x / 10) (by omega), UInt8.toNat_ofNat']
      omega
def NumR (x : List UInt8) (n : Int) (ok : Bool) : Prop :=
  (ok = true ∧ ∃ y : Nat, y ≤ 30000 ∧ n = y ∧ x = Lib.decDigits y) ∨ (ok = false ∧ ∀ y : Nat, y ≤ 30000 → x ≠ Lib.decDigits y)
theorem num_bad {x : List UInt8} {n : Int} {j : Nat} {b : UInt8} (h : x[j]? = some b) (hb : b.toNat < 48 ∨ 57 < b.toNat) : NumR x n false := by
  refine .inr ⟨rfl, fun y _ e => ?_⟩
  have := dec_digit y b (e ▸ List.mem_of_getElem? h)
  omega
theorem num_big {x : List UInt8} {n : Int} {j : Nat} (h : 30000 < valD (x.take j)) : NumR x n false := by
  refine .inr ⟨rfl, fun y hy e => ?_⟩
  have h1 := valD_take x j
  rw [e, valD_dec] at h1
  rw [e] at h
  omega
theorem num_yes {x : List UInt8} {v : Nat} (h : x = Lib.decDigits v) (hv : v ≤ 30000) : NumR x (v : Int) true := .inl ⟨rfl, v, hv, rfl, h⟩
theorem num_no {x : List UInt8} {v : Nat} {n : Int} (hv : v = valD x) (h : x ≠ Lib.decDigits v) : NumR x n false := by
  refine .inr ⟨rfl, fun y hy e => h ?_⟩
  have h1 : v = y := by rw [hv, e, valD_dec]
  rw [h1]; exact e
theorem num_over {x : List UInt8} {v : Nat} {n : Int} (hv : v = valD x) (h : 30000 < v) : NumR x n false := by
  refine .inr ⟨rfl, fun y hy e => ?_⟩
  have h1 : v = y := by rw [hv, e, valD_dec]
  omega
theorem bt_at {s : ByteArray} {j : Nat} (h : j < s.size) : ∃ b : UInt8, s.data.toList[j]? = some b ∧ bt s j = (b.toNat : Int) :=
  ⟨s[j], by rw [Array.getElem?_toList]; exact Array.getElem?_eq_getElem h, (get_bt s j h).symm⟩
theorem take_get {α : Type} {l : List α} {j : Nat} {b : α} (h : l[j]? = some b) : l.take (j + 1) = l.take j ++ [b] := take_snoc' h
def NumP (s : ByteArray) (w : World) (e : Ending) (w' : World) : Prop := ∃ n ok, e = .returned (.tuple #[.int .i64 n, .bool ok]) ∧ NumR s.data.toList n ok ∧ RowKit.Below w.heap.size w w'
set_option maxRecDepth 100000 in
theorem number_any (s : ByteArray) (hs : s.size ≤ 1000) (w : World) :
    Calls Tryz.prog 65 #[.string s] w (NumP s w) := by
  have hb := get_bt s
  go_enter Tryz.func65, Tryz.ntmps65
  go_wp2_with fail
  go_loop [4, 5] (fun v4 v5 => ∃ (j v : Nat), j ≤ s.size ∧ v5 = .int .i64 j ∧ v4 = .int .i64 v ∧ v ≤ 300009 ∧ Hid (v = valD (s.data.toList.take j))) (fun _ v => s.size - (intOf v).toNat)
  case atStart => exact ⟨0, 0, by omega, rfl, rfl, by omega, rfl⟩
  case round =>
    obtain ⟨j, v, hj, rfl, rfl, hv, HV⟩ := hrel
    have hj0 : (0 : Int) ≤ (j : Int) := Int.natCast_nonneg _
    by_cases hlt : j < s.size
    · have hj1 : (j : Int) < (s.size : Int) := by omega
      obtain ⟨b, hb1, hb2⟩ := bt_at hlt
      have HB1 := Lib.hid hb1
      have hc0 : 0 ≤ bt s j := bt_nonneg s j
      have hc1 : bt s j ≤ 255 := bt_le s j
      have HB2 := Lib.hid hb2
      clear hb1 hb2
      obtain ⟨c, hc⟩ : ∃ c, bt s j = c := ⟨_, rfl⟩
      have hbj := hb j hlt
      rw [hc] at hbj hc0 hc1
      have HB3 : Hid (c = (b.toNat : Int)) := by show _ = _; rw [← hc]; exact HB2.out
      clear hc HB2 hb
      obtain ⟨vi, hvi⟩ : ∃ vi : Int, (v : Int) = vi := ⟨_, rfl⟩
      have HVI := Lib.hid hvi
      have hv0 : 0 ≤ vi := by omega
      have hv1 : vi ≤ 300009 := by omega
      rw [hvi]
      clear hvi
      by_cases h1 : c < 48
      · have HR := Lib.hid (num_bad (n := 0) HB1.out (.inl (by have := HB3.out; omega)))
        go_wp2_with fail
        all_goals first | (exfalso; omega) | (go_returns; exact ⟨_, _, rfl, HR.out, RowKit.Below.refl _ _⟩)
      · by_cases h2 : 57 < c
        · have HR := Lib.hid (num_bad (n := 0) HB1.out (.inr (by have := HB3.out; omega)))
          go_wp2_with fail
          all_goals first | (exfalso; omega) | (go_returns; exact ⟨_, _, rfl, HR.out, RowKit.Below.refl _ _⟩)
        · by_cases h3 : 30000 < vi
          · have HR := Lib.hid (num_big (x := s.data.toList) (n := 0) (j := j) (by rw [← HV.out]; have := HVI.out; omega))
            go_wp2_with fail
            all_goals first | (exfalso; omega) | (go_returns; exact ⟨_, _, rfl, HR.out, RowKit.Below.refl _ _⟩)
          · have HS : Hid (∃ v' : Nat, 10 * vi + (c - 48) = v' ∧ v' ≤ 300009 ∧ v' = valD (s.data.toList.take (j + 1))) := by
              refine ⟨10 * v + (b.toNat - 48), ?_, ?_, ?_⟩
              · have := HVI.out; have := HB3.out; omega
              · have := HVI.out; have := HB3.out; omega
              · rw [take_get HB1.out, valD_snoc, HV.out]
            go_wp2_with fail
            all_goals first | (exfalso; omega) | skip
            go_round
            case rel =>
              obtain ⟨v', e1, e2, e3⟩ := HS.out
              exact ⟨j + 1, v', by omega, by go_num, by rw [← e1], e2, e3⟩
            case measure => simp [intOf]; omega
    · obtain rfl : j = s.size := by omega
      have HV2 : Hid (v = valD s.data.toList) := by
        have h := HV.out
        rwa [List.take_of_length_le (by rw [Array.length_toList]; exact Nat.le_refl _)] at h
      clear HV hb
      by_cases h3 : v ≤ 30000
      · obtain ⟨d, hd⟩ : ∃ d : ByteArray, ⟨(Lib.decDigits v).toArray⟩ = d := ⟨_, rfl⟩
        have HD := Lib.hid (fun W => hd ▸ refdig_any v (v : Int) W rfl h3)
        have HDD : Hid (d.data.toList = Lib.decDigits v) := by show _ = _; rw [← hd]
        clear hd
        by_cases hq : s = d
        · have ht : (s.toList == d.toList) = true := by rw [hq]; exact beq_self_eq_true _
          have HR := Lib.hid (num_yes (x := s.data.toList) (v := v) (by rw [hq]; exact HDD.out) h3)
          clear hq
          obtain ⟨vi, hvi⟩ : ∃ vi : Int, (v : Int) = vi := ⟨_, rfl⟩
          have hv1 : vi ≤ 30000 := by omega
          rw [hvi] at HD HR ⊢
          clear hvi h3
          go_wp2_with (go_at_call 44; (with_reducible refine (HD.out _).mono ?_); rintro e w3 ⟨rfl, hb3⟩)
          all_goals first | (exfalso; omega) | (go_returns; exact ⟨_, _, rfl, HR.out, hb3⟩)
        · have ht : (s.toList == d.toList) = false := ne_list hq
          have HR := Lib.hid (num_no (x := s.data.toList) (v := v) (n := (v : Int)) HV2.out (fun e => hq (by apply ByteArray.ext; rw [← Array.toList_inj, e, HDD.out])))
          clear hq
          obtain ⟨vi, hvi⟩ : ∃ vi : Int, (v : Int) = vi := ⟨_, rfl⟩
          have hv1 : vi ≤ 30000 := by omega
          rw [hvi] at HD HR ⊢
          clear hvi h3
          go_wp2_with (go_at_call 44; (with_reducible refine (HD.out _).mono ?_); rintro e w3 ⟨rfl, hb3⟩)
          all_goals first | (exfalso; omega) | (go_returns; exact ⟨_, _, rfl, HR.out, hb3⟩)
      · have HR := Lib.hid (num_over (x := s.data.toList) (v := v) (n := (v : Int)) HV2.out (by omega))
        obtain ⟨vi, hvi⟩ : ∃ vi : Int, (v : Int) = vi := ⟨_, rfl⟩
        have hv1 : ¬ vi ≤ 30000 := by omega
        rw [hvi] at HR ⊢
        clear hvi h3
        go_wp2_with fail
        all_goals first | (exfalso; omega) | (go_returns; exact ⟨_, _, rfl, HR.out, RowKit.Below.refl _ _⟩)
end Go.Proofs.YtfdododighjjpaaGreatDoor.Dy
