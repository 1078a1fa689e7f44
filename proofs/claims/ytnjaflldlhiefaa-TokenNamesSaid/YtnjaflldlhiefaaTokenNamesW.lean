/- The walk of TokenNames: it returns true. -/
import Derived.Test.YtnjaflldlhiefaaTkPl
import Derived.Test.YtnjaflldlhiefaaTkNr
import Derived.Test.YtnjaflldlhiefaaTkL
import Derived.Test.YtnjaflldlhiefaaTkZ
import Derived.Outline
namespace Go.Proofs.Ytnjaflldlhiefaa
open Go.RowKit Go.PlainAid
set_option linter.unusedVariables false
set_option linter.unusedSimpArgs false
set_option maxHeartbeats 4000000

theorem mkx (x : ByteArray) : (⟨x.data.toList.toArray⟩ : ByteArray) = x := by cases x; simp
theorem ba_neq {x : ByteArray} {l : List UInt8} (h : l ≠ x.data.toList) : ((⟨l.toArray⟩ : ByteArray).toList == x.toList) = false := by
  apply Bool.eq_false_iff.2
  intro e
  exact h (by rw [← ba_eq e])

theorem scanP_pos_of {s : ByteArray} (h : (scanP s.data.toList).1.length = 2) : ∃ t u, (scanP s.data.toList).1 = [t, u] := by
  match hx : (scanP s.data.toList).1, h with
  | [t, u], _ => exact ⟨t, u, rfl⟩
theorem scan_two (x : ByteArray) (w : World) (hs : x.size ≤ 16) (t u : Tok) (o : Nat) (h : scanP x.data.toList = ([t, u], o, 0)) :
    Calls Try.prog 12 #[.string x] w fun e w' => ∃ g cap, e = .returned (.tuple #[.slice (some ⟨g, 0, none⟩) 2 cap, .int .i64 o, .int .i64 0]) ∧ Below w.heap.size w w' ∧ Hid (Sl w' (.slice (some ⟨g, 0, none⟩) 2 cap) 2 4 (flatP [t, u])) ∧
      w'.cell? ⟨g, 0, none⟩ = some (.int .u8 t.kind) ∧ w'.cell? ⟨g, 1, none⟩ = some (.string ⟨t.text.toArray⟩) := by
  refine (scan_any x w (by omega)).mono ?_
  rintro e w' ⟨v, rfl, hb, ho⟩
  rw [h] at ho ⊢
  have hsl := Sl.owned ho
  obtain ⟨_, ⟨_, hn⟩ | ⟨g, cap, cur, hv, _, hh, hc, _⟩⟩ := id ho
  · simp at hn
  subst hv
  obtain ⟨_, a, cap', he, _, _, h0 | ⟨b, o', ha, _, hcell⟩⟩ := id hsl
  · simp at h0
  · obtain ⟨rfl, -⟩ : a = some ⟨g, 0, none⟩ ∧ True := ⟨by injection he with h1; exact h1.symm, trivial⟩
    injection ha with ha
    injection ha with h1 h2
    subst h1; subst h2
    exact ⟨g, cap, rfl, hb, hsl, by have := hcell 0 (by simp); simpa [flatP, tokV] using this, by have := hcell 1 (by simp); simpa [flatP, tokV] using this⟩
theorem scan_len (x : ByteArray) (w : World) (hs : x.size ≤ 16) (n o : Nat) (h0 : (scanP x.data.toList).2.2 = 0) (hn : (scanP x.data.toList).1.length = n) (hoo : (scanP x.data.toList).2.1 = o) :
    Calls Try.prog 12 #[.string x] w fun e w' => ∃ a cap, e = .returned (.tuple #[.slice a n cap, .int .i64 o, .int .i64 0]) ∧ Below w.heap.size w w' := by
  refine (scan_any x w (by omega)).mono ?_
  rintro e w' ⟨v, rfl, hb, ho⟩
  obtain ⟨_, a, cap, rfl, _⟩ := Sl.owned ho
  exact ⟨a, cap, by rw [h0, hn, hoo]; rfl, hb⟩
theorem scan_no (x : ByteArray) (w : World) (hs : x.size ≤ 16) (o c : Nat) (hc : (scanP x.data.toList).2.2 = c) (hoo : (scanP x.data.toList).2.1 = o) :
    Calls Try.prog 12 #[.string x] w fun e w' => ∃ v, e = .returned (.tuple #[v, .int .i64 o, .int .i64 c]) ∧ Below w.heap.size w w' := by
  refine (scan_any x w (by omega)).mono ?_
  rintro e w' ⟨v, rfl, hb, ho⟩
  exact ⟨v, by rw [hc, hoo], hb⟩
theorem name_one (x : ByteArray) (w : World) (g z B n c p : Nat) (y : ByteArray) (u : Tok) (h : Rd tokV w g z [⟨1, x.data.toList, n, 0⟩, u] 0 0 0) (hB : B ≤ g) (hw : B ≤ w.heap.size) (hc : naC ⟨1, x.data.toList, n, 0⟩ = c) (hy : (if c = 0 then x else ⟨#[]⟩) = y) (hp : (if c = 0 then 1 else 0) = p) :
    Calls Try.prog 26 #[.pointer (some ⟨g, 0, none⟩)] w fun en w' => en = .returned (.string y) ∧ Below B w w' ∧ Hid (Rd tokV w' g z [⟨1, x.data.toList, n, 0⟩, u] p 0 c) := by
  refine (name_any w g z _ 0 0 0 h (Nat.zero_le _)).mono ?_
  rintro en w' ⟨rfl, hg, hr⟩
  have hpk : pkF [⟨1, x.data.toList, n, 0⟩, u] 0 0 = ⟨1, x.data.toList, n, 0⟩ := rfl
  unfold naP naO naE at hr
  unfold naV
  rw [hpk, hc] at hr ⊢
  rw [mkx]
  refine ⟨by rw [hy], (Below.refl B w).grown hg hw (fun b hb => by cases hb; exact hB), ?_⟩
  have h1 : (if c = 0 then (0 : Nat) else foF [⟨1, x.data.toList, n, 0⟩, u] 0 0 0 c) = 0 := by
    split
    · rfl
    · unfold foF offF; simp
  have h2 : (if c = 0 then (0 : Nat) else feF 0 c) = c := by
    split
    · omega
    · unfold feF; simp
  rw [h1, h2, Nat.zero_add, hp] at hr
  exact hr
def NmRel (w : World) (q : Nat) (x0 x1 : ByteArray) (v : Value) (wr : World) : Prop :=
  ∃ j : Nat, j ≤ 2 ∧ v = .int .i64 j ∧ Below w.heap.size w wr ∧ q < wr.heap.size ∧ wr.cell? ⟨q, 0, none⟩ = some (.string x0) ∧ wr.cell? ⟨q, 1, none⟩ = some (.string x1)
theorem NmRel.next {w wr w' : World} {q j : Nat} {x0 x1 : ByteArray} {v : Value} (hj : j < 2) (hv : v = .int .i64 (↑j + 1)) (hb : Below w.heap.size w wr) (hq : q < wr.heap.size) (h0 : Hid (wr.cell? ⟨q, 0, none⟩ = some (.string x0))) (h1 : Hid (wr.cell? ⟨q, 1, none⟩ = some (.string x1))) (hb2 : Below wr.heap.size wr w') : NmRel w q x0 x1 v w' :=
  ⟨j + 1, by omega, by rw [hv]; rfl, hb.trans (hb2.mono hb.size), Nat.lt_of_lt_of_le hq hb2.size, (hb2.cell (p := ⟨q, 0, none⟩) hq).trans h0.out, (hb2.cell (p := ⟨q, 1, none⟩) hq).trans h1.out⟩

set_option maxRecDepth 100000 in
theorem tokenNames_walk (n : Int) (s : ByteArray) (w : World) (h0 : 0 ≤ n) (h1 : n ≤ 255) (hs : s.size ≤ 9223372036854775807) :
    Calls Try.prog 6 #[.int .u8 n, .string s] w fun e w' => e = .returned (.bool true) ∧ Below w.heap.size w w' := by
  obtain ⟨x1, hx⟩ : ∃ x1, x1 = s.extract 0 (min (s.size : Int) 16).toNat := ⟨_, rfl⟩
  have hx1 : x1.size ≤ 16 := by rw [hx]; simp; omega
  have HX := Lib.hid hx
  clear hx
  have hm1 : (0 : Int) ≤ min (s.size : Int) 16 := by omega
  have hm2 : min (s.size : Int) 16 ≤ s.size := by omega
  go_enter Try.func6, Try.ntmps6
  go_wp2_with fail
  refine (awake_any _).mono ?_
  rintro e w1 ⟨rfl, hb1⟩
  go_wp2_with fail
  go_region_held3 (fun w' => True) (trivial) (first | (go_at_call 21; refine (word_any _ _ h0 h1).mono ?_; rintro e w2 ⟨⟨x0, rfl, hx0⟩, hb2⟩))
  all_goals
    rw [← HX.out]
    replace hb2 := hb1.trans ((below_drewN (Below.refl _ _) 1).trans (hb2.mono hb1.size))
    have hz2 := hb2.size
    clear hm1 hm2
    go_wp2_with fail
    go_loopw [26] (fun v wr => NmRel w w2.heap.size x0 x1 v wr) (fun v _ => 2 - (intOf v).toNat)
    case atStart => exact ⟨0, by omega, rfl, hb2.alloc hz2 _, by simp, by simp, by simp⟩
    case round =>
      obtain ⟨j, hj, rfl, hbr, hzr, q0, q1⟩ := hrel
      by_cases hj2 : j < 2
      · have hj3 : (j : Int) < 2 := by omega
        obtain ⟨x, hc, hxs⟩ : ∃ x, wr.cell? ⟨w2.heap.size, j, none⟩ = some (.string x) ∧ x.size ≤ 16 := by
          rcases (by omega : j = 0 ∨ j = 1) with rfl | rfl
          · exact ⟨x0, q0, hx0⟩
          · exact ⟨x1, q1, hx1⟩
        have Q0 := Lib.hid q0
        have Q1 := Lib.hid q1
        clear q0 q1 hx0 hx1
        by_cases ho : oneW x.data.toList
        · obtain ⟨o1, o2, o3, o4⟩ := id ho
          obtain ⟨t, u, htu⟩ := scanP_pos_of o2
          have o5 := oneW_pos ho
          rw [htu] at o3 o4 o5
          obtain ⟨kd, tx, nn, ps⟩ := t
          simp only [List.getD_cons_zero] at o3 o4 o5
          subst o3; subst o4; subst o5
          obtain ⟨oo, hoo⟩ : ∃ oo, (scanP x.data.toList).2.1 = oo := ⟨_, rfl⟩
          have hS := Lib.hid (show scanP x.data.toList = ([⟨1, x.data.toList, nn, 0⟩, u], oo, 0) by rw [← htu, ← hoo, ← o1])
          clear o1 o2 htu hoo ho
          have hK : Hid (naC ⟨1, x.data.toList, nn, 0⟩ = if kwB x then 8 else if validB x then 0 else 9) := by
            show _ = _
            unfold naC
            simp only [mkx, true_and]
            cases kwB x <;> simp
          cases hk : kwB x
          · cases hv : validB x
            · have HK := Lib.hid hk
              have HV := Lib.hid hv
              have HN := Lib.hid (show naC ⟨1, x.data.toList, nn, 0⟩ = 9 by rw [hK.out, hk, hv]; rfl)
              clear hk hv hK
              go_wp2_with fail
              refine (scan_two x _ hxs _ _ _ hS.out).mono ?_
              rintro e w3 ⟨g, cap, rfl, hb3, hsl, c0, c1⟩
              rw [mkx] at c1
              go_wp2_with fail
              refine (newreader_any _ 2 _ _ hsl.out rfl (by omega)).mono ?_
              rintro e w4 ⟨g4, rfl, hb4, hg4, hl4, hr4⟩
              replace hr4 := Lib.hid (hr4 w4.heap.size (.inr (Nat.le_refl _)))
              clear c0 c1
              replace hb4 := hb3.trans (hb4.mono hb3.size)
              have hz3 := hb3.size
              go_wp2_with fail
              refine (name_one x _ g4 _ wr.heap.size nn 9 0 ⟨#[]⟩ u hr4.out (by omega) (by omega) HN.out rfl rfl).mono ?_
              rintro e w5 ⟨rfl, hb5, hr5⟩
              replace hb5 := hb4.trans hb5
              go_wp2_with fail
              refine (err_any tokV _ g4 _ _ _ _ _ hr5.out).mono ?_
              rintro e w6 ⟨rfl, hb6⟩
              replace hb6 := hb5.trans (hb6.mono hb5.size)
              go_wp2_with (first | (go_at_call 24; refine (keywords_any _).mono ?_; rintro en w7 ⟨b, rfl, hb7, hbl, hbr7, hcs⟩; replace hcs := Lib.hid hcs; replace hb7 := hb6.trans (hb7.mono hb6.size)) | (go_at_call 23; refine (contains_kw _ _ _ hcs.out).mono ?_; rintro en w8 ⟨rfl, rfl⟩; rw [HK.out]) | (go_at_call 22; refine (valid_any _ _).mono ?_; rintro en w9 ⟨rfl, hb9⟩; rw [HV.out]; replace hb9 := hb7.trans (hb9.mono hb7.size)))
              go_roundw
              case rel => exact NmRel.next hj2 rfl hbr hzr Q0 Q1 hb9
              case measure => simp [intOf]; omega
            · have HK := Lib.hid hk
              have HV := Lib.hid hv
              have HN := Lib.hid (show naC ⟨1, x.data.toList, nn, 0⟩ = 0 by rw [hK.out, hk, hv]; rfl)
              clear hk hv hK
              go_wp2_with fail
              refine (scan_two x _ hxs _ _ _ hS.out).mono ?_
              rintro e w3 ⟨g, cap, rfl, hb3, hsl, c0, c1⟩
              rw [mkx] at c1
              go_wp2_with fail
              refine (newreader_any _ 2 _ _ hsl.out rfl (by omega)).mono ?_
              rintro e w4 ⟨g4, rfl, hb4, hg4, hl4, hr4⟩
              replace hr4 := Lib.hid (hr4 w4.heap.size (.inr (Nat.le_refl _)))
              clear c0 c1
              replace hb4 := hb3.trans (hb4.mono hb3.size)
              have hz3 := hb3.size
              go_wp2_with fail
              refine (name_one x _ g4 _ wr.heap.size nn 0 1 x u hr4.out (by omega) (by omega) HN.out rfl rfl).mono ?_
              rintro e w5 ⟨rfl, hb5, hr5⟩
              replace hb5 := hb4.trans hb5
              go_wp2_with fail
              refine (err_any tokV _ g4 _ _ _ _ _ hr5.out).mono ?_
              rintro e w6 ⟨rfl, hb6⟩
              replace hb6 := hb5.trans (hb6.mono hb5.size)
              go_wp2_with (first | (go_at_call 24; refine (keywords_any _).mono ?_; rintro en w7 ⟨b, rfl, hb7, hbl, hbr7, hcs⟩; replace hcs := Lib.hid hcs; replace hb7 := hb6.trans (hb7.mono hb6.size)) | (go_at_call 23; refine (contains_kw _ _ _ hcs.out).mono ?_; rintro en w8 ⟨rfl, rfl⟩; rw [HK.out]) | (go_at_call 22; refine (valid_any _ _).mono ?_; rintro en w9 ⟨rfl, hb9⟩; rw [HV.out]; replace hb9 := hb7.trans (hb9.mono hb7.size)))
              go_roundw
              case rel => exact NmRel.next hj2 rfl hbr hzr Q0 Q1 hb9
              case measure => simp [intOf]; omega
          · have HK := Lib.hid hk
            have HN := Lib.hid (show naC ⟨1, x.data.toList, nn, 0⟩ = 8 by rw [hK.out, hk]; rfl)
            clear hk hK
            go_wp2_with fail
            refine (scan_two x _ hxs _ _ _ hS.out).mono ?_
            rintro e w3 ⟨g, cap, rfl, hb3, hsl, c0, c1⟩
            rw [mkx] at c1
            go_wp2_with fail
            refine (newreader_any _ 2 _ _ hsl.out rfl (by omega)).mono ?_
            rintro e w4 ⟨g4, rfl, hb4, hg4, hl4, hr4⟩
            replace hr4 := Lib.hid (hr4 w4.heap.size (.inr (Nat.le_refl _)))
            clear c0 c1
            replace hb4 := hb3.trans (hb4.mono hb3.size)
            have hz3 := hb3.size
            go_wp2_with fail
            refine (name_one x _ g4 _ wr.heap.size nn 8 0 ⟨#[]⟩ u hr4.out (by omega) (by omega) HN.out rfl rfl).mono ?_
            rintro e w5 ⟨rfl, hb5, hr5⟩
            replace hb5 := hb4.trans hb5
            go_wp2_with fail
            refine (err_any tokV _ g4 _ _ _ _ _ hr5.out).mono ?_
            rintro e w6 ⟨rfl, hb6⟩
            replace hb6 := hb5.trans (hb6.mono hb5.size)
            go_wp2_with (first | (go_at_call 24; refine (keywords_any _).mono ?_; rintro en w7 ⟨b, rfl, hb7, hbl, hbr7, hcs⟩; replace hcs := Lib.hid hcs; replace hb7 := hb6.trans (hb7.mono hb6.size)) | (go_at_call 23; refine (contains_kw _ _ _ hcs.out).mono ?_; rintro en w8 ⟨rfl, rfl⟩; rw [HK.out]))
            go_roundw
            case rel => exact NmRel.next hj2 rfl hbr hzr Q0 Q1 hb7
            case measure => simp [intOf]; omega
        · obtain ⟨hv, hk⟩ := oneW_no ho
          have HV := Lib.hid hv
          have HK := Lib.hid hk
          clear hv hk
          obtain ⟨oo, hoo⟩ : ∃ oo, (scanP x.data.toList).2.1 = oo := ⟨_, rfl⟩
          obtain ⟨ee, hee⟩ : ∃ ee, (scanP x.data.toList).2.2 = ee := ⟨_, rfl⟩
          obtain ⟨m, hm⟩ : ∃ m, (scanP x.data.toList).1.length = m := ⟨_, rfl⟩
          by_cases he : ee = 0
          · by_cases hm2 : m = 2
            · obtain ⟨t, u, htu⟩ := scanP_pos_of (hm.trans hm2)
              have hS := Lib.hid (show scanP x.data.toList = ([t, u], oo, 0) by rw [← htu, ← hoo, ← he, ← hee])
              by_cases htx : t.text = x.data.toList
              · have hkd : t.kind ≠ 1 := fun hk1 => ho (by
                  unfold oneW; rw [hS.out]; exact ⟨rfl, rfl, htx, hk1⟩)
                obtain ⟨kd, tx, nn, ps⟩ := t
                dsimp only at htx hkd
                subst htx
                have k1 : ((kd : Int) == 1) = false := beq_eq_false_iff_ne.2 (by omega)
                have k2 : ((kd : Int) != 1) = true := by rw [bne, k1]; rfl
                clear hkd hm2 he ho hoo hee hm htu
                go_wp2_with fail
                refine (scan_two x _ hxs _ _ _ hS.out).mono ?_
                rintro e w3 ⟨g, cap, rfl, hb3, hsl, c0, c1⟩
                rw [mkx] at c1
                dsimp only at c0 c1
                go_wp2_with (first | (go_at_call 24; refine (keywords_any _).mono ?_; rintro en w7 ⟨b, rfl, hb7, hbl, hbr7, hcs⟩; replace hcs := Lib.hid hcs; replace hb7 := hb9.trans (hb7.mono hb9.size)) | (go_at_call 23; refine (contains_kw _ _ _ hcs.out).mono ?_; rintro en w8 ⟨rfl, rfl⟩; rw [HK.out]) | (go_at_call 22; refine (valid_any _ _).mono ?_; rintro en w9 ⟨rfl, hb9⟩; rw [HV.out]; replace hb9 := hb3.trans (hb9.mono hb3.size)))
                go_roundw
                case rel => exact NmRel.next hj2 rfl hbr hzr Q0 Q1 hb7
                case measure => simp [intOf]; omega
              · have k1 := ba_neq htx
                have k2 : ((⟨t.text.toArray⟩ : ByteArray).toList != x.toList) = true := by rw [bne, k1]; rfl
                obtain ⟨y, hy⟩ : ∃ y : ByteArray, y = ⟨t.text.toArray⟩ := ⟨_, rfl⟩
                rw [← hy] at k1 k2
                have HY := Lib.hid hy
                clear hm2 he ho hoo hee hm htu htx hy
                go_wp2_with fail
                refine (scan_two x _ hxs _ _ _ hS.out).mono ?_
                rintro e w3 ⟨g, cap, rfl, hb3, hsl, c0, c1⟩
                rw [← HY.out] at c1
                go_wp2_with (first | (go_at_call 24; refine (keywords_any _).mono ?_; rintro en w7 ⟨b, rfl, hb7, hbl, hbr7, hcs⟩; replace hcs := Lib.hid hcs; replace hb7 := hb9.trans (hb7.mono hb9.size)) | (go_at_call 23; refine (contains_kw _ _ _ hcs.out).mono ?_; rintro en w8 ⟨rfl, rfl⟩; rw [HK.out]) | (go_at_call 22; refine (valid_any _ _).mono ?_; rintro en w9 ⟨rfl, hb9⟩; rw [HV.out]; replace hb9 := hb3.trans (hb9.mono hb3.size)))
                go_roundw
                case rel => exact NmRel.next hj2 rfl hbr hzr Q0 Q1 hb7
                case measure => simp [intOf]; omega
            · subst he
              have k1 : ((m : Int) == 2) = false := beq_eq_false_iff_ne.2 (by omega)
              have k2 : ((m : Int) != 2) = true := by rw [bne, k1]; rfl
              have hC := Lib.hid (fun w => scan_len x w hxs m oo hee hm hoo)
              clear hm2 ho hoo hee hm
              go_wp2_with fail
              refine (hC.out _).mono ?_
              rintro e w3 ⟨a, cap, rfl, hb3⟩
              go_wp2_with (first | (go_at_call 24; refine (keywords_any _).mono ?_; rintro en w7 ⟨b, rfl, hb7, hbl, hbr7, hcs⟩; replace hcs := Lib.hid hcs; replace hb7 := hb9.trans (hb7.mono hb9.size)) | (go_at_call 23; refine (contains_kw _ _ _ hcs.out).mono ?_; rintro en w8 ⟨rfl, rfl⟩; rw [HK.out]) | (go_at_call 22; refine (valid_any _ _).mono ?_; rintro en w9 ⟨rfl, hb9⟩; rw [HV.out]; replace hb9 := hb3.trans (hb9.mono hb3.size)))
              go_roundw
              case rel => exact NmRel.next hj2 rfl hbr hzr Q0 Q1 hb7
              case measure => simp [intOf]; omega
          · have k1 : ((ee : Int) == 0) = false := beq_eq_false_iff_ne.2 (by omega)
            have k2 : ((ee : Int) != 0) = true := by rw [bne, k1]; rfl
            have hC := Lib.hid (fun w => scan_no x w hxs oo ee hee hoo)
            clear ho hoo hee hm he
            go_wp2_with fail
            refine (hC.out _).mono ?_
            rintro e w3 ⟨v, rfl, hb3⟩
            go_wp2_with (first | (go_at_call 24; refine (keywords_any _).mono ?_; rintro en w7 ⟨b, rfl, hb7, hbl, hbr7, hcs⟩; replace hcs := Lib.hid hcs; replace hb7 := hb9.trans (hb7.mono hb9.size)) | (go_at_call 23; refine (contains_kw _ _ _ hcs.out).mono ?_; rintro en w8 ⟨rfl, rfl⟩; rw [HK.out]) | (go_at_call 22; refine (valid_any _ _).mono ?_; rintro en w9 ⟨rfl, hb9⟩; rw [HV.out]; replace hb9 := hb3.trans (hb9.mono hb3.size)))
            go_roundw
            case rel => exact NmRel.next hj2 rfl hbr hzr Q0 Q1 hb7
            case measure => simp [intOf]; omega
      · obtain rfl : j = 2 := by omega
        go_wp2_with fail
        go_returns
        exact ⟨rfl, hbr⟩
end Go.Proofs.Ytnjaflldlhiefaa
