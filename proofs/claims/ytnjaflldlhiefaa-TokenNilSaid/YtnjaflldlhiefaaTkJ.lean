/- Contracts of the law's small functions: cut, told, same. -/
import Derived.Test.YtnjaflldlhiefaaTkSpec
import Derived.Test.YtnjaflldlhiefaaMem
import Derived.Test.YtnjaflldlhiefaaProg
import Derived.BigGuardPart
import Derived.WalkSpells
import Derived.WalkLawsBesides
import Derived.Deep.RegionHeld3
namespace Go.Proofs.Ytnjaflldlhiefaa
open Go.RowKit Go.PlainAid
set_option linter.unusedVariables false
set_option maxHeartbeats 400000

theorem cut_any (s : ByteArray) (w : World) (hs : s.size ≤ 9223372036854775807) :
    Calls Try.prog 11 #[.string s] w fun e w' => e = .returned (.string (s.extract 0 400)) ∧ w = w' := by
  go_enter Try.func11, Try.ntmps11
  go_wp2
  · go_ret
    exact ⟨rfl, rfl⟩
  · go_ret
    have hx : s.extract 0 400 = s := by
      rw [str_eq (ext_list s 0 400), List.drop_zero, List.take_of_length_le (by show s.size ≤ 400 - 0; omega)]
    exact ⟨by rw [hx]; rfl, rfl⟩

theorem flat_get (f : Tok → List Value) (hf : ∀ t, (f t).length = 4) : ∀ (l : List Tok) (j c : Nat) (t : Tok), l[j]? = some t → c < 4 → (l.flatMap f).getD (j * 4 + c) undef = (f t).getD c undef
  | [], j, c, t, h, _ => by simp at h
  | x :: l, 0, c, t, h, hc => by
    simp at h
    subst h
    rw [List.flatMap_cons, List.getD_eq_getElem?_getD, List.getElem?_append_left (by rw [hf]; omega)]
    simp
  | x :: l, j + 1, c, t, h, hc => by
    rw [List.flatMap_cons, List.getD_eq_getElem?_getD, List.getElem?_append_right (by rw [hf]; omega), hf, ← List.getD_eq_getElem?_getD]
    rw [show (j + 1) * 4 + c - 4 = j * 4 + c from by omega]
    exact flat_get f hf l j c t (by simpa using h) hc
/-- The cells of token j of the program. -/
theorem tokP_cells {w : World} {b o n : Nat} {ts : List Tok} (h : ∀ j, j < n * 4 → w.cell? ⟨b, o + j, none⟩ = some ((flatP ts).getD j undef)) (j : Nat) (t : Tok) (hj : j < n) (ht : ts[j]? = some t) :
    w.cell? ⟨b, o + j * 4, none⟩ = some (.int .u8 t.kind) ∧ w.cell? ⟨b, o + j * 4 + 1, none⟩ = some (.string ⟨t.text.toArray⟩) ∧ w.cell? ⟨b, o + j * 4 + 2, none⟩ = some (.int .i64 t.n) ∧ w.cell? ⟨b, o + j * 4 + 3, none⟩ = some (.int .i64 t.pos) := by
  have hf : ∀ t, (tokV t).length = 4 := fun _ => rfl
  have g := fun c hc => flat_get tokV hf ts j c t ht hc
  refine ⟨?_, ?_, ?_, ?_⟩
  · rw [h (j * 4) (by omega)]; exact congrArg _ (g 0 (by omega))
  · rw [Nat.add_assoc, h (j * 4 + 1) (by omega)]; exact congrArg _ (g 1 (by omega))
  · rw [Nat.add_assoc, h (j * 4 + 2) (by omega)]; exact congrArg _ (g 2 (by omega))
  · rw [Nat.add_assoc, h (j * 4 + 3) (by omega)]; exact congrArg _ (g 3 (by omega))
theorem tokR_cells {w : World} {b o n : Nat} {ts : List Tok} (h : ∀ j, j < n * 4 → w.cell? ⟨b, o + j, none⟩ = some ((flatR ts).getD j undef)) (j : Nat) (t : Tok) (hj : j < n) (ht : ts[j]? = some t) :
    w.cell? ⟨b, o + j * 4, none⟩ = some (.int .i64 t.kind) ∧ w.cell? ⟨b, o + j * 4 + 1, none⟩ = some (.string ⟨t.text.toArray⟩) ∧ w.cell? ⟨b, o + j * 4 + 2, none⟩ = some (.int .i64 t.n) ∧ w.cell? ⟨b, o + j * 4 + 3, none⟩ = some (.int .i64 t.pos) := by
  have hf : ∀ t, (tokW t).length = 4 := fun _ => rfl
  have g := fun c hc => flat_get tokW hf ts j c t ht hc
  refine ⟨?_, ?_, ?_, ?_⟩
  · rw [h (j * 4) (by omega)]; exact congrArg _ (g 0 (by omega))
  · rw [Nat.add_assoc, h (j * 4 + 1) (by omega)]; exact congrArg _ (g 1 (by omega))
  · rw [Nat.add_assoc, h (j * 4 + 2) (by omega)]; exact congrArg _ (g 2 (by omega))
  · rw [Nat.add_assoc, h (j * 4 + 3) (by omega)]; exact congrArg _ (g 3 (by omega))

theorem told_any (k n p : Int) (t : ByteArray) (w : World) (hk : 0 ≤ k) (hk1 : k ≤ 255) :
    Calls Try.prog 16 #[.agg #[.int .u8 k, .string t, .int .i64 n, .int .i64 p]] w fun e w' => e = .returned (.agg #[.int .i64 k, .string t, .int .i64 n, .int .i64 p]) ∧
      (w.alloc (.cells #[.int .u8 k, .string t, .int .i64 n, .int .i64 p] 36)).alloc (.cells #[.int .i64 k, .string t, .int .i64 n, .int .i64 p] 38) = w' := by
  go_enter Try.func16, Try.ntmps16
  go_wp2
  go_returns
  exact ⟨rfl, rfl⟩

theorem take_step {ts us : List Tok} {j : Nat} {t u : Tok} (h : ts.take j = us.take j) (ht : ts[j]? = some t) (hu : us[j]? = some u) (e : t = u) : ts.take (j + 1) = us.take (j + 1) := by
  rw [List.take_add_one, List.take_add_one, ht, hu, h, e]
theorem tok_split (t u : Tok) : t = u ∨ (((t.kind : Int) == u.kind) = false) ∨ (t.kind = u.kind ∧ (((⟨t.text.toArray⟩ : ByteArray).toList == (⟨u.text.toArray⟩ : ByteArray).toList) = false)) ∨
    (t.kind = u.kind ∧ t.text = u.text ∧ (((t.n : Int) == u.n) = false)) ∨ (t.kind = u.kind ∧ t.text = u.text ∧ t.n = u.n ∧ (((t.pos : Int) == u.pos) = false)) := by
  obtain ⟨k, x, n, p⟩ := t
  obtain ⟨k', x', n', p'⟩ := u
  simp only [Tok.mk.injEq]
  by_cases h1 : k = k'
  · by_cases h2 : x = x'
    · by_cases h3 : n = n'
      · by_cases h4 : p = p'
        · exact .inl ⟨h1, h2, h3, h4⟩
        · exact .inr (.inr (.inr (.inr ⟨h1, h2, h3, by simp; omega⟩)))
      · exact .inr (.inr (.inr (.inl ⟨h1, h2, by simp; omega⟩)))
    · exact .inr (.inr (.inl ⟨h1, by rw [Lib.toList_data, Lib.toList_data]; simpa using h2⟩))
  · exact .inr (.inl (by simp; omega))

theorem same_any (va vb : Value) (n m : Nat) (ts us : List Tok) (w : World) (ha : Sl w va n 4 (flatP ts)) (hb : Sl w vb m 4 (flatR us)) (hn : ts.length = n) (hm : us.length = m) (hkd : ∀ t ∈ ts, t.kind ≤ 255) :
    Calls Try.prog 14 #[va, vb] w fun e w' => e = .returned (.bool (decide (ts = us))) ∧ Below w.heap.size w w' := by
  obtain ⟨ha1, a, ca, rfl, hac, ham, ha2⟩ := ha
  obtain ⟨hb1, b, cb, rfl, hbc, hbm, hb2⟩ := hb
  unfold maxLen at ham hbm
  by_cases hnm : n = m
  · subst hnm
    by_cases h0 : n = 0
    · subst h0
      have e1 : ts = [] := List.eq_nil_of_length_eq_zero hn
      have e2 : us = [] := List.eq_nil_of_length_eq_zero hm
      have HE : Hid (decide (ts = us) = true) := by rw [e1, e2]; rfl
      clear e1 e2 ha2 hb2 hn hm
      go_enter Try.func14, Try.ntmps14
      go_wp2_with fail
      go_loop [14] (fun v => v = .int .i64 0) (fun _ => 0)
      case atStart => rfl
      case round =>
        obtain rfl := hrel
        go_wp2_with fail
        go_ret
        exact ⟨ret_bool HE.out.symm, Below.refl _ _⟩
    · rcases ha2 with ha2 | ⟨ba, oa, rfl, hba, hca⟩
      · exact absurd ha2 h0
      rcases hb2 with hb2 | ⟨bb, ob, rfl, hbb, hcb⟩
      · exact absurd hb2 h0
      have HA := Lib.hid hca
      have HB := Lib.hid hcb
      clear hca hcb
      go_enter Try.func14, Try.ntmps14
      go_wp2_with fail
      go_loopw [14] (fun v wr => ∃ j : Nat, j ≤ n ∧ v = .int .i64 j ∧ Below w.heap.size w wr ∧ Hid (ts.take j = us.take j)) (fun v _ => n - (intOf v).toNat)
      case atStart => exact ⟨0, by omega, rfl, Below.refl _ _, rfl⟩
      case round =>
        obtain ⟨j, hj, rfl, hbel, htk⟩ := hrel
        by_cases hjn : j < n
        · obtain ⟨t, ht⟩ : ∃ t, ts[j]? = some t := ⟨_, List.getElem?_eq_getElem (by omega)⟩
          obtain ⟨u, hu⟩ : ∃ u, us[j]? = some u := ⟨_, List.getElem?_eq_getElem (by omega)⟩
          have hA : ∀ i, wr.cell? ⟨ba, i, none⟩ = w.cell? ⟨ba, i, none⟩ := fun i => hbel.cell (p := ⟨ba, i, none⟩) hba
          have hB : ∀ i, wr.cell? ⟨bb, i, none⟩ = w.cell? ⟨bb, i, none⟩ := fun i => hbel.cell (p := ⟨bb, i, none⟩) hbb
          obtain ⟨p0, p1, p2, p3⟩ := tokP_cells HA.out j t hjn ht
          obtain ⟨q0, q1, q2, q3⟩ := tokR_cells HB.out j u hjn hu
          rw [← hA] at p0 p1 p2 p3
          rw [← hB] at q0 q1 q2 q3
          have htt := Lib.hid ht
          have huu := Lib.hid hu
          have hsz := hbel.size
          have hx1 : bb < wr.heap.size := by omega
          have hx2 : bb < wr.heap.size + 1 := by omega
          have hx3 : bb < wr.heap.size + 1 + 1 := by omega
          clear hA hB ht hu
          have hk8 : (0 : Int) ≤ t.kind ∧ (t.kind : Int) ≤ 255 := ⟨by omega, by have := hkd t (List.mem_of_getElem? htt.out); omega⟩
          have hsp := tok_split t u
          obtain ⟨k, tx, nn, ps⟩ := t
          obtain ⟨k', tx', nn', ps'⟩ := u
          dsimp only at p0 p1 p2 p3 q0 q1 q2 q3 hk8 hsp
          rcases hsp with h | h | ⟨rfl, h⟩ | ⟨rfl, rfl, h⟩ | ⟨rfl, rfl, rfl, h⟩
          · have HST := Lib.hid (take_step htk.out htt.out huu.out h)
            injection h with e1 e2 e3 e4
            subst e1 e2 e3 e4
            go_wp2_with fail
            go_region_held3 (fun w' => w'.cell? ⟨wr.heap.size, 0, none⟩ = some (.int .u8 k) ∧ w'.cell? ⟨wr.heap.size, 1, none⟩ = some (.string ⟨tx.toArray⟩) ∧ w'.cell? ⟨wr.heap.size, 2, none⟩ = some (.int .i64 nn) ∧ w'.cell? ⟨wr.heap.size, 3, none⟩ = some (.int .i64 ps) ∧ w'.cell? ⟨bb, ob + j * 4, none⟩ = some (.int .i64 k) ∧ w'.cell? ⟨bb, ob + j * 4 + 1, none⟩ = some (.string ⟨(tx).toArray⟩) ∧ w'.cell? ⟨bb, ob + j * 4 + 2, none⟩ = some (.int .i64 nn) ∧ w'.cell? ⟨bb, ob + j * 4 + 3, none⟩ = some (.int .i64 ps)) (first | exact ⟨by simp, by simp, by simp, by simp, keep1 hx1 q0 _, keep1 hx1 q1 _, keep1 hx1 q2 _, keep1 hx1 q3 _⟩ | exact ⟨keep2 (w := wr.alloc _) (by simp) (by simp) _ _, keep2 (w := wr.alloc _) (by simp) (by simp) _ _, keep2 (w := wr.alloc _) (by simp) (by simp) _ _, keep2 (w := wr.alloc _) (by simp) (by simp) _ _, keep3 hx1 q0 _ _ _, keep3 hx1 q1 _ _ _, keep3 hx1 q2 _ _ _, keep3 hx1 q3 _ _ _⟩) (first | (go_at_call 16; refine (told_any _ _ _ _ _ hk8.1 hk8.2).mono ?_; rintro e w' ⟨rfl, rfl⟩))
            all_goals
              go_wp2_with fail
              go_roundw
              case rel => exact ⟨j + 1, by omega, by go_num, by go_grown, HST.out⟩
              case measure => simp [intOf]; omega
          · have HNE : Hid (decide (ts = us) = false) := decide_eq_false (fun e => by
              have h1 := htt.out; have h2 := huu.out; rw [e, h2] at h1; simp only [Option.some.injEq, Tok.mk.injEq] at h1; simp [h1] at h)
            clear htt huu
            generalize hsx : (⟨tx.toArray⟩ : ByteArray) = sx at *
            generalize hsy : (⟨tx'.toArray⟩ : ByteArray) = sy at *
            clear hsx hsy
            go_wp2_with fail
            go_region_held3 (fun w' => w'.cell? ⟨wr.heap.size, 0, none⟩ = some (.int .u8 k) ∧ w'.cell? ⟨wr.heap.size, 1, none⟩ = some (.string sx) ∧ w'.cell? ⟨wr.heap.size, 2, none⟩ = some (.int .i64 nn) ∧ w'.cell? ⟨wr.heap.size, 3, none⟩ = some (.int .i64 ps) ∧ w'.cell? ⟨bb, ob + j * 4, none⟩ = some (.int .i64 k') ∧ w'.cell? ⟨bb, ob + j * 4 + 1, none⟩ = some (.string sy) ∧ w'.cell? ⟨bb, ob + j * 4 + 2, none⟩ = some (.int .i64 nn') ∧ w'.cell? ⟨bb, ob + j * 4 + 3, none⟩ = some (.int .i64 ps')) (first | exact ⟨by simp, by simp, by simp, by simp, keep1 hx1 q0 _, keep1 hx1 q1 _, keep1 hx1 q2 _, keep1 hx1 q3 _⟩ | exact ⟨keep2 (w := wr.alloc _) (by simp) (by simp) _ _, keep2 (w := wr.alloc _) (by simp) (by simp) _ _, keep2 (w := wr.alloc _) (by simp) (by simp) _ _, keep2 (w := wr.alloc _) (by simp) (by simp) _ _, keep3 hx1 q0 _ _ _, keep3 hx1 q1 _ _ _, keep3 hx1 q2 _ _ _, keep3 hx1 q3 _ _ _⟩) (first | (go_at_call 16; refine (told_any _ _ _ _ _ hk8.1 hk8.2).mono ?_; rintro e w' ⟨rfl, rfl⟩))
            all_goals
              go_wp2_with fail
              go_ret
              exact ⟨ret_bool HNE.out.symm, by go_grown⟩
          · have HNE : Hid (decide (ts = us) = false) := decide_eq_false (fun e => by
              have h1 := htt.out; have h2 := huu.out; rw [e, h2] at h1; simp only [Option.some.injEq, Tok.mk.injEq] at h1; simp [h1] at h)
            clear htt huu
            generalize hsx : (⟨tx.toArray⟩ : ByteArray) = sx at *
            generalize hsy : (⟨tx'.toArray⟩ : ByteArray) = sy at *
            clear hsx hsy
            go_wp2_with fail
            go_region_held3 (fun w' => w'.cell? ⟨wr.heap.size, 0, none⟩ = some (.int .u8 k) ∧ w'.cell? ⟨wr.heap.size, 1, none⟩ = some (.string sx) ∧ w'.cell? ⟨wr.heap.size, 2, none⟩ = some (.int .i64 nn) ∧ w'.cell? ⟨wr.heap.size, 3, none⟩ = some (.int .i64 ps) ∧ w'.cell? ⟨bb, ob + j * 4, none⟩ = some (.int .i64 k) ∧ w'.cell? ⟨bb, ob + j * 4 + 1, none⟩ = some (.string sy) ∧ w'.cell? ⟨bb, ob + j * 4 + 2, none⟩ = some (.int .i64 nn') ∧ w'.cell? ⟨bb, ob + j * 4 + 3, none⟩ = some (.int .i64 ps')) (first | exact ⟨by simp, by simp, by simp, by simp, keep1 hx1 q0 _, keep1 hx1 q1 _, keep1 hx1 q2 _, keep1 hx1 q3 _⟩ | exact ⟨keep2 (w := wr.alloc _) (by simp) (by simp) _ _, keep2 (w := wr.alloc _) (by simp) (by simp) _ _, keep2 (w := wr.alloc _) (by simp) (by simp) _ _, keep2 (w := wr.alloc _) (by simp) (by simp) _ _, keep3 hx1 q0 _ _ _, keep3 hx1 q1 _ _ _, keep3 hx1 q2 _ _ _, keep3 hx1 q3 _ _ _⟩) (first | (go_at_call 16; refine (told_any _ _ _ _ _ hk8.1 hk8.2).mono ?_; rintro e w' ⟨rfl, rfl⟩))
            all_goals
              go_wp2_with fail
              go_ret
              exact ⟨ret_bool HNE.out.symm, by go_grown⟩
          · have HNE : Hid (decide (ts = us) = false) := decide_eq_false (fun e => by
              have h1 := htt.out; have h2 := huu.out; rw [e, h2] at h1; simp only [Option.some.injEq, Tok.mk.injEq] at h1; simp [h1] at h)
            go_wp2_with fail
            go_region_held3 (fun w' => w'.cell? ⟨wr.heap.size, 0, none⟩ = some (.int .u8 k) ∧ w'.cell? ⟨wr.heap.size, 1, none⟩ = some (.string ⟨tx.toArray⟩) ∧ w'.cell? ⟨wr.heap.size, 2, none⟩ = some (.int .i64 nn) ∧ w'.cell? ⟨wr.heap.size, 3, none⟩ = some (.int .i64 ps) ∧ w'.cell? ⟨bb, ob + j * 4, none⟩ = some (.int .i64 k) ∧ w'.cell? ⟨bb, ob + j * 4 + 1, none⟩ = some (.string ⟨(tx).toArray⟩) ∧ w'.cell? ⟨bb, ob + j * 4 + 2, none⟩ = some (.int .i64 nn') ∧ w'.cell? ⟨bb, ob + j * 4 + 3, none⟩ = some (.int .i64 ps')) (first | exact ⟨by simp, by simp, by simp, by simp, keep1 hx1 q0 _, keep1 hx1 q1 _, keep1 hx1 q2 _, keep1 hx1 q3 _⟩ | exact ⟨keep2 (w := wr.alloc _) (by simp) (by simp) _ _, keep2 (w := wr.alloc _) (by simp) (by simp) _ _, keep2 (w := wr.alloc _) (by simp) (by simp) _ _, keep2 (w := wr.alloc _) (by simp) (by simp) _ _, keep3 hx1 q0 _ _ _, keep3 hx1 q1 _ _ _, keep3 hx1 q2 _ _ _, keep3 hx1 q3 _ _ _⟩) (first | (go_at_call 16; refine (told_any _ _ _ _ _ hk8.1 hk8.2).mono ?_; rintro e w' ⟨rfl, rfl⟩))
            all_goals
              go_wp2_with fail
              go_ret
              exact ⟨ret_bool HNE.out.symm, by go_grown⟩
          · have HNE : Hid (decide (ts = us) = false) := decide_eq_false (fun e => by
              have h1 := htt.out; have h2 := huu.out; rw [e, h2] at h1; simp only [Option.some.injEq, Tok.mk.injEq] at h1; simp [h1] at h)
            go_wp2_with fail
            go_region_held3 (fun w' => w'.cell? ⟨wr.heap.size, 0, none⟩ = some (.int .u8 k) ∧ w'.cell? ⟨wr.heap.size, 1, none⟩ = some (.string ⟨tx.toArray⟩) ∧ w'.cell? ⟨wr.heap.size, 2, none⟩ = some (.int .i64 nn) ∧ w'.cell? ⟨wr.heap.size, 3, none⟩ = some (.int .i64 ps) ∧ w'.cell? ⟨bb, ob + j * 4, none⟩ = some (.int .i64 k) ∧ w'.cell? ⟨bb, ob + j * 4 + 1, none⟩ = some (.string ⟨(tx).toArray⟩) ∧ w'.cell? ⟨bb, ob + j * 4 + 2, none⟩ = some (.int .i64 nn) ∧ w'.cell? ⟨bb, ob + j * 4 + 3, none⟩ = some (.int .i64 ps')) (first | exact ⟨by simp, by simp, by simp, by simp, keep1 hx1 q0 _, keep1 hx1 q1 _, keep1 hx1 q2 _, keep1 hx1 q3 _⟩ | exact ⟨keep2 (w := wr.alloc _) (by simp) (by simp) _ _, keep2 (w := wr.alloc _) (by simp) (by simp) _ _, keep2 (w := wr.alloc _) (by simp) (by simp) _ _, keep2 (w := wr.alloc _) (by simp) (by simp) _ _, keep3 hx1 q0 _ _ _, keep3 hx1 q1 _ _ _, keep3 hx1 q2 _ _ _, keep3 hx1 q3 _ _ _⟩) (first | (go_at_call 16; refine (told_any _ _ _ _ _ hk8.1 hk8.2).mono ?_; rintro e w' ⟨rfl, rfl⟩))
            all_goals
              go_wp2_with fail
              go_ret
              exact ⟨ret_bool HNE.out.symm, by go_grown⟩
        · obtain rfl : j = n := by omega
          have HE : Hid (decide (ts = us) = true) := decide_eq_true (by have := htk.out; rwa [List.take_of_length_le (by omega), List.take_of_length_le (by omega)] at this)
          go_wp2_with fail
          go_ret
          exact ⟨ret_bool HE.out.symm, hbel⟩
  · have HNE : Hid (decide (ts = us) = false) := decide_eq_false (fun e => hnm (by rw [← hn, ← hm, e]))
    have hnm2 : ((n : Int) == m) = false := by simp; omega
    have hnm3 : ((n : Int) != m) = true := by simp; omega
    clear ha2 hb2 hn hm hnm
    go_enter Try.func14, Try.ntmps14
    go_wp2_with fail
    go_ret
    exact ⟨ret_bool HNE.out.symm, Below.refl _ _⟩

end Go.Proofs.Ytnjaflldlhiefaa
