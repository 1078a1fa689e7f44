/- Contract: the reference's Scan. -/
import Derived.Test.YtnjaflldlhiefaaTkF
import Derived.Test.YtnjaflldlhiefaaTkH
import Derived.BigRegion
namespace Go.Proofs.Ytnjaflldlhiefaa
open Go.RowKit Go.PlainAid
set_option linter.unusedVariables false
set_option maxHeartbeats 1000000

theorem infoTokR : (Try.prog.info? 38).map (fun i => (i.zero, i.size, i.bytes)) = some (some (.agg #[.int .i64 0, .string ⟨#[]⟩, .int .i64 0, .int .i64 0]), 4, 40) := by kernel_rfl

def RScanPost (B : Nat) (w : World) (l : List UInt8) (e : Ending) (w' : World) : Prop :=
  ∃ v, e = .returned (.tuple #[v, .int .i64 (scanP l).2.1, .int .i64 (scanP l).2.2]) ∧ Below B w w' ∧ w'.ownsRow B 38 4 v (scanP l).1.length (flatR (scanP l).1)

def RScanRel (s : ByteArray) (B : Nat) (w : World) (v5 v6 : Value) (wr : World) : Prop :=
  ∃ (k f : Nat) (acc : List Tok), k ≤ s.size ∧ v6 = .int .i64 k ∧ s.size - k < f ∧ scanR s.data.toList = (acc ++ (scanA f k (rest s k)).1, (scanA f k (rest s k)).2) ∧
    wr.ownsRow B 38 4 v5 acc.length (flatR acc) ∧ Below B w wr ∧ acc.length ≤ k

theorem rskip_at (s : ByteArray) (x : Int) (n : Nat) (w : World) (hs : s.size ≤ 4611686018427387904) (hx : x = n) (hn : n ≤ s.size) :
    Calls Try.prog 46 #[.string s, .int .i64 x] w fun e w' => e = .returned (.int .i64 ↑(n + skipL false (rest s n))) ∧ w = w' := by
  subst hx; exact rskip_any s n w hs hn

theorem rscan_rel (s : ByteArray) (B : Nat) (w w1 : World) (v' : Value) (k f : Nat) (acc : List Tok) (kd n m : Nat) (tx : ByteArray) (x : Int)
    (hlt : k < s.size) (hf : s.size - k < f) (ht : tokL (rest s k) = some (kd, tx.data.toList, n)) (hm : tx.data.toList.length = m) (h1 : 1 ≤ m) (h2 : k + m ≤ s.size) (hacc : acc.length ≤ k)
    (hr : scanR s.data.toList = (acc ++ (scanA f k (rest s k)).1, (scanA f k (rest s k)).2))
    (hown : w1.ownsRow B 38 4 v' (acc.length + 1) (flatR acc ++ [.int .i64 kd, .string tx, .int .i64 n, .int .i64 k])) (hbel : Below B w w1)
    (hx : x = ↑(k + m + skipL false (rest s (k + m)))) : RScanRel s B w v' (.int .i64 x) w1 := by
  subst hm
  subst hx
  obtain ⟨g, hg, hr'⟩ := scan_step s k f acc kd n tx.data.toList hlt hf ht h1 h2 hr
  have hle := skipL_rest_le s (k + tx.data.toList.length)
  refine ⟨k + tx.data.toList.length + skipL false (rest s (k + tx.data.toList.length)), g, acc ++ [⟨kd, tx.data.toList, n, k⟩], by omega, rfl, hg, hr', ?_, hbel, by simp only [List.length_append, List.length_cons, List.length_nil]; omega⟩
  rw [flatR_snoc, List.length_append]
  exact hown
theorem rscan_out (l : List UInt8) (B : Nat) (w w' : World) (v : Value) (ts : List Tok) (off er : Nat) (h8 : ¬ 8000 < l.length) (hr : scanR l = (ts, off, 0)) (hb : Below B w w') (ho : w'.ownsRow B 38 4 v ts.length (flatR ts)) :
    RScanPost B w l (.returned (.tuple #[v, .int .i64 off, .int .i64 0])) w' := by
  have hp : scanP l = (ts, off, 0) := by unfold scanP; rw [if_neg h8, hr]; simp
  unfold RScanPost
  rw [hp]
  exact ⟨v, rfl, hb, ho⟩
theorem rscan_err (l : List UInt8) (B : Nat) (w w' : World) (ts : List Tok) (off : Nat) (x : Int) (hx : x = off) (h8 : ¬ 8000 < l.length) (hr : scanR l = (ts, off, 8)) (hb : Below B w w') :
    RScanPost B w l (.returned (.tuple #[.slice none 0 0, .int .i64 x, .int .i64 8])) w' := by
  subst hx
  have hp : scanP l = ([], off, 8) := by unfold scanP; rw [if_neg h8, hr]; simp
  unfold RScanPost
  rw [hp]
  exact ⟨_, rfl, hb, World.ownsRow_nil _ _ _ _⟩
theorem inn_parts {c : Int} (h : innB c = true) : Hid (letB c = true) ∨ (Hid (letB c = false) ∧ Hid (digB c = true)) ∨ (Hid (letB c = false) ∧ Hid (digB c = false) ∧ (c == 95) = true) := by
  unfold innB at h
  cases hl : letB c
  · cases hd : digB c
    · refine .inr (.inr ⟨rfl, rfl, ?_⟩); rw [hl, hd] at h; simpa using h
    · exact .inr (.inl ⟨rfl, rfl⟩)
  · exact .inl rfl
theorem inn_none {c : Int} (h : innB c = false) : Hid (letB c = false) ∧ Hid (digB c = false) ∧ (c == 95) = false := by
  unfold innB at h
  simp only [Bool.or_eq_false_iff] at h
  exact ⟨h.1.1, h.1.2, by simpa using h.2⟩

set_option maxRecDepth 100000 in
theorem rscan_any (s : ByteArray) (w : World) (hs : s.size ≤ 4611686018427387904) :
    Calls Try.prog 13 #[.string s] w fun e w' => RScanPost w.heap.size w s.data.toList e w' := by
  obtain ⟨i0, hi, hz0, hz1, hz2⟩ := info_parts infoTokR
  by_cases h8 : 8000 < s.size
  · have hp : scanP s.data.toList = ([], 0, 3) := by unfold scanP; rw [if_pos (by simpa using h8)]
    have HP := Lib.hid hp
    clear hp
    go_enter Try.func13, Try.ntmps13
    go_wp2_with fail
    go_ret3
    unfold RScanPost
    rw [HP.out]
    exact ⟨_, rfl, Below.refl _ _, World.ownsRow_nil _ _ _ _⟩
  · have hb := get_bt s
    have hsk := skipL_rest_le s 0
    have hlen : ¬ 8000 < s.data.toList.length := fun h => h8 h
    go_enter Try.func13, Try.ntmps13
    go_wp2_with (go_at_call 46; refine (rskip_any s 0 _ hs (by omega)).mono ?_; rintro e w' ⟨rfl, rfl⟩)
    go_loopw [5, 6] (fun v5 v6 wr => RScanRel s w.heap.size w v5 v6 wr) (fun _ i _ => s.size - (intOf i).toNat)
    case atStart => exact ⟨skipL false (rest s 0), s.size + 1, [], by omega, by simp, by omega, by simp [scanR, rest], World.ownsRow_nil _ _ _ _, Below.refl _ _, by simp⟩
    case round =>
      obtain ⟨k, f, acc, hk, rfl, hf, hr, hown, hbel, hacc⟩ := hrel
      have HR := Lib.hid hr
      clear hr
      by_cases hlt : k < s.size
      · cases hl : letB (bt s k)
        · have HL := Lib.hid hl
          clear hl
          cases hd : digB (bt s k)
          · have HD := Lib.hid hd
            clear hd
            have HT0 := tokL_sym s k hlt HL.out HD.out
            cases hx : symL (rest s k) with
            | none =>
              rw [hx] at HT0
              have HT := Lib.hid HT0
              have HX := Lib.hid hx
              clear HT0 hx
              go_wp2_with (first
                | (go_at_call 47; refine (rletter_any _ _ (bt_nonneg _ _) (bt_le _ _)).mono ?_; rintro e w' ⟨rfl, rfl⟩; first | rw [HL.out] | skip)
                | (go_at_call 48; refine (rdigit_any _ _ (bt_nonneg _ _) (bt_le _ _)).mono ?_; rintro e w' ⟨rfl, rfl⟩; rw [HD.out])
                | (go_at_call 50; refine (rsymbol_no s k _ hs hk HX.out).mono ?_; rintro e w2 ⟨rfl, rfl⟩))
              go_ret3
              exact rscan_err _ _ _ _ acc k _ rfl hlen (by rw [HR.out, scanA_bad s f k (by omega) hlt HT.out]; simp) ((hbel.alloc hbel.size _).alloc (by have := hbel.size; simp; omega) _)
            | some x =>
              rw [hx] at HT0
              have HT := Lib.hid HT0
              have HX := Lib.hid hx
              obtain ⟨hpos, _, hxl, hxt⟩ := symL_len hx
              rw [rest_length] at hxl
              have hsk2 := skipL_rest_le s (k + x.length)
              have hext := Lib.hid (show s.extract k (k + x.length) = ⟨x.toArray⟩ by rw [ext_eq, hxt])
              clear HT0 hx hxt
              go_wp2_with (first
                | (go_at_call 47; refine (rletter_any _ _ (bt_nonneg _ _) (bt_le _ _)).mono ?_; rintro e w' ⟨rfl, rfl⟩; first | rw [HL.out] | skip)
                | (go_at_call 48; refine (rdigit_any _ _ (bt_nonneg _ _) (bt_le _ _)).mono ?_; rintro e w' ⟨rfl, rfl⟩; rw [HD.out])
                | (go_at_call 50; refine (rsymbol_yes s k x _ hs hk HX.out).mono ?_; rintro e w2 ⟨rfl, rfl⟩))
              go_loop [9] (fun v => v = .int .i64 k) (fun _ => 0)
              case atStart => rfl
              case round =>
                obtain rfl := hrel
                go_wp2_with (at_builtin; refine wpList_append_own _ rfl (.tmp 94) (.tmp 96) 28 rfl w.heap.size 38 i0 (.agg #[.int .i64 0, .string ⟨#[]⟩, .int .i64 0, .int .i64 0]) 4 40 Try.underlying28 hi hz0 hz1 hz2 rfl (by decide) _ _ _ rfl (((hown.alloc _).alloc _).alloc _) ⟨wr.heap.size + 1 + 1, 0, none⟩ 1 1 [.int .i64 3, .string (s.extract k (k + x.length)), .int .i64 0, .int .i64 k] rfl rfl ?a1 ?a2 ?a3 ?a4 ?a5 ?_)
                try (case a1 => exact cells_new _ _ _ _ (by simp))
                case a2 => first | exact ⟨rfl, rfl, rfl, rfl⟩ | (intro u hu; simp at hu; rcases hu with rfl | rfl | rfl | rfl <;> rfl)
                case a3 => unfold maxLen; omega
                case a4 => omega
                case a5 => have := hbel.size; simp; omega
                intro v' w1 hown' hgrow _
                have hbel' : Below w.heap.size w w1 := (((hbel.alloc hbel.size _).alloc (by have := hbel.size; simp; omega) _).alloc (by have := hbel.size; simp; omega) _).grown hgrow (by have := hbel.size; simp; omega) (fun b hb => (hown.lt b hb).1)
                clear hgrow hown hbel
                go_wp2_with (go_at_call 46; refine (rskip_at s _ (k + x.length) _ hs (by first | omega | (simp; omega)) (by omega)).mono ?_; rintro e w' ⟨rfl, rfl⟩)
                go_roundw
                case rel =>
                  rw [hext.out] at hown'
                  exact rscan_rel s _ _ _ _ k f acc 3 0 (x.length) _ _ hlt hf (by simpa using HT.out) (by simp) hpos (by omega) hacc HR.out hown' hbel' (by omega)
                case measure => simp [intOf]; omega
          · have HD := Lib.hid hd
            clear hd
            cases ho : numOk (rest s k)
            · have HT := Lib.hid (tokL_numbad s k hlt HL.out HD.out ho)
              have HO := Lib.hid ho
              clear ho
              go_wp2_with (first
                | (go_at_call 47; refine (rletter_any _ _ (bt_nonneg _ _) (bt_le _ _)).mono ?_; rintro e w' ⟨rfl, rfl⟩; first | rw [HL.out] | skip)
                | (go_at_call 48; refine (rdigit_any _ _ (bt_nonneg _ _) (bt_le _ _)).mono ?_; rintro e w' ⟨rfl, rfl⟩; rw [HD.out])
                | (go_at_call 49; refine (rnumber_no s k _ hs hlt HD.out HO.out).mono ?_; rintro e w2 ⟨rfl, rfl⟩))
              go_ret3
              exact rscan_err _ _ _ _ acc k _ rfl hlen (by rw [HR.out, scanA_bad s f k (by omega) hlt HT.out]; simp) (hbel.alloc hbel.size _)
            · have HT := Lib.hid (tokL_num s k hlt HL.out HD.out ho)
              have HO := Lib.hid ho
              clear ho
              have hle := runL_rest_le digB s k
              have hpos : 1 ≤ runL digB (rest s k) := by rw [runL_hit digB s k hlt HD.out]; omega
              have hsk2 := skipL_rest_le s (k + runL digB (rest s k))
              have hdig : Hid (∀ j, j < runL digB (rest s k) → digB (bt s (k + j)) = true) := fun j hj => runL_all digB s s.size k j (by omega) hj
              have h6 : Hid (runL digB (rest s k) ≤ 6) := by
                have := HO.out
                unfold numOk at this
                simp only [Bool.not_eq_true', Bool.or_eq_false_iff, decide_eq_false_iff_not] at this
                show _ ≤ _
                omega
              have hbd : Hid (∀ j, j ≤ runL digB (rest s k) → numV ((rest s k).take j) < 1000000) := fun j hj => Nat.lt_of_lt_of_le (numV_bd s k _ (by omega) hdig.out j hj) (by have h7 := h6.out; have : 10 ^ j ≤ 10 ^ 6 := Nat.pow_le_pow_right (by omega) (by omega); omega)
              go_wp2_with (first
                | (go_at_call 47; refine (rletter_any _ _ (bt_nonneg _ _) (bt_le _ _)).mono ?_; rintro e w' ⟨rfl, rfl⟩; first | rw [HL.out] | skip)
                | (go_at_call 48; refine (rdigit_any _ _ (bt_nonneg _ _) (bt_le _ _)).mono ?_; rintro e w' ⟨rfl, rfl⟩; rw [HD.out])
                | (go_at_call 49; refine (rnumber_yes s k _ hs hlt HD.out HO.out).mono ?_; rintro e w2 ⟨rfl, rfl⟩))
              obtain ⟨wo, rfl⟩ : ∃ wo : World, wo = wr := ⟨_, rfl⟩
              go_loopw [9] (fun v wv => ∃ j : Nat, j ≤ runL digB (rest s k) ∧ v = .int .i64 ↑(k + j) ∧ Blk4 wv wo.heap.size (.int .i64 2) (.string (s.extract k (k + runL digB (rest s k)))) (.int .i64 ↑(numV ((rest s k).take j))) (.int .i64 k) ∧ Below wo.heap.size wo wv) (fun v _ => k + runL digB (rest s k) - (intOf v).toNat)
              case atStart => exact ⟨0, by omega, rfl, Blk4.new _ _ _ _ _ _, by go_grown⟩
              case round =>
                obtain ⟨j, hj, rfl, hblk, hbv⟩ := hrel
                have HBLK := Lib.hid hblk
                obtain ⟨c0, c1, c2, c3, f0, f1, f2, f3, hz⟩ := hblk
                by_cases hjm : j < runL digB (rest s k)
                · have hd := dig_of (hdig.out j hjm)
                  have hsn := Lib.hid (numV_snoc s k j (by omega) (hdig.out j hjm))
                  have hb1 := hbd.out j hj
                  have hb3 : k + j < s.size := by omega
                  go_wp2_with fail
                  go_region
                  all_goals
                    go_wp2_with fail
                    go_roundw
                    case rel => exact ⟨j + 1, by omega, by go_num, by rw [hsn.out]; exact HBLK.out.set2 _, by first | exact (hbv.setCell (Nat.le_refl _) _) | exact (hbv.setCell (Nat.le_refl _) _).drew⟩
                    case measure => simp [intOf]; omega
                · obtain rfl : j = runL digB (rest s k) := by omega
                  have hown2 := owns_below hown (Nat.le_refl _) hbv
                  have hbel2 := hbel.trans (hbv.mono hbel.size)
                  have hle2 := hbel2.size
                  go_wp2_with (at_builtin; refine wpList_append_own _ rfl (.tmp 94) (.tmp 96) 28 rfl w.heap.size 38 i0 (.agg #[.int .i64 0, .string ⟨#[]⟩, .int .i64 0, .int .i64 0]) 4 40 Try.underlying28 hi hz0 hz1 hz2 rfl (by decide) _ _ _ rfl (hown2.alloc _) ⟨wr.heap.size, 0, none⟩ 1 1 [.int .i64 2, .string (s.extract k (k + runL digB (rest s k))), .int .i64 ↑(numV ((rest s k).take (runL digB (rest s k)))), .int .i64 k] rfl rfl ?e1 ?e2 ?e3 ?e4 ?e5 ?_)
                  try (case e1 => exact cells_new _ _ _ _ (by simp))
                  case e2 => first | exact ⟨rfl, rfl, rfl, rfl⟩ | (intro u hu; simp at hu; rcases hu with rfl | rfl | rfl | rfl <;> rfl)
                  case e3 => unfold maxLen; omega
                  case e4 => omega
                  case e5 => simp; omega
                  intro v' w1 hown' hgrow _
                  have hbel' : Below w.heap.size w w1 := (hbel2.alloc hbel2.size _).grown hgrow (by simp; omega) (fun b hb => (hown2.lt b hb).1)
                  clear hgrow hown2 hown hbel hbel2
                  go_wp2_with (go_at_call 46; refine (rskip_at s _ (k + runL digB (rest s k)) _ hs (by first | omega | (simp; omega)) (by omega)).mono ?_; rintro e w' ⟨rfl, rfl⟩)
                  go_roundw
                  case rel =>
                    rw [ext_eq] at hown'
                    exact rscan_rel s _ _ _ _ k f acc 2 _ (runL digB (rest s k)) _ _ hlt hf (by simpa using HT.out) (by simp; omega) hpos (by omega) hacc HR.out hown' hbel' (by omega)
                  case measure => simp [intOf]; omega
        · have hle := runL_rest_le innB s k
          obtain ⟨m, hm⟩ : ∃ m, m = runL innB (rest s k) := ⟨_, rfl⟩
          have hpos : 1 ≤ m := by rw [hm, runL_hit innB s k hlt (by simp [innB, hl])]; omega
          rw [← hm] at hle
          have HT := Lib.hid (tokL_word s k hlt hl)
          have hinn : Hid (∀ j, j < m → innB (bt s (k + j)) = true) := fun j hj => runL_all innB s s.size k j (by omega) (by rw [← hm]; exact hj)
          have hstop : Hid (k + m < s.size → innB (bt s (k + m)) = false) := fun h => by
            have hgo : ∀ j, j ≤ m → runL innB (rest s (k + j)) = m - j := by
              intro j
              induction j with
              | zero => intro _; exact hm.symm
              | succ j ih => intro hj; have h1 := ih (by omega); rw [runL_hit innB s (k + j) (by omega) (hinn.out j (by omega))] at h1; rw [← Nat.add_assoc]; omega
            cases hi : innB (bt s (k + m))
            · rfl
            · have := hgo m (Nat.le_refl _); rw [runL_hit innB s (k + m) h hi] at this; omega
          have HM := Lib.hid hm
          clear hm
          have hsk2 := skipL_rest_le s (k + m)
          go_wp2_with (go_at_call 47; refine (rletter_any _ _ (bt_nonneg _ _) (bt_le _ _)).mono ?_; rintro e w' ⟨rfl, rfl⟩; rw [hl])
          go_loop [8] (fun v => ∃ j : Nat, j ≤ m ∧ v = .int .i64 ↑(k + j)) (fun v => k + m - (intOf v).toNat)
          case atStart => exact ⟨0, by omega, rfl⟩
          case round =>
            obtain ⟨j, hj, rfl⟩ := hrel
            by_cases hjm : j < m
            · have hlt2 : k + j < s.size := by omega
              rcases inn_parts (hinn.out j hjm) with LJ | ⟨LJ, DJ⟩ | ⟨LJ, DJ, h95⟩
              all_goals
                go_wp2_with (first
                  | (go_at_call 47; refine (rletter_any _ _ (bt_nonneg _ _) (bt_le _ _)).mono ?_; rintro e w' ⟨rfl, rfl⟩; rw [LJ.out])
                  | (go_at_call 48; refine (rdigit_any _ _ (bt_nonneg _ _) (bt_le _ _)).mono ?_; rintro e w' ⟨rfl, rfl⟩; rw [DJ.out]))
                go_round
                case rel => exact ⟨j + 1, by omega, by go_num⟩
                case measure => simp [intOf]; omega
            · obtain rfl : j = m := by omega
              by_cases hlt2 : k + j < s.size
              · obtain ⟨LJ, DJ, h95⟩ := inn_none (hstop.out hlt2)
                go_wp2_with (first
                  | (go_at_call 47; refine (rletter_any _ _ (bt_nonneg _ _) (bt_le _ _)).mono ?_; rintro e w' ⟨rfl, rfl⟩; rw [LJ.out])
                  | (go_at_call 48; refine (rdigit_any _ _ (bt_nonneg _ _) (bt_le _ _)).mono ?_; rintro e w' ⟨rfl, rfl⟩; rw [DJ.out]))
                go_loop [9] (fun v => v = .int .i64 k) (fun _ => 0)
                case atStart => rfl
                case round =>
                  obtain rfl := hrel
                  go_wp2_with (at_builtin; refine wpList_append_own _ rfl (.tmp 94) (.tmp 96) 28 rfl w.heap.size 38 i0 (.agg #[.int .i64 0, .string ⟨#[]⟩, .int .i64 0, .int .i64 0]) 4 40 Try.underlying28 hi hz0 hz1 hz2 rfl (by decide) _ _ _ rfl ((hown.alloc _).alloc _) ⟨wr.heap.size + 1, 0, none⟩ 1 1 [.int .i64 1, .string (s.extract k (k + j)), .int .i64 0, .int .i64 k] rfl rfl ?b1 ?b2 ?b3 ?b4 ?b5 ?_)
                  try (case b1 => exact cells_new _ _ _ _ (by simp))
                  case b2 => first | exact ⟨rfl, rfl, rfl, rfl⟩ | (intro u hu; simp at hu; rcases hu with rfl | rfl | rfl | rfl <;> rfl)
                  case b3 => unfold maxLen; omega
                  case b4 => omega
                  case b5 => have := hbel.size; simp; omega
                  intro v' w1 hown' hgrow _
                  have hbel' : Below w.heap.size w w1 := ((hbel.alloc hbel.size _).alloc (by have := hbel.size; simp; omega) _).grown hgrow (by have := hbel.size; simp; omega) (fun b hb => (hown.lt b hb).1)
                  clear hgrow hown hbel
                  go_wp2_with (go_at_call 46; refine (rskip_at s _ (k + j) _ hs (by first | omega | (simp; omega)) (by omega)).mono ?_; rintro e w' ⟨rfl, rfl⟩)
                  go_roundw
                  case rel =>
                    rw [ext_eq] at hown'
                    exact rscan_rel s _ _ _ _ k f acc 1 0 (j) _ _ hlt hf (by simpa [← HM.out] using HT.out) (by simp; omega) hpos (by omega) hacc HR.out hown' hbel' (by omega)
                  case measure => simp [intOf]; omega
              · go_wp2_with fail
                all_goals first | (exfalso; omega) | skip
                go_loop [9] (fun v => v = .int .i64 k) (fun _ => 0)
                case atStart => rfl
                case round =>
                  obtain rfl := hrel
                  go_wp2_with (at_builtin; refine wpList_append_own _ rfl (.tmp 94) (.tmp 96) 28 rfl w.heap.size 38 i0 (.agg #[.int .i64 0, .string ⟨#[]⟩, .int .i64 0, .int .i64 0]) 4 40 Try.underlying28 hi hz0 hz1 hz2 rfl (by decide) _ _ _ rfl ((hown.alloc _).alloc _) ⟨wr.heap.size + 1, 0, none⟩ 1 1 [.int .i64 1, .string (s.extract k (k + j)), .int .i64 0, .int .i64 k] rfl rfl ?c1 ?c2 ?c3 ?c4 ?c5 ?_)
                  try (case c1 => exact cells_new _ _ _ _ (by simp))
                  case c2 => first | exact ⟨rfl, rfl, rfl, rfl⟩ | (intro u hu; simp at hu; rcases hu with rfl | rfl | rfl | rfl <;> rfl)
                  case c3 => unfold maxLen; omega
                  case c4 => omega
                  case c5 => have := hbel.size; simp; omega
                  intro v' w1 hown' hgrow _
                  have hbel' : Below w.heap.size w w1 := ((hbel.alloc hbel.size _).alloc (by have := hbel.size; simp; omega) _).grown hgrow (by have := hbel.size; simp; omega) (fun b hb => (hown.lt b hb).1)
                  clear hgrow hown hbel
                  go_wp2_with (go_at_call 46; refine (rskip_at s _ (k + j) _ hs (by first | omega | (simp; omega)) (by omega)).mono ?_; rintro e w' ⟨rfl, rfl⟩)
                  go_roundw
                  case rel =>
                    rw [ext_eq] at hown'
                    exact rscan_rel s _ _ _ _ k f acc 1 0 (j) _ _ hlt hf (by simpa [← HM.out] using HT.out) (by simp; omega) hpos (by omega) hacc HR.out hown' hbel' (by omega)
                  case measure => simp [intOf]; omega
      · have hend := Lib.hid (scanA_end s f k (by omega) (by omega))
        go_wp2_with (at_builtin; refine wpList_append_own _ rfl (.tmp 101) (.tmp 105) 28 rfl w.heap.size 38 i0 (.agg #[.int .i64 0, .string ⟨#[]⟩, .int .i64 0, .int .i64 0]) 4 40 Try.underlying28 hi hz0 hz1 hz2 rfl (by decide) _ _ _ rfl (hown.alloc _) ⟨wr.heap.size, 0, none⟩ 1 1 [.int .i64 0, .string ⟨#[]⟩, .int .i64 0, .int .i64 s.size] rfl rfl ?d1 ?d2 ?d3 ?d4 ?d5 ?_)
        try (case d1 => exact cells_new _ _ _ _ (by simp))
        case d2 => first | exact ⟨rfl, rfl, rfl, rfl⟩ | (intro u hu; simp at hu; rcases hu with rfl | rfl | rfl | rfl <;> rfl)
        case d3 => unfold maxLen; omega
        case d4 => omega
        case d5 => have := hbel.size; simp; omega
        intro v' w1 hown' hgrow _
        have hbel' := (hbel.alloc hbel.size _).grown hgrow (by have := hbel.size; simp; omega) (fun b hb => (hown.lt b hb).1)
        clear hgrow hown hbel
        go_wp2_with fail
        go_ret3
        exact rscan_out _ _ _ _ _ (acc ++ [⟨0, [], 0, s.size⟩]) 0 0 hlen (by rw [HR.out, hend.out, show k = s.size by omega]) hbel' (by rw [flatR_snoc, List.length_append]; exact hown')

end Go.Proofs.Ytnjaflldlhiefaa
