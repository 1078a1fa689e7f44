/- Contract: token.Scan. -/
import Derived.Test.YtkmchnggcjmchaaDoorTkE
namespace Go.Proofs.YtkmchnggcjmchaaDoor
open Go.RowKit Go.PlainAid
set_option linter.unusedVariables false
set_option maxHeartbeats 1000000

theorem infoTok : (Tryd.prog.info? 30).map (fun i => (i.zero, i.size, i.bytes)) = some (some (.agg #[.int .u8 0, .string ⟨#[]⟩, .int .i64 0, .int .i64 0]), 4, 40) := by kernel_rfl

/-- The cells of a block that was just laid. -/
theorem cells_new (w : World) (C : Array Value) (t : TypeId) (n : Nat) (hn : n = w.heap.size) : ∀ (j : Nat) (u : Value), C.toList[j]? = some u → (w.alloc (.cells C t)).cell? ((⟨n, 0, none⟩ : Addr).add j) = some u := by
  intro j u hu
  have hadd : (⟨n, 0, none⟩ : Addr).add j = ⟨n, j, none⟩ := by unfold Addr.add; split <;> simp_all
  rw [hadd, World.cell?_alloc_at _ _ _ _ hn]
  simpa using hu

def ScanPost (B : Nat) (w : World) (l : List UInt8) (e : Ending) (w' : World) : Prop :=
  ∃ v, e = .returned (.tuple #[v, .int .i64 (scanP l).2.1, .int .i64 (scanP l).2.2]) ∧ Below B w w' ∧ w'.ownsRow B 30 4 v (scanP l).1.length (flatP (scanP l).1)

def ScanRel (s : ByteArray) (B : Nat) (w : World) (v5 v6 : Value) (wr : World) : Prop :=
  ∃ (k f : Nat) (acc : List Tok), k ≤ s.size ∧ v6 = .int .i64 k ∧ s.size - k < f ∧ scanR s.data.toList = (acc ++ (scanA f k (rest s k)).1, (scanA f k (rest s k)).2) ∧
    wr.ownsRow B 30 4 v5 acc.length (flatP acc) ∧ Below B w wr ∧ acc.length ≤ k

/-- One round, a token found. -/
theorem scan_step (s : ByteArray) (k f : Nat) (acc : List Tok) (kd n : Nat) (t : List UInt8) (hlt : k < s.size) (hf : s.size - k < f) (ht : tokL (rest s k) = some (kd, t, n)) (h1 : 1 ≤ t.length) (h2 : k + t.length ≤ s.size)
    (hr : scanR s.data.toList = (acc ++ (scanA f k (rest s k)).1, (scanA f k (rest s k)).2)) :
    ∃ g, s.size - (k + t.length + skipL false (rest s (k + t.length))) < g ∧
      scanR s.data.toList = ((acc ++ [⟨kd, t, n, k⟩]) ++ (scanA g (k + t.length + skipL false (rest s (k + t.length))) (rest s (k + t.length + skipL false (rest s (k + t.length))))).1, (scanA g (k + t.length + skipL false (rest s (k + t.length))) (rest s (k + t.length + skipL false (rest s (k + t.length))))).2) := by
  obtain ⟨g, rfl⟩ : ∃ g, f = g + 1 := ⟨f - 1, by omega⟩
  refine ⟨g, by omega, ?_⟩
  rw [hr, scanA_tok s g k hlt kd n t ht]
  simp
theorem ext_eq (s : ByteArray) (k m : Nat) : s.extract k (k + m) = ⟨((rest s k).take m).toArray⟩ := str_eq (by rw [ext_list]; congr 1; omega)

theorem grown_keep {w w1 : World} {base size n : Nat} {e : TypeId} {v : Value} {xs : List Value} (h : w.ownsRow base e size v n xs) {o1 o2 : Obj} (hg : ((w.alloc o1).alloc o2).grownBy w1 v.ownBlock)
    {j : Nat} {u : Value} (hv : ((w.alloc o1).alloc o2).cell? ⟨w.heap.size, j, none⟩ = some u) : w1.cell? ⟨w.heap.size, j, none⟩ = some u :=
  hg.cell hv (by
    intro e
    have := (h.lt _ e.symm).2
    simp at this)
theorem skip_at (s : ByteArray) (x : Int) (n : Nat) (w : World) (hs : s.size ≤ 4611686018427387904) (hx : x = n) (hn : n ≤ s.size) :
    Calls Tryd.prog 22 #[.string s, .int .i64 x] w fun e w' => e = .returned (.int .i64 ↑(n + skipL false (rest s n))) ∧ w = w' := by
  subst hx; exact skip_any s n w hs hn

/-- What is known of a block of four cells behind a callee that leaves it alone. -/
theorem blk4 {wr w2 : World} {a b c d : Value} {T : TypeId} {o : Obj} (ho : o = .cells #[a, b, c, d] T) (hb : Below (wr.alloc o).heap.size (wr.alloc o) w2) :
    w2.cell? ⟨wr.heap.size, 0, none⟩ = some a ∧ w2.cell? ⟨wr.heap.size, 1, none⟩ = some b ∧ w2.cell? ⟨wr.heap.size, 2, none⟩ = some c ∧ w2.cell? ⟨wr.heap.size, 3, none⟩ = some d ∧
    w2.frozen? ⟨wr.heap.size, 0, none⟩ = false ∧ w2.frozen? ⟨wr.heap.size, 1, none⟩ = false ∧ w2.frozen? ⟨wr.heap.size, 2, none⟩ = false ∧ w2.frozen? ⟨wr.heap.size, 3, none⟩ = false ∧ wr.heap.size + 1 ≤ w2.heap.size := by
  subst ho
  have hlt : wr.heap.size < (wr.alloc (.cells #[a, b, c, d] T)).heap.size := by simp
  refine ⟨?_, ?_, ?_, ?_, ?_, ?_, ?_, ?_, ?_⟩
  · rw [hb.cell (p := ⟨wr.heap.size, 0, none⟩) hlt]; simp
  · rw [hb.cell (p := ⟨wr.heap.size, 1, none⟩) hlt]; simp
  · rw [hb.cell (p := ⟨wr.heap.size, 2, none⟩) hlt]; simp
  · rw [hb.cell (p := ⟨wr.heap.size, 3, none⟩) hlt]; simp
  · rw [hb.frozen (p := ⟨wr.heap.size, 0, none⟩) hlt]; simp
  · rw [hb.frozen (p := ⟨wr.heap.size, 1, none⟩) hlt]; simp
  · rw [hb.frozen (p := ⟨wr.heap.size, 2, none⟩) hlt]; simp
  · rw [hb.frozen (p := ⟨wr.heap.size, 3, none⟩) hlt]; simp
  · have := hb.size; simp at this; omega

theorem cell_four {w2 : World} {n : Nat} {b0 : Value} (hn : n < w2.heap.size) (c1 : w2.cell? ⟨n, 1, none⟩ = some b0) (a b c d : Value) (o : Obj) :
    (((((w2.setCell ⟨n, 0, none⟩ a).setCell ⟨n, 1, none⟩ b).setCell ⟨n, 2, none⟩ c).setCell ⟨n, 3, none⟩ d).alloc o).cell? ⟨n, 1, none⟩ = some b := by
  rw [World.cell?_alloc_lt _ _ _ (by simpa using hn), World.cell?_setCell_other _ _ _ _ (by simp), World.cell?_setCell_other _ _ _ _ (by simp)]
  exact World.cell?_setCell_same _ _ _ (u := b0) (by rw [World.cell?_setCell_other _ _ _ _ (by simp)]; exact c1)

/-- What a round with a token does to the relation. -/
theorem scan_rel (s : ByteArray) (B : Nat) (w w1 : World) (v' : Value) (k f : Nat) (acc : List Tok) (kd n m : Nat) (tx : ByteArray) (x : Int)
    (hlt : k < s.size) (hf : s.size - k < f) (ht : tokL (rest s k) = some (kd, tx.data.toList, n)) (hm : tx.data.toList.length = m) (h1 : 1 ≤ m) (h2 : k + m ≤ s.size) (hacc : acc.length ≤ k)
    (hr : scanR s.data.toList = (acc ++ (scanA f k (rest s k)).1, (scanA f k (rest s k)).2))
    (hown : w1.ownsRow B 30 4 v' (acc.length + 1) (flatP acc ++ [.int .u8 kd, .string tx, .int .i64 n, .int .i64 k])) (hbel : Below B w w1)
    (hx : x = ↑(k + m + skipL false (rest s (k + m)))) : ScanRel s B w v' (.int .i64 x) w1 := by
  subst hm
  subst hx
  obtain ⟨g, hg, hr'⟩ := scan_step s k f acc kd n tx.data.toList hlt hf ht h1 h2 hr
  have hle := skipL_rest_le s (k + tx.data.toList.length)
  refine ⟨k + tx.data.toList.length + skipL false (rest s (k + tx.data.toList.length)), g, acc ++ [⟨kd, tx.data.toList, n, k⟩], by omega, rfl, hg, hr', ?_, hbel, by simp only [List.length_append, List.length_cons, List.length_nil]; omega⟩
  rw [flatP_snoc, List.length_append]
  exact hown

theorem scan_out (l : List UInt8) (B : Nat) (w w' : World) (v : Value) (ts : List Tok) (off er : Nat) (h8 : ¬ 8000 < l.length) (hr : scanR l = (ts, off, 0)) (hb : Below B w w') (ho : w'.ownsRow B 30 4 v ts.length (flatP ts)) :
    ScanPost B w l (.returned (.tuple #[v, .int .i64 off, .int .i64 0])) w' := by
  have hp : scanP l = (ts, off, 0) := by unfold scanP; rw [if_neg h8, hr]; simp
  unfold ScanPost
  rw [hp]
  exact ⟨v, rfl, hb, ho⟩
theorem scan_err (l : List UInt8) (B : Nat) (w w' : World) (ts : List Tok) (off : Nat) (x : Int) (hx : x = off) (h8 : ¬ 8000 < l.length) (hr : scanR l = (ts, off, 8)) (hb : Below B w w') :
    ScanPost B w l (.returned (.tuple #[.slice none 0 0, .int .i64 x, .int .i64 8])) w' := by
  subst hx
  have hp : scanP l = ([], off, 8) := by unfold scanP; rw [if_neg h8, hr]; simp
  unfold ScanPost
  rw [hp]
  exact ⟨_, rfl, hb, World.ownsRow_nil _ _ _ _⟩

set_option maxRecDepth 100000 in
theorem scan_any (s : ByteArray) (w : World) (hs : s.size ≤ 4611686018427387904) :
    Calls Tryd.prog 7 #[.string s] w fun e w' => ScanPost w.heap.size w s.data.toList e w' := by
  obtain ⟨i0, hi, hz0, hz1, hz2⟩ := info_parts infoTok
  by_cases h8 : 8000 < s.size
  · have hp : scanP s.data.toList = ([], 0, 3) := by unfold scanP; rw [if_pos (by simpa using h8)]
    have HP := Lib.hid hp
    clear hp
    go_enter Tryd.func7, Tryd.ntmps7
    go_wp2_with fail
    go_returns
    unfold ScanPost
    rw [HP.out]
    exact ⟨_, rfl, Below.refl _ _, World.ownsRow_nil _ _ _ _⟩
  · have hb := get_bt s
    have hsk := skipL_rest_le s 0
    have hlen : ¬ 8000 < s.data.toList.length := fun h => h8 h
    go_enter Tryd.func7, Tryd.ntmps7
    go_wp2_with (go_at_call 22; refine (skip_any s 0 _ hs (by omega)).mono ?_; rintro e w' ⟨rfl, rfl⟩)
    go_loopw [5, 6] (fun v5 v6 wr => ScanRel s w.heap.size w v5 v6 wr) (fun _ i _ => s.size - (intOf i).toNat)
    case atStart => exact ⟨skipL false (rest s 0), s.size + 1, [], by omega, by simp, by omega, by simp [scanR, rest], World.ownsRow_nil _ _ _ _, Below.refl _ _, by simp⟩
    case round =>
      obtain ⟨k, f, acc, hk, rfl, hf, hr, hown, hbel, hacc⟩ := hrel
      have HR := Lib.hid hr
      clear hr
      by_cases hlt : k < s.size
      · cases hl : letB (bt s k)
        · have HL := Lib.hid hl
          clear hl
          cases hd : digB (bt s k)
          · have HD := Lib.hid hd
            clear hd
            have HT0 := tokL_sym s k hlt HL.out HD.out
            cases hx : symL (rest s k) with
            | none =>
              rw [hx] at HT0
              have HT := Lib.hid HT0
              have HX := Lib.hid hx
              clear HT0 hx
              go_wp2_with (first
                | (go_at_call 23; refine (letter_any _ _ (bt_nonneg _ _) (bt_le _ _)).mono ?_; rintro e w' ⟨rfl, rfl⟩; rw [HL.out])
                | (go_at_call 26; refine (digit_any _ _ (bt_nonneg _ _) (bt_le _ _)).mono ?_; rintro e w' ⟨rfl, rfl⟩; rw [HD.out])
                | (go_at_call 28; refine (symbol_no s k _ hs hk HX.out).mono ?_; rintro e w2 ⟨rfl, hb2⟩; obtain ⟨c0, c1, c2, c3, f0, f1, f2, f3, hsz2⟩ := blk4 rfl hb2))
              go_ret3
              exact scan_err _ _ _ _ acc k _ rfl hlen (by rw [HR.out, scanA_bad s f k (by omega) hlt HT.out]; simp) (by
                have hbel2 : Below w.heap.size w w2 := (hbel.alloc hbel.size _).trans (hb2.mono (by have := hbel.size; simp; omega))
                exact (((hbel2.setCell (by exact hbel.size) _).setCell (by exact hbel.size) _).setCell (by exact hbel.size) _).setCell (by exact hbel.size) _)
            | some x =>
              rw [hx] at HT0
              have HT := Lib.hid HT0
              have HX := Lib.hid hx
              obtain ⟨hpos, _, hxl, _⟩ := symL_len hx
              rw [rest_length] at hxl
              have hsk2 := skipL_rest_le s (k + x.length)
              clear HT0 hx
              go_wp2_with (first
                | (at_builtin; refine wpList_append_own _ rfl (.tmp 54) (.tmp 56) 24 rfl w.heap.size 30 i0 (.agg #[.int .u8 0, .string ⟨#[]⟩, .int .i64 0, .int .i64 0]) 4 40 Tryd.underlying24 hi hz0 hz1 hz2 rfl (by decide) _ _ _ rfl ((owns_four hown hb2 (.int .u8 3) (.string ⟨x.toArray⟩) (.int .i64 0) (.int .i64 k)).alloc _) ⟨w2.heap.size, 0, none⟩ 1 1 [.int .u8 3, .string ⟨x.toArray⟩, .int .i64 0, .int .i64 k] rfl rfl ?g1 ?g2 ?g3 ?g4 ?g5 ?_)
                | (go_at_call 23; refine (letter_any _ _ (bt_nonneg _ _) (bt_le _ _)).mono ?_; rintro e w' ⟨rfl, rfl⟩; rw [HL.out])
                | (go_at_call 26; refine (digit_any _ _ (bt_nonneg _ _) (bt_le _ _)).mono ?_; rintro e w' ⟨rfl, rfl⟩; rw [HD.out])
                | (go_at_call 28; refine (symbol_yes s k x _ hs hk HX.out).mono ?_; rintro e w2 ⟨rfl, hb2⟩; obtain ⟨c0, c1, c2, c3, f0, f1, f2, f3, hsz2⟩ := blk4 rfl hb2))
              case g1 => exact cells_new _ _ _ _ (by simp)
              case g2 => intro u hu; simp at hu; rcases hu with rfl | rfl | rfl | rfl <;> rfl
              case g3 => unfold maxLen; omega
              case g4 => omega
              case g5 => have := hbel.size; simp; omega
              intro v' w3 hown' hgrow _
              have hcell : w3.cell? ⟨wr.heap.size, 1, none⟩ = some (.string ⟨x.toArray⟩) := hgrow.cell (cell_four (by omega) c1 _ _ _ _ _) (fun e => by have := (hown.lt _ e.symm).2; simp at this)
              have hbel2 : Below w.heap.size w w2 := (hbel.alloc hbel.size _).trans (hb2.mono (by have := hbel.size; simp; omega))
              have hbel' : Below w.heap.size w w3 := (((((hbel2.setCell (by exact hbel.size) _).setCell (by exact hbel.size) _).setCell (by exact hbel.size) _).setCell (by exact hbel.size) _).alloc (by have := hbel.size; simp; omega) _).grown hgrow (by have := hbel.size; simp; omega) (fun b hb => (hown.lt b hb).1)
              clear hgrow hown hbel c0 c1 c2 c3 f0 f1 f2 f3
              go_wp2_with (go_at_call 22; refine (skip_at s _ (k + x.length) _ hs (by first | omega | (simp; omega)) (by omega)).mono ?_; rintro e w' ⟨rfl, rfl⟩)
              go_roundw
              case rel =>
                exact scan_rel s _ _ _ _ k f acc 3 0 (x.length) _ _ hlt hf (by simpa using HT.out) (by simp) hpos (by omega) hacc HR.out hown' hbel' (by omega)
              case measure => simp [intOf]; omega
          · have HD := Lib.hid hd
            clear hd
            cases ho : numOk (rest s k)
            · have HT := Lib.hid (tokL_numbad s k hlt HL.out HD.out ho)
              have HO := Lib.hid ho
              clear ho
              go_wp2_with (first
                | (go_at_call 23; refine (letter_any _ _ (bt_nonneg _ _) (bt_le _ _)).mono ?_; rintro e w' ⟨rfl, rfl⟩; rw [HL.out])
                | (go_at_call 26; refine (digit_any _ _ (bt_nonneg _ _) (bt_le _ _)).mono ?_; rintro e w' ⟨rfl, rfl⟩; rw [HD.out])
                | (go_at_call 27; refine (number_no s k _ hs hlt HD.out HO.out).mono ?_; rintro e w2 ⟨rfl, hb2⟩; obtain ⟨c0, c1, c2, c3, f0, f1, f2, f3, hsz2⟩ := blk4 rfl hb2))
              go_ret3
              exact scan_err _ _ _ _ acc k _ rfl hlen (by rw [HR.out, scanA_bad s f k (by omega) hlt HT.out]; simp) (by
                have hbel2 : Below w.heap.size w w2 := (hbel.alloc hbel.size _).trans (hb2.mono (by have := hbel.size; simp; omega))
                exact (((hbel2.setCell (by exact hbel.size) _).setCell (by exact hbel.size) _).setCell (by exact hbel.size) _).setCell (by exact hbel.size) _)
            · have HT := Lib.hid (tokL_num s k hlt HL.out HD.out ho)
              have HO := Lib.hid ho
              clear ho
              have hle := runL_rest_le digB s k
              have hpos : 1 ≤ runL digB (rest s k) := by rw [runL_hit digB s k hlt HD.out]; omega
              have hsk2 := skipL_rest_le s (k + runL digB (rest s k))
              go_wp2_with (first
                | (at_builtin; refine wpList_append_own _ rfl (.tmp 54) (.tmp 56) 24 rfl w.heap.size 30 i0 (.agg #[.int .u8 0, .string ⟨#[]⟩, .int .i64 0, .int .i64 0]) 4 40 Tryd.underlying24 hi hz0 hz1 hz2 rfl (by decide) _ _ _ rfl ((owns_four hown hb2 (.int .u8 2) (.string (s.extract k (k + runL digB (rest s k)))) (.int .i64 ↑(numV ((rest s k).take (runL digB (rest s k))))) (.int .i64 k)).alloc _) ⟨w2.heap.size, 0, none⟩ 1 1 [.int .u8 2, .string (s.extract k (k + runL digB (rest s k))), .int .i64 ↑(numV ((rest s k).take (runL digB (rest s k)))), .int .i64 k] rfl rfl ?e1 ?e2 ?e3 ?e4 ?e5 ?_)
                | (go_at_call 23; refine (letter_any _ _ (bt_nonneg _ _) (bt_le _ _)).mono ?_; rintro e w' ⟨rfl, rfl⟩; rw [HL.out])
                | (go_at_call 26; refine (digit_any _ _ (bt_nonneg _ _) (bt_le _ _)).mono ?_; rintro e w' ⟨rfl, rfl⟩; rw [HD.out])
                | (go_at_call 27; refine (number_yes s k _ hs hlt HD.out HO.out).mono ?_; rintro e w2 ⟨rfl, hb2⟩; obtain ⟨c0, c1, c2, c3, f0, f1, f2, f3, hsz2⟩ := blk4 rfl hb2))
              case e1 => exact cells_new _ _ _ _ (by simp)
              case e2 => intro u hu; simp at hu; rcases hu with rfl | rfl | rfl | rfl <;> rfl
              case e3 => unfold maxLen; omega
              case e4 => omega
              case e5 => have := hbel.size; simp; omega
              intro v' w3 hown' hgrow _
              have hcell : w3.cell? ⟨wr.heap.size, 1, none⟩ = some (.string (s.extract k (k + runL digB (rest s k)))) := hgrow.cell (cell_four (by omega) c1 _ _ _ _ _) (fun e => by have := (hown.lt _ e.symm).2; simp at this)
              have hbel2 : Below w.heap.size w w2 := (hbel.alloc hbel.size _).trans (hb2.mono (by have := hbel.size; simp; omega))
              have hbel' : Below w.heap.size w w3 := (((((hbel2.setCell (by exact hbel.size) _).setCell (by exact hbel.size) _).setCell (by exact hbel.size) _).setCell (by exact hbel.size) _).alloc (by have := hbel.size; simp; omega) _).grown hgrow (by have := hbel.size; simp; omega) (fun b hb => (hown.lt b hb).1)
              clear hgrow hown hbel c0 c1 c2 c3 f0 f1 f2 f3
              go_wp2_with (go_at_call 22; refine (skip_at s _ (k + runL digB (rest s k)) _ hs (by first | omega | (simp; omega)) (by omega)).mono ?_; rintro e w' ⟨rfl, rfl⟩)
              go_roundw
              case rel =>
                rw [ext_eq] at hown'
                exact scan_rel s _ _ _ _ k f acc 2 _ (runL digB (rest s k)) _ _ hlt hf (by simpa using HT.out) (by simp; omega) hpos (by omega) hacc HR.out hown' hbel' (by omega)
              case measure => simp [intOf]; omega
        · have hle := runL_rest_le innB s k
          have HT := Lib.hid (tokL_word s k hlt hl)
          have hpos : 1 ≤ runL innB (rest s k) := by rw [runL_hit innB s k hlt (by simp [innB, hl])]; omega
          have hsk2 := skipL_rest_le s (k + runL innB (rest s k))
          go_wp2_with (first
            | (at_builtin; refine wpList_append_own _ rfl (.tmp 54) (.tmp 56) 24 rfl w.heap.size 30 i0 (.agg #[.int .u8 0, .string ⟨#[]⟩, .int .i64 0, .int .i64 0]) 4 40 Tryd.underlying24 hi hz0 hz1 hz2 rfl (by decide) _ _ _ rfl ((hown.alloc _).alloc _) ⟨wr.heap.size + 1, 0, none⟩ 1 1 [.int .u8 1, .string (s.extract k (k + runL innB (rest s k))), .int .i64 0, .int .i64 k] rfl rfl ?c1 ?c2 ?c3 ?c4 ?c5 ?_)
            | (go_at_call 23; refine (letter_any _ _ (bt_nonneg _ _) (bt_le _ _)).mono ?_; rintro e w' ⟨rfl, rfl⟩; rw [hl])
            | (go_at_call 24; refine (while_inner s k _ hs hk).mono ?_; rintro e w' ⟨rfl, rfl⟩))
          case c1 => exact cells_new _ _ _ _ (by simp)
          case c2 => intro u hu; simp at hu; rcases hu with rfl | rfl | rfl | rfl <;> rfl
          case c3 => unfold maxLen; omega
          case c4 => omega
          case c5 => have := hbel.size; simp; omega
          intro v' w1 hown' hgrow _
          have hcell : w1.cell? ⟨wr.heap.size, 1, none⟩ = some (.string (s.extract k (k + runL innB (rest s k)))) := grown_keep hown hgrow (by simp)
          have hbel' := (((hbel.alloc hbel.size _).alloc (by have := hbel.size; simp; omega) _).grown hgrow (by have := hbel.size; simp; omega) (fun b hb => (hown.lt b hb).1))
          clear hgrow hown hbel
          go_wp2_with (go_at_call 22; refine (skip_at s _ (k + runL innB (rest s k)) _ hs (by first | omega | (simp; omega)) (by omega)).mono ?_; rintro e w' ⟨rfl, rfl⟩)
          go_roundw
          case rel =>
            rw [ext_eq] at hown'
            exact scan_rel s _ _ _ _ k f acc 1 0 (runL innB (rest s k)) _ _ hlt hf (by simpa using HT.out) (by simp; omega) hpos (by omega) hacc HR.out hown' hbel' (by omega)
          case measure => simp [intOf]; omega
      · have hend := Lib.hid (scanA_end s f k (by omega) (by omega))
        go_wp2_with (at_builtin; refine wpList_append_own _ rfl (.tmp 63) (.tmp 67) 24 rfl w.heap.size 30 i0 (.agg #[.int .u8 0, .string ⟨#[]⟩, .int .i64 0, .int .i64 0]) 4 40 Tryd.underlying24 hi hz0 hz1 hz2 rfl (by decide) _ _ _ rfl (hown.alloc _) ⟨wr.heap.size, 0, none⟩ 1 1 [.int .u8 0, .string ⟨#[]⟩, .int .i64 0, .int .i64 s.size] rfl rfl ?d1 ?d2 ?d3 ?d4 ?d5 ?_)
        case d1 => exact cells_new _ _ _ _ rfl
        case d2 => intro u hu; simp at hu; rcases hu with rfl | rfl | rfl | rfl <;> rfl
        case d3 => unfold maxLen; omega
        case d4 => omega
        case d5 => have := hbel.size; simp; omega
        intro v' w1 hown' hgrow _
        have hbel' := (hbel.alloc hbel.size _).grown hgrow (by have := hbel.size; simp; omega) (fun b hb => (hown.lt b hb).1)
        clear hgrow hown hbel
        go_wp2_with fail
        go_ret3
        exact scan_out _ _ _ _ _ (acc ++ [⟨0, [], 0, s.size⟩]) 0 0 hlen (by rw [HR.out, hend.out, show k = s.size by omega]) hbel' (by rw [flatP_snoc, List.length_append]; exact hown')

end Go.Proofs.YtkmchnggcjmchaaDoor
