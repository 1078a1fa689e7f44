/- Contracts: the law's plain, the reference's Join. -/
import Derived.Test.YtnjaflldlhiefaaTkM
namespace Go.Proofs.Ytnjaflldlhiefaa
open Go.RowKit Go.PlainAid
set_option linter.unusedVariables false
set_option maxHeartbeats 1000000

def zt (t : Tok) : Tok := ⟨t.kind, t.text, t.n, 0⟩
def zj (ts : List Tok) (j : Nat) : List Tok := (ts.take j).map zt ++ ts.drop j
theorem zj_step (ts : List Tok) (j : Nat) (h : j < ts.length) : (flatP (zj ts j)).set (j * 4 + 3) (.int .i64 0) = flatP (zj ts (j + 1)) := by
  have hd : ts.drop j = ts[j] :: ts.drop (j + 1) := List.drop_eq_getElem_cons h
  have ht : ts.take (j + 1) = ts.take j ++ [ts[j]] := List.take_succ_eq_append_getElem h
  have hl : (flatP ((ts.take j).map zt)).length = j * 4 := by rw [flatP_length, List.length_map, List.length_take]; omega
  unfold zj
  rw [ht, hd]
  simp only [flatP, List.flatMap_append, List.flatMap_cons, List.map_append, List.map_cons, List.map_nil, List.flatMap_nil, List.append_nil]
  rw [List.set_append_right _ _ (by show (flatP ((ts.take j).map zt)).length ≤ _; omega)]
  rw [show j * 4 + 3 - (List.flatMap tokV (List.map zt (List.take j ts))).length = 3 from by show j * 4 + 3 - (flatP ((ts.take j).map zt)).length = 3; omega]
  simp [tokV, zt]
theorem zj_get (ts : List Tok) (j : Nat) (h : j < ts.length) : (flatP (zj ts j))[j * 4 + 3]? = some (.int .i64 (ts[j]).pos) := by
  have hd : ts.drop j = ts[j] :: ts.drop (j + 1) := List.drop_eq_getElem_cons h
  have hl : (flatP ((ts.take j).map zt)).length = j * 4 := by rw [flatP_length, List.length_map, List.length_take]; omega
  unfold zj
  rw [hd]
  simp only [flatP, List.flatMap_append, List.flatMap_cons]
  rw [List.getElem?_append_right (by show (flatP ((ts.take j).map zt)).length ≤ _; omega)]
  rw [show j * 4 + 3 - (List.flatMap tokV (List.map zt (List.take j ts))).length = 3 from by show j * 4 + 3 - (flatP ((ts.take j).map zt)).length = 3; omega]
  rfl
theorem flatP_one (ts : List Tok) : ∀ u ∈ flatP ts, u.oneCell' = true := by
  intro u hu
  simp only [flatP, List.mem_flatMap] at hu
  obtain ⟨t, _, h⟩ := hu
  simp only [tokV, List.mem_cons, List.mem_nil_iff, or_false] at h
  rcases h with rfl | rfl | rfl | rfl <;> rfl

theorem plain_any (v : Value) (n : Nat) (ts : List Tok) (w : World) (hv : Sl w v n 4 (flatP ts)) (ht : ts.length = n) (hn : n ≤ 1000000) :
    Calls Try.prog 20 #[v] w fun e w' => ∃ v', e = .returned v' ∧ Below w.heap.size w w' ∧ w'.ownsRow w.heap.size 36 4 v' n (flatP (ts.map zt)) := by
  go_enter Try.func20, Try.ntmps20
  go_wp2_with fail
  refine (clone_any v n (flatP ts) w hv (flatP_one ts) hn).mono ?_
  rintro e w1 ⟨v', rfl, hb1, ho1⟩
  have hsz1 := hb1.size
  have ho1' := ho1
  rcases ho1'.2 with ⟨rfl, hn0⟩ | ⟨g, cap, cur, rfl, hg, hh, hc, hm, hs, htk⟩
  · subst hn0
    have hts : ts = [] := List.eq_nil_of_length_eq_zero ht
    subst hts
    clear ho1' ht hn
    go_wp2_with fail
    go_loop [8] (fun v => v = .int .i64 0) (fun _ => 0)
    case atStart => rfl
    case round =>
      obtain rfl := hrel
      go_wp2_with fail
      go_ret
      exact ⟨_, rfl, hb1, World.ownsRow_nil _ _ _ _⟩
  · unfold maxLen at hm
    have HT := Lib.hid ht
    clear ho1' hh hs htk ht
    go_wp2_with fail
    go_loopw [8] (fun v8 wr => ∃ j : Nat, j ≤ n ∧ v8 = .int .i64 j ∧ Below w.heap.size w wr ∧ wr.ownsRow w.heap.size 36 4 (.slice (some ⟨g, 0, none⟩) n cap) n (flatP (zj ts j))) (fun v8 _ => n - (intOf v8).toNat)
    case atStart => exact ⟨0, by omega, rfl, hb1, by simpa [zj] using ho1⟩
    case round =>
      obtain ⟨j, hj, rfl, hbel, hown⟩ := hrel
      by_cases hjn : j < n
      · have hcell : wr.cell? ⟨g, j * 4 + 3, none⟩ = some (.int .i64 (ts[j]'(by rw [HT.out]; exact hjn)).pos) := by rw [hown.cellAt _ (by omega)]; exact zj_get ts j (by rw [HT.out]; exact hjn)
        have hfr : wr.frozen? ⟨g, j * 4 + 3, none⟩ = false := hown.frozenAt _
        have hst := (hown.stored (j * 4 + 3) (.int .i64 0)).1
        rw [zj_step ts j (by rw [HT.out]; exact hjn)] at hst
        have HST := Lib.hid hst
        have hgg := (hown.lt g rfl).1
        clear hst
        go_wp2_with fail
        go_roundw
        case rel => exact ⟨j + 1, by omega, by go_num, hbel.setCell (by exact hgg) _, HST.out⟩
        case measure => simp [intOf]; omega
      · obtain rfl : j = n := by omega
        have hz : zj ts j = ts.map zt := by unfold zj; rw [List.take_of_length_le (by rw [HT.out]; exact Nat.le_refl _), List.drop_of_length_le (by rw [HT.out]; exact Nat.le_refl _)]; simp
        rw [hz] at hown
        go_wp2_with fail
        go_ret
        exact ⟨_, rfl, hbel, hown⟩

theorem ba_append (a b : List UInt8) : (⟨a.toArray⟩ : ByteArray) ++ (⟨b.toArray⟩ : ByteArray) = ⟨(a ++ b).toArray⟩ := by
  apply ByteArray.ext
  simp [ByteArray.data_append]
theorem join_snoc (xs : List (List UInt8)) (y sep : List UInt8) (h : xs ≠ []) : Lib.join (xs ++ [y]) sep = Lib.join xs sep ++ sep ++ y := by
  cases xs with
  | nil => exact absurd rfl h
  | cons x r => rw [List.cons_append, Lib.join_cons, Lib.join_cons]; simp [Lib.joinTail]

theorem joinK_step (l : List (Nat × List UInt8)) (j : Nat) : (joinK (l.take j)).length ≤ (joinK (l.take (j + 1))).length := by
  cases h : l[j]? with
  | none => rw [List.take_add_one, h]; simp
  | some x =>
    by_cases h0 : x.1 = 0
    · unfold joinK; rw [kept_miss h h0]; exact Nat.le_refl _
    · unfold joinK; rw [kept_hit h h0]
      cases hk : kept (l.take j) with
      | nil => simp [Lib.join_nil]
      | cons y r => rw [join_snoc _ _ _ (by simp)]; simp
theorem joinK_mono (l : List (Nat × List UInt8)) (j : Nat) : (joinK (l.take j)).length ≤ (joinK l).length := by
  have h : ∀ d, (joinK (l.take j)).length ≤ (joinK (l.take (j + d))).length := by
    intro d
    induction d with
    | zero => exact Nat.le_refl _
    | succ d ih => exact Nat.le_trans ih (joinK_step l (j + d))
  have := h l.length
  rwa [List.take_of_length_le (l := l) (i := j + l.length) (by omega)] at this
theorem joinK_room {l : List (Nat × List UInt8)} {j kd : Nat} {tx : List UInt8} (h : l[j]? = some (kd, tx)) (h0 : kd ≠ 0) :
    (kept (l.take j) ≠ [] → (joinK (l.take j)).length + 1 + tx.length ≤ (joinK l).length) ∧ (kept (l.take j) = [] → tx.length ≤ (joinK l).length) := by
  have h1 := joinK_mono l (j + 1)
  unfold joinK at h1 ⊢
  rw [kept_hit h h0] at h1
  refine ⟨fun hne => ?_, fun he => ?_⟩
  · rw [join_snoc _ _ _ hne] at h1; simp at h1; omega
  · rw [he] at h1; simpa [Lib.join_one] using h1
theorem size_mk (l : List UInt8) : (⟨l.toArray⟩ : ByteArray).size = l.length := by simp [ByteArray.size]

theorem rjoin_any (v : Value) (l : List (Nat × List UInt8)) (w : World) (hv : Kt w v .i64 l) (hlen : l.length ≤ 1000000) (hjl : (joinK l).length ≤ 140737488355328) :
    Calls Try.prog 18 #[v] w fun e w' => e = .returned (.string ⟨(joinK l).toArray⟩) ∧ Below w.heap.size w w' := by
  obtain ⟨a, cap, rfl, hc, hm, h2⟩ := hv
  unfold maxLen at hm
  by_cases h0 : l = []
  · subst h0
    go_enter Try.func18, Try.ntmps18
    go_wp2_with fail
    go_loop [3, 9] (fun v3 v => v3 = .string ⟨#[]⟩ ∧ v = .int .i64 0) (fun _ _ => 0)
    case atStart => exact ⟨rfl, rfl⟩
    case round =>
      obtain ⟨rfl, rfl⟩ := hrel
      go_wp2_with fail
      go_ret
      exact ⟨rfl, Below.refl _ _⟩
  · rcases h2 with h2 | ⟨b, o, rfl, hb, hcell⟩
    · exact absurd h2 h0
    have HC := Lib.hid hcell
    obtain ⟨n, hn⟩ : ∃ n, n = l.length := ⟨_, rfl⟩
    rw [← hn] at hc hlen ⊢
    have HN := Lib.hid hn
    clear hcell h0 hn
    go_enter Try.func18, Try.ntmps18
    go_wp2_with fail
    go_loopw [3, 4, 9] (fun v3 v4 v9 wr => ∃ (j : Nat) (fst : Bool) (out : ByteArray), j ≤ n ∧ v9 = .int .i64 j ∧ v4 = .bool fst ∧ v3 = .string out ∧ Below w.heap.size w wr ∧ Hid (fst = (kept (l.take j)).isEmpty) ∧ Hid (out = ⟨(joinK (l.take j)).toArray⟩)) (fun _ _ v9 _ => n - (intOf v9).toNat)
    case atStart => exact ⟨0, true, ⟨#[]⟩, by omega, rfl, rfl, rfl, Below.refl _ _, rfl, rfl⟩
    case round =>
      obtain ⟨j, fst, out, hjn, rfl, rfl, rfl, hbel, hf, ho⟩ := hrel
      have hsz := hbel.size
      by_cases hlt : j < n
      · obtain ⟨x, hx⟩ : ∃ x, l[j]? = some x := ⟨_, List.getElem?_eq_getElem (by rw [← HN.out]; exact hlt)⟩
        obtain ⟨c0, c1, ⟨u2, c2⟩, ⟨u3, c3⟩⟩ := HC.out j x hx
        have hA : ∀ i, wr.cell? ⟨b, i, none⟩ = w.cell? ⟨b, i, none⟩ := fun i => hbel.cell (p := ⟨b, i, none⟩) hb
        rw [← hA] at c0 c1 c2 c3
        clear hA
        obtain ⟨kd, tx⟩ := x
        dsimp only at c0 c1
        by_cases hkd : kd = 0
        · subst hkd
          have HK := Lib.hid (kept_miss hx rfl)
          clear hx
          go_wp2_with fail
          go_roundw
          case rel => exact ⟨j + 1, fst, out, by omega, by go_num, rfl, rfl, by go_grown, by show _ = _; rw [HK.out]; exact hf.out, by show _ = _; unfold joinK; rw [HK.out]; exact ho.out⟩
          case measure => simp [intOf]; omega
        · have HK := Lib.hid (kept_hit hx hkd)
          have hk1 : ((kd : Int) == 0) = false := by simpa using hkd
          have hroom := joinK_room hx hkd
          clear hx hkd
          cases fst
          · have hr : out.size + 1 + tx.length ≤ 140737488355328 := by
              have hne : kept (l.take j) ≠ [] := by have := hf.out; intro e; rw [e] at this; cases this
              rw [ho.out, size_mk]; have := hroom.1 hne; omega
            clear hroom
            go_wp2_with fail
            go_roundw
            case rel => exact ⟨j + 1, false, _, by omega, by go_num, rfl, rfl, by go_grown, by show _ = _; rw [HK.out]; simp, by
              have hne : kept (l.take j) ≠ [] := by have := hf.out; intro e; rw [e] at this; cases this
              show _ = _
              unfold joinK at ho ⊢
              rw [HK.out, join_snoc _ _ _ hne, ho.out, ← ba_append, ← ba_append]⟩
            case measure => simp [intOf]; omega
          · have hr : out.size + tx.length ≤ 140737488355328 := by
              have hne : kept (l.take j) = [] := by have := hf.out; exact List.isEmpty_iff.1 this.symm
              have := hroom.2 hne
              rw [ho.out, size_mk]; unfold joinK; rw [hne]; simp [Lib.join_nil]; omega
            clear hroom
            go_wp2_with fail
            go_roundw
            case rel => exact ⟨j + 1, false, _, by omega, by go_num, rfl, rfl, by go_grown, by show _ = _; rw [HK.out]; simp, by
              have hne : kept (l.take j) = [] := by have := hf.out; exact List.isEmpty_iff.1 this.symm
              show _ = _
              unfold joinK at ho ⊢
              rw [HK.out, ho.out, hne, List.nil_append, Lib.join_one]
              show (⟨([] : List UInt8).toArray⟩ : ByteArray) ++ _ = _
              rw [ba_append]; rfl⟩
            case measure => simp [intOf]; omega
      · obtain rfl : j = n := by omega
        have hall : l.take j = l := List.take_of_length_le (by have := HN.out; omega)
        rw [hall] at ho
        clear hall
        go_wp2_with fail
        go_ret
        exact ⟨by rw [ho.out]; rfl, hbel⟩

end Go.Proofs.Ytnjaflldlhiefaa
