/- Several of the texts below, joined: TkD TkE TkF TkJ. -/
import Derived.Test.YtfjpbkmnlmecgaaGreatDoorQga
import Derived.Test.YtfjpbkmnlmecgaaGreatDoorQgb
import Derived.BigGuardPart
import Derived.WalkSpells
import Derived.WalkLawsBesides
import Derived.Test.YtfjpbkmnlmecgaaGreatDoorProg
import Derived.Deep.RegionHeld3
section
/- Contracts: token.number that breaks a rule; token.symbol. -/
namespace Go.Proofs.YtfjpbkmnlmecgaaGreatDoor
open Go.RowKit Go.PlainAid
set_option linter.unusedVariables false
set_option maxHeartbeats 400000

set_option maxRecDepth 100000 in
theorem number_bad (s : ByteArray) (at0 m : Nat) (w : World) (hs : s.size ≤ 4611686018427387904) (ha : at0 + m ≤ s.size) (h1 : 1 ≤ m)
    (hm : Hid (runL digB (rest s at0) = m)) (hbad : 7 ≤ m ∨ (2 ≤ m ∧ m ≤ 6 ∧ (bt s at0 == 48) = true) ∨ (m ≤ 6 ∧ (m ≤ 1 ∨ (bt s at0 == 48) = false) ∧ at0 + m < s.size ∧ (Hid (letB (bt s (at0 + m)) = true) ∨ (Hid (letB (bt s (at0 + m)) = false) ∧ (bt s (at0 + m) == 95) = true)))) :
    Calls Tryz.prog 143 #[.string s, .int .i64 at0] w fun e w' => e = .returned (.tuple #[.agg #[.int .u8 0, .string ⟨#[]⟩, .int .i64 0, .int .i64 0], .bool false]) ∧ Below w.heap.size w w' := by
  have hb := get_bt s
  have hwh : Hid (∀ w, Calls Tryz.prog 140 #[.string s, .int .i64 at0, .func (.func 142) #[] #[]] w fun e w' => e = .returned (.int .i64 ↑(at0 + m)) ∧ w = w') := by
    intro w; have := while_digit s at0 w hs (by omega); rw [hm.out] at this; exact this
  clear hm
  have hz0 := Tryz.zeroValue139
  rcases hbad with h7 | ⟨h2, h6, hz⟩ | ⟨h6, hz | hz, he, hl | ⟨hl, h95⟩⟩
  all_goals
    go_enter Tryz.func143, Tryz.ntmps143
    go_wp2_with (first
        | (go_at_call 140; refine (hwh.out _).mono ?_; rintro e w' ⟨rfl, rfl⟩)
        | (go_at_call 139; first | (exfalso; omega) | (refine (letter_any _ _ (bt_nonneg _ _) (bt_le _ _)).mono ?_; rintro e w' ⟨rfl, rfl⟩; rw [hl.out])))
    all_goals first | (exfalso; omega) | skip
    all_goals
      go_returns
      exact ⟨rfl, by go_grown⟩

/-- The 13 symbols as cells. -/
abbrev symCells : Array Value := #[.string ⟨#[45, 62]⟩, .string ⟨#[60, 61]⟩, .string ⟨#[62, 61]⟩, .string ⟨#[61, 61]⟩, .string ⟨#[60]⟩, .string ⟨#[62]⟩, .string ⟨#[40]⟩, .string ⟨#[41]⟩, .string ⟨#[44]⟩, .string ⟨#[59]⟩, .string ⟨#[58]⟩, .string ⟨#[43]⟩, .string ⟨#[45]⟩]
def symAt (j : Nat) : ByteArray := ⟨(syms.getD j []).toArray⟩
theorem sym_cell (w : World) (o : Obj) (j : Nat) (h : j < 13) : ((w.alloc o).alloc (.cells symCells 9)).cell? ⟨w.heap.size + 1, j, none⟩ = some (.string (symAt j)) := by
  rw [World.cell?_alloc_at _ _ _ _ (by simp)]
  match j, h with
  | 0, _ | 1, _ | 2, _ | 3, _ | 4, _ | 5, _ | 6, _ | 7, _ | 8, _ | 9, _ | 10, _ | 11, _ | 12, _ => rfl
theorem find_take {α : Type} (p : α → Bool) : ∀ (l : List α) (j : Nat) (x : α), (l.take j).find? p = none → l[j]? = some x → p x = true → l.find? p = some x
  | [], j, x, _, h, _ => by simp at h
  | a :: l, 0, x, _, h, hp => by simp at h; subst h; simp [hp]
  | a :: l, j + 1, x, h0, h, hp => by
    simp only [List.take_succ_cons, List.find?_cons] at h0
    split at h0
    · simp at h0
    · rename_i ha
      rw [List.find?_cons, ha]
      exact find_take p l j x h0 (by simpa using h) hp
theorem find_take_none {α : Type} (p : α → Bool) (l : List α) (j : Nat) (x : α) (h0 : (l.take j).find? p = none) (h : l[j]? = some x) (hp : p x = false) : (l.take (j + 1)).find? p = none := by
  rw [List.find?_eq_none] at h0 ⊢
  intro y hy
  obtain ⟨hlt, rfl⟩ := List.getElem?_eq_some_iff.1 h
  rw [List.take_succ_eq_append_getElem hlt] at hy
  rcases List.mem_append.1 hy with hy | hy
  · exact h0 y hy
  · simp at hy; subst hy; simp [hp]
theorem ext_all (s : ByteArray) (a : Nat) : (s.extract a s.size).data.toList = rest s a := by
  rw [ext_list]; exact List.take_of_length_le (by simp)

set_option maxRecDepth 100000 in
theorem symbol_any (s : ByteArray) (at0 : Nat) (w : World) (hs : s.size ≤ 4611686018427387904) (ha : at0 ≤ s.size) :
    Calls Tryz.prog 144 #[.string s, .int .i64 at0] w fun e w' =>
      ((∃ x, symL (rest s at0) = some x ∧ e = .returned (.tuple #[.agg #[.int .u8 3, .string ⟨x.toArray⟩, .int .i64 0, .int .i64 at0], .bool true])) ∨
       (symL (rest s at0) = none ∧ e = .returned (.tuple #[.agg #[.int .u8 0, .string ⟨#[]⟩, .int .i64 0, .int .i64 0], .bool false]))) ∧ Below w.heap.size w w' := by
  have HC : Hid (∀ j, j < 13 → ((w.alloc (.cells #[.int .u8 0, .string ⟨#[]⟩, .int .i64 0, .int .i64 0] 139)).alloc (.cells symCells 9)).cell? ⟨w.heap.size + 1, j, none⟩ = some (.string (symAt j))) := fun j hj => sym_cell w _ j hj
  go_enter Tryz.func144, Tryz.ntmps144
  go_wp2_with fail
  go_loop [10] (fun i => ∃ j : Nat, j ≤ 13 ∧ i = .int .i64 j ∧ Hid ((syms.take j).find? (fun x => x.isPrefixOf (rest s at0)) = none)) (fun i => 13 - (intOf i).toNat)
  case atStart => exact ⟨0, by omega, rfl, rfl⟩
  case round =>
    obtain ⟨j, hj, rfl, hr⟩ := hrel
    by_cases hj13 : j < 13
    · have hcj := HC.out j hj13
      have hget : Hid (syms[j]? = some (syms.getD j [])) := by
        have : j < syms.length := hj13
        show syms[j]? = some (syms.getD j [])
        rw [List.getD_eq_getElem?_getD]; simp [this]
      cases hp : (syms.getD j []).isPrefixOf (rest s at0)
      · have HP : Hid ((syms.getD j []).isPrefixOf (rest s at0) = false) := hp
        clear hp
        go_wp2_with (go_at_call 89; refine (Tryz.strings_HasPrefix _ (symAt j) _).mono ?_; rintro e w' ⟨rfl, hw⟩; obtain rfl := hw.symm; rw [ext_all, show Lib.hasPrefix (rest s at0) (symAt j).data.toList = false from HP.out])
        go_round
        case rel => exact ⟨j + 1, by omega, by go_num, find_take_none _ _ _ _ hr.out hget.out HP.out⟩
        case measure => simp [intOf]; omega
      · have HP : Hid ((syms.getD j []).isPrefixOf (rest s at0) = true) := hp
        clear hp
        go_wp2_with (go_at_call 89; refine (Tryz.strings_HasPrefix _ (symAt j) _).mono ?_; rintro e w' ⟨rfl, hw⟩; obtain rfl := hw.symm; rw [ext_all, show Lib.hasPrefix (rest s at0) (symAt j).data.toList = true from HP.out])
        go_returns
        exact ⟨.inl ⟨_, find_take _ _ _ _ hr.out hget.out HP.out, rfl⟩, by go_grown⟩
    · have : j = 13 := by omega
      subst this
      go_wp2_with fail
      go_returns
      exact ⟨.inr ⟨hr.out, rfl⟩, by go_grown⟩

end Go.Proofs.YtfjpbkmnlmecgaaGreatDoor
end

section
/- Contracts: token.number at whatever digits; token.Scan. -/
namespace Go.Proofs.YtfjpbkmnlmecgaaGreatDoor
open Go.RowKit Go.PlainAid
set_option linter.unusedVariables false
set_option maxHeartbeats 400000

theorem number_yes (s : ByteArray) (k : Nat) (w : World) (hs : s.size ≤ 4611686018427387904) (hk : k < s.size) (hd : digB (bt s k) = true) (ho : numOk (rest s k) = true) :
    Calls Tryz.prog 143 #[.string s, .int .i64 k] w fun e w' => e = .returned (.tuple #[.agg #[.int .u8 2, .string (s.extract k (k + runL digB (rest s k))), .int .i64 (numV ((rest s k).take (runL digB (rest s k)))), .int .i64 k], .bool true]) ∧ Below w.heap.size w w' := by
  have h1 : 1 ≤ runL digB (rest s k) := by rw [runL_hit digB s k hk hd]; omega
  have h2 := runL_rest_le digB s k
  unfold numOk at ho
  rw [rest_drop, afterB_rest, zeroB_rest s k hk] at ho
  simp only [Bool.not_eq_true', Bool.or_eq_false_iff, decide_eq_false_iff_not, Bool.and_eq_false_iff] at ho
  obtain ⟨⟨h6, hz⟩, ha⟩ := ho
  refine number_ok s k _ w hs (by omega) h1 rfl (by omega) ?_ ?_
  · rcases hz with hz | hz
    · exact .inr (by simpa using hz)
    · exact .inl (by omega)
  · rcases ha with ha | ⟨ha, hb⟩
    · exact .inl (by omega)
    · by_cases hlt : k + runL digB (rest s k) < s.size
      · exact .inr ⟨hlt, ha, by simpa using hb⟩
      · exact .inl (by omega)

theorem number_no (s : ByteArray) (k : Nat) (w : World) (hs : s.size ≤ 4611686018427387904) (hk : k < s.size) (hd : digB (bt s k) = true) (ho : numOk (rest s k) = false) :
    Calls Tryz.prog 143 #[.string s, .int .i64 k] w fun e w' => e = .returned (.tuple #[.agg #[.int .u8 0, .string ⟨#[]⟩, .int .i64 0, .int .i64 0], .bool false]) ∧ Below w.heap.size w w' := by
  have h1 : 1 ≤ runL digB (rest s k) := by rw [runL_hit digB s k hk hd]; omega
  have h2 := runL_rest_le digB s k
  unfold numOk at ho
  rw [rest_drop, afterB_rest, zeroB_rest s k hk] at ho
  simp only [Bool.not_eq_false', Bool.or_eq_true, decide_eq_true_eq, Bool.and_eq_true] at ho
  refine number_bad s k _ w hs (by omega) h1 rfl ?_
  by_cases h7 : 7 ≤ runL digB (rest s k)
  · exact .inl h7
  by_cases hz : 2 ≤ runL digB (rest s k) ∧ bt s k = 48
  · exact .inr (.inl ⟨hz.1, by omega, by simpa using hz.2⟩)
  rcases ho with (ho | ho) | ho
  · omega
  · exact absurd ⟨by omega, ho.1⟩ hz
  · refine .inr (.inr ⟨by omega, ?_, ho.1, ?_⟩)
    · by_cases h2 : runL digB (rest s k) ≤ 1
      · exact .inl h2
      · exact .inr (by simp; intro h; exact hz ⟨by omega, h⟩)
    · by_cases hl : letB (bt s (k + runL digB (rest s k))) = true
      · exact .inl hl
      · have hl' : letB (bt s (k + runL digB (rest s k))) = false := by simpa using hl
        exact .inr ⟨hl', by rcases ho.2 with h | h; exact absurd h hl; simpa using h⟩

theorem symbol_yes (s : ByteArray) (k : Nat) (x : List UInt8) (w : World) (hs : s.size ≤ 4611686018427387904) (hk : k ≤ s.size) (hx : symL (rest s k) = some x) :
    Calls Tryz.prog 144 #[.string s, .int .i64 k] w fun e w' => e = .returned (.tuple #[.agg #[.int .u8 3, .string ⟨x.toArray⟩, .int .i64 0, .int .i64 k], .bool true]) ∧ Below w.heap.size w w' :=
  (symbol_any s k w hs hk).mono fun e w' ⟨h, hb⟩ => by
    rcases h with ⟨y, hy, rfl⟩ | ⟨hy, rfl⟩
    · rw [hx] at hy; cases hy; exact ⟨rfl, hb⟩
    · rw [hx] at hy; cases hy
theorem symbol_no (s : ByteArray) (k : Nat) (w : World) (hs : s.size ≤ 4611686018427387904) (hk : k ≤ s.size) (hx : symL (rest s k) = none) :
    Calls Tryz.prog 144 #[.string s, .int .i64 k] w fun e w' => e = .returned (.tuple #[.agg #[.int .u8 0, .string ⟨#[]⟩, .int .i64 0, .int .i64 0], .bool false]) ∧ Below w.heap.size w w' :=
  (symbol_any s k w hs hk).mono fun e w' ⟨h, hb⟩ => by
    rcases h with ⟨y, hy, rfl⟩ | ⟨hy, rfl⟩
    · rw [hx] at hy; cases hy
    · exact ⟨rfl, hb⟩

end Go.Proofs.YtfjpbkmnlmecgaaGreatDoor
end

section
/- Contract: token.Scan. -/
namespace Go.Proofs.YtfjpbkmnlmecgaaGreatDoor
open Go.RowKit Go.PlainAid
set_option linter.unusedVariables false
set_option maxHeartbeats 1000000

theorem infoTok : (Tryz.prog.info? 139).map (fun i => (i.zero, i.size, i.bytes)) = some (some (.agg #[.int .u8 0, .string ⟨#[]⟩, .int .i64 0, .int .i64 0]), 4, 40) := by kernel_rfl

/-- The cells of a block that was just laid. -/
theorem cells_new (w : World) (C : Array Value) (t : TypeId) (n : Nat) (hn : n = w.heap.size) : ∀ (j : Nat) (u : Value), C.toList[j]? = some u → (w.alloc (.cells C t)).cell? ((⟨n, 0, none⟩ : Addr).add j) = some u := by
  intro j u hu
  have hadd : (⟨n, 0, none⟩ : Addr).add j = ⟨n, j, none⟩ := by unfold Addr.add; split <;> simp_all
  rw [hadd, World.cell?_alloc_at _ _ _ _ hn]
  simpa using hu

def ScanPost (B : Nat) (w : World) (l : List UInt8) (e : Ending) (w' : World) : Prop :=
  ∃ v, e = .returned (.tuple #[v, .int .i64 (scanP l).2.1, .int .i64 (scanP l).2.2]) ∧ Below B w w' ∧ w'.ownsRow B 139 4 v (scanP l).1.length (flatP (scanP l).1)

def ScanRel (s : ByteArray) (B : Nat) (w : World) (v5 v6 : Value) (wr : World) : Prop :=
  ∃ (k f : Nat) (acc : List Tok), k ≤ s.size ∧ v6 = .int .i64 k ∧ s.size - k < f ∧ scanR s.data.toList = (acc ++ (scanA f k (rest s k)).1, (scanA f k (rest s k)).2) ∧
    wr.ownsRow B 139 4 v5 acc.length (flatP acc) ∧ Below B w wr ∧ acc.length ≤ k

/-- One round, a token found. -/
theorem scan_step (s : ByteArray) (k f : Nat) (acc : List Tok) (kd n : Nat) (t : List UInt8) (hlt : k < s.size) (hf : s.size - k < f) (ht : tokL (rest s k) = some (kd, t, n)) (h1 : 1 ≤ t.length) (h2 : k + t.length ≤ s.size)
    (hr : scanR s.data.toList = (acc ++ (scanA f k (rest s k)).1, (scanA f k (rest s k)).2)) :
    ∃ g, s.size - (k + t.length + skipL false (rest s (k + t.length))) < g ∧
      scanR s.data.toList = ((acc ++ [⟨kd, t, n, k⟩]) ++ (scanA g (k + t.length + skipL false (rest s (k + t.length))) (rest s (k + t.length + skipL false (rest s (k + t.length))))).1, (scanA g (k + t.length + skipL false (rest s (k + t.length))) (rest s (k + t.length + skipL false (rest s (k + t.length))))).2) := by
  obtain ⟨g, rfl⟩ : ∃ g, f = g + 1 := ⟨f - 1, by omega⟩
  refine ⟨g, by omega, ?_⟩
  rw [hr, scanA_tok s g k hlt kd n t ht]
  simp
theorem ext_eq (s : ByteArray) (k m : Nat) : s.extract k (k + m) = ⟨((rest s k).take m).toArray⟩ := str_eq (by rw [ext_list]; congr 1; omega)

theorem grown_keep {w w1 : World} {base size n : Nat} {e : TypeId} {v : Value} {xs : List Value} (h : w.ownsRow base e size v n xs) {o1 o2 : Obj} (hg : ((w.alloc o1).alloc o2).grownBy w1 v.ownBlock)
    {j : Nat} {u : Value} (hv : ((w.alloc o1).alloc o2).cell? ⟨w.heap.size, j, none⟩ = some u) : w1.cell? ⟨w.heap.size, j, none⟩ = some u :=
  hg.cell hv (by
    intro e
    have := (h.lt _ e.symm).2
    simp at this)
theorem skip_at (s : ByteArray) (x : Int) (n : Nat) (w : World) (hs : s.size ≤ 4611686018427387904) (hx : x = n) (hn : n ≤ s.size) :
    Calls Tryz.prog 138 #[.string s, .int .i64 x] w fun e w' => e = .returned (.int .i64 ↑(n + skipL false (rest s n))) ∧ w = w' := by
  subst hx; exact skip_any s n w hs hn

/-- What is known of a block of four cells behind a callee that leaves it alone. -/
theorem blk4 {wr w2 : World} {a b c d : Value} {T : TypeId} {o : Obj} (ho : o = .cells #[a, b, c, d] T) (hb : Below (wr.alloc o).heap.size (wr.alloc o) w2) :
    w2.cell? ⟨wr.heap.size, 0, none⟩ = some a ∧ w2.cell? ⟨wr.heap.size, 1, none⟩ = some b ∧ w2.cell? ⟨wr.heap.size, 2, none⟩ = some c ∧ w2.cell? ⟨wr.heap.size, 3, none⟩ = some d ∧
    w2.frozen? ⟨wr.heap.size, 0, none⟩ = false ∧ w2.frozen? ⟨wr.heap.size, 1, none⟩ = false ∧ w2.frozen? ⟨wr.heap.size, 2, none⟩ = false ∧ w2.frozen? ⟨wr.heap.size, 3, none⟩ = false ∧ wr.heap.size + 1 ≤ w2.heap.size := by
  subst ho
  have hlt : wr.heap.size < (wr.alloc (.cells #[a, b, c, d] T)).heap.size := by simp
  refine ⟨?_, ?_, ?_, ?_, ?_, ?_, ?_, ?_, ?_⟩
  · rw [hb.cell (p := ⟨wr.heap.size, 0, none⟩) hlt]; simp
  · rw [hb.cell (p := ⟨wr.heap.size, 1, none⟩) hlt]; simp
  · rw [hb.cell (p := ⟨wr.heap.size, 2, none⟩) hlt]; simp
  · rw [hb.cell (p := ⟨wr.heap.size, 3, none⟩) hlt]; simp
  · rw [hb.frozen (p := ⟨wr.heap.size, 0, none⟩) hlt]; simp
  · rw [hb.frozen (p := ⟨wr.heap.size, 1, none⟩) hlt]; simp
  · rw [hb.frozen (p := ⟨wr.heap.size, 2, none⟩) hlt]; simp
  · rw [hb.frozen (p := ⟨wr.heap.size, 3, none⟩) hlt]; simp
  · have := hb.size; simp at this; omega

theorem cell_four {w2 : World} {n : Nat} {b0 : Value} (hn : n < w2.heap.size) (c1 : w2.cell? ⟨n, 1, none⟩ = some b0) (a b c d : Value) (o : Obj) :
    (((((w2.setCell ⟨n, 0, none⟩ a).setCell ⟨n, 1, none⟩ b).setCell ⟨n, 2, none⟩ c).setCell ⟨n, 3, none⟩ d).alloc o).cell? ⟨n, 1, none⟩ = some b := by
  rw [World.cell?_alloc_lt _ _ _ (by simpa using hn), World.cell?_setCell_other _ _ _ _ (by simp), World.cell?_setCell_other _ _ _ _ (by simp)]
  exact World.cell?_setCell_same _ _ _ (u := b0) (by rw [World.cell?_setCell_other _ _ _ _ (by simp)]; exact c1)

/-- What a round with a token does to the relation. -/
theorem scan_rel (s : ByteArray) (B : Nat) (w w1 : World) (v' : Value) (k f : Nat) (acc : List Tok) (kd n m : Nat) (tx : ByteArray) (x : Int)
    (hlt : k < s.size) (hf : s.size - k < f) (ht : tokL (rest s k) = some (kd, tx.data.toList, n)) (hm : tx.data.toList.length = m) (h1 : 1 ≤ m) (h2 : k + m ≤ s.size) (hacc : acc.length ≤ k)
    (hr : scanR s.data.toList = (acc ++ (scanA f k (rest s k)).1, (scanA f k (rest s k)).2))
    (hown : w1.ownsRow B 139 4 v' (acc.length + 1) (flatP acc ++ [.int .u8 kd, .string tx, .int .i64 n, .int .i64 k])) (hbel : Below B w w1)
    (hx : x = ↑(k + m + skipL false (rest s (k + m)))) : ScanRel s B w v' (.int .i64 x) w1 := by
  subst hm
  subst hx
  obtain ⟨g, hg, hr'⟩ := scan_step s k f acc kd n tx.data.toList hlt hf ht h1 h2 hr
  have hle := skipL_rest_le s (k + tx.data.toList.length)
  refine ⟨k + tx.data.toList.length + skipL false (rest s (k + tx.data.toList.length)), g, acc ++ [⟨kd, tx.data.toList, n, k⟩], by omega, rfl, hg, hr', ?_, hbel, by simp only [List.length_append, List.length_cons, List.length_nil]; omega⟩
  rw [flatP_snoc, List.length_append]
  exact hown

theorem scan_out (l : List UInt8) (B : Nat) (w w' : World) (v : Value) (ts : List Tok) (off er : Nat) (h8 : ¬ 8000 < l.length) (hr : scanR l = (ts, off, 0)) (hb : Below B w w') (ho : w'.ownsRow B 139 4 v ts.length (flatP ts)) :
    ScanPost B w l (.returned (.tuple #[v, .int .i64 off, .int .i64 0])) w' := by
  have hp : scanP l = (ts, off, 0) := by unfold scanP; rw [if_neg h8, hr]; simp
  unfold ScanPost
  rw [hp]
  exact ⟨v, rfl, hb, ho⟩
theorem scan_err (l : List UInt8) (B : Nat) (w w' : World) (ts : List Tok) (off : Nat) (x : Int) (hx : x = off) (h8 : ¬ 8000 < l.length) (hr : scanR l = (ts, off, 8)) (hb : Below B w w') :
    ScanPost B w l (.returned (.tuple #[.slice none 0 0, .int .i64 x, .int .i64 8])) w' := by
  subst hx
  have hp : scanP l = ([], off, 8) := by unfold scanP; rw [if_neg h8, hr]; simp
  unfold ScanPost
  rw [hp]
  exact ⟨_, rfl, hb, World.ownsRow_nil _ _ _ _⟩

set_option maxRecDepth 100000 in
theorem scan_any (s : ByteArray) (w : World) (hs : s.size ≤ 4611686018427387904) :
    Calls Tryz.prog 64 #[.string s] w fun e w' => ScanPost w.heap.size w s.data.toList e w' := by
  obtain ⟨i0, hi, hz0, hz1, hz2⟩ := info_parts infoTok
  by_cases h8 : 8000 < s.size
  · have hp : scanP s.data.toList = ([], 0, 3) := by unfold scanP; rw [if_pos (by simpa using h8)]
    have HP := Lib.hid hp
    clear hp
    go_enter Tryz.func64, Tryz.ntmps64
    go_wp2_with fail
    go_returns
    unfold ScanPost
    rw [HP.out]
    exact ⟨_, rfl, Below.refl _ _, World.ownsRow_nil _ _ _ _⟩
  · have hb := get_bt s
    have hsk := skipL_rest_le s 0
    have hlen : ¬ 8000 < s.data.toList.length := fun h => h8 h
    go_enter Tryz.func64, Tryz.ntmps64
    go_wp2_with (go_at_call 138; refine (skip_any s 0 _ hs (by omega)).mono ?_; rintro e w' ⟨rfl, rfl⟩)
    go_loopw [5, 6] (fun v5 v6 wr => ScanRel s w.heap.size w v5 v6 wr) (fun _ i _ => s.size - (intOf i).toNat)
    case atStart => exact ⟨skipL false (rest s 0), s.size + 1, [], by omega, by simp, by omega, by simp [scanR, rest], World.ownsRow_nil _ _ _ _, Below.refl _ _, by simp⟩
    case round =>
      obtain ⟨k, f, acc, hk, rfl, hf, hr, hown, hbel, hacc⟩ := hrel
      have HR := Lib.hid hr
      clear hr
      by_cases hlt : k < s.size
      · cases hl : letB (bt s k)
        · have HL := Lib.hid hl
          clear hl
          cases hd : digB (bt s k)
          · have HD := Lib.hid hd
            clear hd
            have HT0 := tokL_sym s k hlt HL.out HD.out
            cases hx : symL (rest s k) with
            | none =>
              rw [hx] at HT0
              have HT := Lib.hid HT0
              have HX := Lib.hid hx
              clear HT0 hx
              go_wp2_with (first
                | (go_at_call 139; refine (letter_any _ _ (bt_nonneg _ _) (bt_le _ _)).mono ?_; rintro e w' ⟨rfl, rfl⟩; rw [HL.out])
                | (go_at_call 142; refine (digit_any _ _ (bt_nonneg _ _) (bt_le _ _)).mono ?_; rintro e w' ⟨rfl, rfl⟩; rw [HD.out])
                | (go_at_call 144; refine (symbol_no s k _ hs hk HX.out).mono ?_; rintro e w2 ⟨rfl, hb2⟩; obtain ⟨c0, c1, c2, c3, f0, f1, f2, f3, hsz2⟩ := blk4 rfl hb2))
              go_ret3
              exact scan_err _ _ _ _ acc k _ rfl hlen (by rw [HR.out, scanA_bad s f k (by omega) hlt HT.out]; simp) (by
                have hbel2 : Below w.heap.size w w2 := (hbel.alloc hbel.size _).trans (hb2.mono (by have := hbel.size; simp; omega))
                exact (((hbel2.setCell (by exact hbel.size) _).setCell (by exact hbel.size) _).setCell (by exact hbel.size) _).setCell (by exact hbel.size) _)
            | some x =>
              rw [hx] at HT0
              have HT := Lib.hid HT0
              have HX := Lib.hid hx
              obtain ⟨hpos, _, hxl, _⟩ := symL_len hx
              rw [rest_length] at hxl
              have hsk2 := skipL_rest_le s (k + x.length)
              clear HT0 hx
              go_wp2_with (first
                | (at_builtin; refine wpList_append_own _ rfl (.tmp 54) (.tmp 56) 129 rfl w.heap.size 139 i0 (.agg #[.int .u8 0, .string ⟨#[]⟩, .int .i64 0, .int .i64 0]) 4 40 Tryz.underlying129 hi hz0 hz1 hz2 rfl (by decide) _ _ _ rfl ((owns_four hown hb2 (.int .u8 3) (.string ⟨x.toArray⟩) (.int .i64 0) (.int .i64 k)).alloc _) ⟨w2.heap.size, 0, none⟩ 1 1 [.int .u8 3, .string ⟨x.toArray⟩, .int .i64 0, .int .i64 k] rfl rfl ?g1 ?g2 ?g3 ?g4 ?g5 ?_)
                | (go_at_call 139; refine (letter_any _ _ (bt_nonneg _ _) (bt_le _ _)).mono ?_; rintro e w' ⟨rfl, rfl⟩; rw [HL.out])
                | (go_at_call 142; refine (digit_any _ _ (bt_nonneg _ _) (bt_le _ _)).mono ?_; rintro e w' ⟨rfl, rfl⟩; rw [HD.out])
                | (go_at_call 144; refine (symbol_yes s k x _ hs hk HX.out).mono ?_; rintro e w2 ⟨rfl, hb2⟩; obtain ⟨c0, c1, c2, c3, f0, f1, f2, f3, hsz2⟩ := blk4 rfl hb2))
              case g1 => exact cells_new _ _ _ _ (by simp)
              case g2 => intro u hu; simp at hu; rcases hu with rfl | rfl | rfl | rfl <;> rfl
              case g3 => unfold maxLen; omega
              case g4 => omega
              case g5 => have := hbel.size; simp; omega
              intro v' w3 hown' hgrow _
              have hcell : w3.cell? ⟨wr.heap.size, 1, none⟩ = some (.string ⟨x.toArray⟩) := hgrow.cell (cell_four (by omega) c1 _ _ _ _ _) (fun e => by have := (hown.lt _ e.symm).2; simp at this)
              have hbel2 : Below w.heap.size w w2 := (hbel.alloc hbel.size _).trans (hb2.mono (by have := hbel.size; simp; omega))
              have hbel' : Below w.heap.size w w3 := (((((hbel2.setCell (by exact hbel.size) _).setCell (by exact hbel.size) _).setCell (by exact hbel.size) _).setCell (by exact hbel.size) _).alloc (by have := hbel.size; simp; omega) _).grown hgrow (by have := hbel.size; simp; omega) (fun b hb => (hown.lt b hb).1)
              clear hgrow hown hbel c0 c1 c2 c3 f0 f1 f2 f3
              go_wp2_with (go_at_call 138; refine (skip_at s _ (k + x.length) _ hs (by first | omega | (simp; omega)) (by omega)).mono ?_; rintro e w' ⟨rfl, rfl⟩)
              go_roundw
              case rel =>
                exact scan_rel s _ _ _ _ k f acc 3 0 (x.length) _ _ hlt hf (by simpa using HT.out) (by simp) hpos (by omega) hacc HR.out hown' hbel' (by omega)
              case measure => simp [intOf]; omega
          · have HD := Lib.hid hd
            clear hd
            cases ho : numOk (rest s k)
            · have HT := Lib.hid (tokL_numbad s k hlt HL.out HD.out ho)
              have HO := Lib.hid ho
              clear ho
              go_wp2_with (first
                | (go_at_call 139; refine (letter_any _ _ (bt_nonneg _ _) (bt_le _ _)).mono ?_; rintro e w' ⟨rfl, rfl⟩; rw [HL.out])
                | (go_at_call 142; refine (digit_any _ _ (bt_nonneg _ _) (bt_le _ _)).mono ?_; rintro e w' ⟨rfl, rfl⟩; rw [HD.out])
                | (go_at_call 143; refine (number_no s k _ hs hlt HD.out HO.out).mono ?_; rintro e w2 ⟨rfl, hb2⟩; obtain ⟨c0, c1, c2, c3, f0, f1, f2, f3, hsz2⟩ := blk4 rfl hb2))
              go_ret3
              exact scan_err _ _ _ _ acc k _ rfl hlen (by rw [HR.out, scanA_bad s f k (by omega) hlt HT.out]; simp) (by
                have hbel2 : Below w.heap.size w w2 := (hbel.alloc hbel.size _).trans (hb2.mono (by have := hbel.size; simp; omega))
                exact (((hbel2.setCell (by exact hbel.size) _).setCell (by exact hbel.size) _).setCell (by exact hbel.size) _).setCell (by exact hbel.size) _)
            · have HT := Lib.hid (tokL_num s k hlt HL.out HD.out ho)
              have HO := Lib.hid ho
              clear ho
              have hle := runL_rest_le digB s k
              have hpos : 1 ≤ runL digB (rest s k) := by rw [runL_hit digB s k hlt HD.out]; omega
              have hsk2 := skipL_rest_le s (k + runL digB (rest s k))
              go_wp2_with (first
                | (at_builtin; refine wpList_append_own _ rfl (.tmp 54) (.tmp 56) 129 rfl w.heap.size 139 i0 (.agg #[.int .u8 0, .string ⟨#[]⟩, .int .i64 0, .int .i64 0]) 4 40 Tryz.underlying129 hi hz0 hz1 hz2 rfl (by decide) _ _ _ rfl ((owns_four hown hb2 (.int .u8 2) (.string (s.extract k (k + runL digB (rest s k)))) (.int .i64 ↑(numV ((rest s k).take (runL digB (rest s k))))) (.int .i64 k)).alloc _) ⟨w2.heap.size, 0, none⟩ 1 1 [.int .u8 2, .string (s.extract k (k + runL digB (rest s k))), .int .i64 ↑(numV ((rest s k).take (runL digB (rest s k)))), .int .i64 k] rfl rfl ?e1 ?e2 ?e3 ?e4 ?e5 ?_)
                | (go_at_call 139; refine (letter_any _ _ (bt_nonneg _ _) (bt_le _ _)).mono ?_; rintro e w' ⟨rfl, rfl⟩; rw [HL.out])
                | (go_at_call 142; refine (digit_any _ _ (bt_nonneg _ _) (bt_le _ _)).mono ?_; rintro e w' ⟨rfl, rfl⟩; rw [HD.out])
                | (go_at_call 143; refine (number_yes s k _ hs hlt HD.out HO.out).mono ?_; rintro e w2 ⟨rfl, hb2⟩; obtain ⟨c0, c1, c2, c3, f0, f1, f2, f3, hsz2⟩ := blk4 rfl hb2))
              case e1 => exact cells_new _ _ _ _ (by simp)
              case e2 => intro u hu; simp at hu; rcases hu with rfl | rfl | rfl | rfl <;> rfl
              case e3 => unfold maxLen; omega
              case e4 => omega
              case e5 => have := hbel.size; simp; omega
              intro v' w3 hown' hgrow _
              have hcell : w3.cell? ⟨wr.heap.size, 1, none⟩ = some (.string (s.extract k (k + runL digB (rest s k)))) := hgrow.cell (cell_four (by omega) c1 _ _ _ _ _) (fun e => by have := (hown.lt _ e.symm).2; simp at this)
              have hbel2 : Below w.heap.size w w2 := (hbel.alloc hbel.size _).trans (hb2.mono (by have := hbel.size; simp; omega))
              have hbel' : Below w.heap.size w w3 := (((((hbel2.setCell (by exact hbel.size) _).setCell (by exact hbel.size) _).setCell (by exact hbel.size) _).setCell (by exact hbel.size) _).alloc (by have := hbel.size; simp; omega) _).grown hgrow (by have := hbel.size; simp; omega) (fun b hb => (hown.lt b hb).1)
              clear hgrow hown hbel c0 c1 c2 c3 f0 f1 f2 f3
              go_wp2_with (go_at_call 138; refine (skip_at s _ (k + runL digB (rest s k)) _ hs (by first | omega | (simp; omega)) (by omega)).mono ?_; rintro e w' ⟨rfl, rfl⟩)
              go_roundw
              case rel =>
                rw [ext_eq] at hown'
                exact scan_rel s _ _ _ _ k f acc 2 _ (runL digB (rest s k)) _ _ hlt hf (by simpa using HT.out) (by simp; omega) hpos (by omega) hacc HR.out hown' hbel' (by omega)
              case measure => simp [intOf]; omega
        · have hle := runL_rest_le innB s k
          have HT := Lib.hid (tokL_word s k hlt hl)
          have hpos : 1 ≤ runL innB (rest s k) := by rw [runL_hit innB s k hlt (by simp [innB, hl])]; omega
          have hsk2 := skipL_rest_le s (k + runL innB (rest s k))
          go_wp2_with (first
            | (at_builtin; refine wpList_append_own _ rfl (.tmp 54) (.tmp 56) 129 rfl w.heap.size 139 i0 (.agg #[.int .u8 0, .string ⟨#[]⟩, .int .i64 0, .int .i64 0]) 4 40 Tryz.underlying129 hi hz0 hz1 hz2 rfl (by decide) _ _ _ rfl ((hown.alloc _).alloc _) ⟨wr.heap.size + 1, 0, none⟩ 1 1 [.int .u8 1, .string (s.extract k (k + runL innB (rest s k))), .int .i64 0, .int .i64 k] rfl rfl ?c1 ?c2 ?c3 ?c4 ?c5 ?_)
            | (go_at_call 139; refine (letter_any _ _ (bt_nonneg _ _) (bt_le _ _)).mono ?_; rintro e w' ⟨rfl, rfl⟩; rw [hl])
            | (go_at_call 140; refine (while_inner s k _ hs hk).mono ?_; rintro e w' ⟨rfl, rfl⟩))
          case c1 => exact cells_new _ _ _ _ (by simp)
          case c2 => intro u hu; simp at hu; rcases hu with rfl | rfl | rfl | rfl <;> rfl
          case c3 => unfold maxLen; omega
          case c4 => omega
          case c5 => have := hbel.size; simp; omega
          intro v' w1 hown' hgrow _
          have hcell : w1.cell? ⟨wr.heap.size, 1, none⟩ = some (.string (s.extract k (k + runL innB (rest s k)))) := grown_keep hown hgrow (by simp)
          have hbel' := (((hbel.alloc hbel.size _).alloc (by have := hbel.size; simp; omega) _).grown hgrow (by have := hbel.size; simp; omega) (fun b hb => (hown.lt b hb).1))
          clear hgrow hown hbel
          go_wp2_with (go_at_call 138; refine (skip_at s _ (k + runL innB (rest s k)) _ hs (by first | omega | (simp; omega)) (by omega)).mono ?_; rintro e w' ⟨rfl, rfl⟩)
          go_roundw
          case rel =>
            rw [ext_eq] at hown'
            exact scan_rel s _ _ _ _ k f acc 1 0 (runL innB (rest s k)) _ _ hlt hf (by simpa using HT.out) (by simp; omega) hpos (by omega) hacc HR.out hown' hbel' (by omega)
          case measure => simp [intOf]; omega
      · have hend := Lib.hid (scanA_end s f k (by omega) (by omega))
        go_wp2_with (at_builtin; refine wpList_append_own _ rfl (.tmp 63) (.tmp 67) 129 rfl w.heap.size 139 i0 (.agg #[.int .u8 0, .string ⟨#[]⟩, .int .i64 0, .int .i64 0]) 4 40 Tryz.underlying129 hi hz0 hz1 hz2 rfl (by decide) _ _ _ rfl (hown.alloc _) ⟨wr.heap.size, 0, none⟩ 1 1 [.int .u8 0, .string ⟨#[]⟩, .int .i64 0, .int .i64 s.size] rfl rfl ?d1 ?d2 ?d3 ?d4 ?d5 ?_)
        case d1 => exact cells_new _ _ _ _ rfl
        case d2 => intro u hu; simp at hu; rcases hu with rfl | rfl | rfl | rfl <;> rfl
        case d3 => unfold maxLen; omega
        case d4 => omega
        case d5 => have := hbel.size; simp; omega
        intro v' w1 hown' hgrow _
        have hbel' := (hbel.alloc hbel.size _).grown hgrow (by have := hbel.size; simp; omega) (fun b hb => (hown.lt b hb).1)
        clear hgrow hown hbel
        go_wp2_with fail
        go_ret3
        exact scan_out _ _ _ _ _ (acc ++ [⟨0, [], 0, s.size⟩]) 0 0 hlen (by rw [HR.out, hend.out, show k = s.size by omega]) hbel' (by rw [flatP_snoc, List.length_append]; exact hown')

end Go.Proofs.YtfjpbkmnlmecgaaGreatDoor
end

section
/- Contracts of the law's small functions: cut, told, same. -/
namespace Go.Proofs.YtfjpbkmnlmecgaaGreatDoor
open Go.RowKit Go.PlainAid
set_option linter.unusedVariables false
set_option maxHeartbeats 400000

theorem flat_get (f : Tok → List Value) (hf : ∀ t, (f t).length = 4) : ∀ (l : List Tok) (j c : Nat) (t : Tok), l[j]? = some t → c < 4 → (l.flatMap f).getD (j * 4 + c) undef = (f t).getD c undef
  | [], j, c, t, h, _ => by simp at h
  | x :: l, 0, c, t, h, hc => by
    simp at h
    subst h
    rw [List.flatMap_cons, List.getD_eq_getElem?_getD, List.getElem?_append_left (by rw [hf]; omega)]
    simp
  | x :: l, j + 1, c, t, h, hc => by
    rw [List.flatMap_cons, List.getD_eq_getElem?_getD, List.getElem?_append_right (by rw [hf]; omega), hf, ← List.getD_eq_getElem?_getD]
    rw [show (j + 1) * 4 + c - 4 = j * 4 + c from by omega]
    exact flat_get f hf l j c t (by simpa using h) hc
/-- The cells of token j of the program. -/
theorem tokP_cells {w : World} {b o n : Nat} {ts : List Tok} (h : ∀ j, j < n * 4 → w.cell? ⟨b, o + j, none⟩ = some ((flatP ts).getD j undef)) (j : Nat) (t : Tok) (hj : j < n) (ht : ts[j]? = some t) :
    w.cell? ⟨b, o + j * 4, none⟩ = some (.int .u8 t.kind) ∧ w.cell? ⟨b, o + j * 4 + 1, none⟩ = some (.string ⟨t.text.toArray⟩) ∧ w.cell? ⟨b, o + j * 4 + 2, none⟩ = some (.int .i64 t.n) ∧ w.cell? ⟨b, o + j * 4 + 3, none⟩ = some (.int .i64 t.pos) := by
  have hf : ∀ t, (tokV t).length = 4 := fun _ => rfl
  have g := fun c hc => flat_get tokV hf ts j c t ht hc
  refine ⟨?_, ?_, ?_, ?_⟩
  · rw [h (j * 4) (by omega)]; exact congrArg _ (g 0 (by omega))
  · rw [Nat.add_assoc, h (j * 4 + 1) (by omega)]; exact congrArg _ (g 1 (by omega))
  · rw [Nat.add_assoc, h (j * 4 + 2) (by omega)]; exact congrArg _ (g 2 (by omega))
  · rw [Nat.add_assoc, h (j * 4 + 3) (by omega)]; exact congrArg _ (g 3 (by omega))
theorem tokR_cells {w : World} {b o n : Nat} {ts : List Tok} (h : ∀ j, j < n * 4 → w.cell? ⟨b, o + j, none⟩ = some ((flatR ts).getD j undef)) (j : Nat) (t : Tok) (hj : j < n) (ht : ts[j]? = some t) :
    w.cell? ⟨b, o + j * 4, none⟩ = some (.int .i64 t.kind) ∧ w.cell? ⟨b, o + j * 4 + 1, none⟩ = some (.string ⟨t.text.toArray⟩) ∧ w.cell? ⟨b, o + j * 4 + 2, none⟩ = some (.int .i64 t.n) ∧ w.cell? ⟨b, o + j * 4 + 3, none⟩ = some (.int .i64 t.pos) := by
  have hf : ∀ t, (tokW t).length = 4 := fun _ => rfl
  have g := fun c hc => flat_get tokW hf ts j c t ht hc
  refine ⟨?_, ?_, ?_, ?_⟩
  · rw [h (j * 4) (by omega)]; exact congrArg _ (g 0 (by omega))
  · rw [Nat.add_assoc, h (j * 4 + 1) (by omega)]; exact congrArg _ (g 1 (by omega))
  · rw [Nat.add_assoc, h (j * 4 + 2) (by omega)]; exact congrArg _ (g 2 (by omega))
  · rw [Nat.add_assoc, h (j * 4 + 3) (by omega)]; exact congrArg _ (g 3 (by omega))

theorem take_step {ts us : List Tok} {j : Nat} {t u : Tok} (h : ts.take j = us.take j) (ht : ts[j]? = some t) (hu : us[j]? = some u) (e : t = u) : ts.take (j + 1) = us.take (j + 1) := by
  rw [List.take_add_one, List.take_add_one, ht, hu, h, e]
theorem tok_split (t u : Tok) : t = u ∨ (((t.kind : Int) == u.kind) = false) ∨ (t.kind = u.kind ∧ (((⟨t.text.toArray⟩ : ByteArray).toList == (⟨u.text.toArray⟩ : ByteArray).toList) = false)) ∨
    (t.kind = u.kind ∧ t.text = u.text ∧ (((t.n : Int) == u.n) = false)) ∨ (t.kind = u.kind ∧ t.text = u.text ∧ t.n = u.n ∧ (((t.pos : Int) == u.pos) = false)) := by
  obtain ⟨k, x, n, p⟩ := t
  obtain ⟨k', x', n', p'⟩ := u
  simp only [Tok.mk.injEq]
  by_cases h1 : k = k'
  · by_cases h2 : x = x'
    · by_cases h3 : n = n'
      · by_cases h4 : p = p'
        · exact .inl ⟨h1, h2, h3, h4⟩
        · exact .inr (.inr (.inr (.inr ⟨h1, h2, h3, by simp; omega⟩)))
      · exact .inr (.inr (.inr (.inl ⟨h1, h2, by simp; omega⟩)))
    · exact .inr (.inr (.inl ⟨h1, by rw [Lib.toList_data, Lib.toList_data]; simpa using h2⟩))
  · exact .inr (.inl (by simp; omega))

end Go.Proofs.YtfjpbkmnlmecgaaGreatDoor
end
