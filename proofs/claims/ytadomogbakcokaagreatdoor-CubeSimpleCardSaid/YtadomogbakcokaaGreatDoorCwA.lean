/- Contracts: package wire's reader. -/
import Derived.Test.YtadomogbakcokaaGreatDoorCvT
namespace Go.Proofs.YtadomogbakcokaaGreatDoor
open Go.RowKit Go.PlainAid
set_option linter.unusedVariables false
set_option linter.unusedSimpArgs false
set_option maxHeartbeats 4000000
set_option maxRecDepth 20000

theorem mem_rdL {ps : List Nat} {x : Nat} : x ∈ readL ps ↔ x < 4096 ∧ (wd ps (x / 8)).testBit (x % 8) = true := by
  unfold readL; rw [List.mem_filter, List.mem_range]
theorem some_bit8 {b : Nat} (h : b ≠ 0) (hb : b < 256) : ∃ j, j < 8 ∧ b.testBit j = true := by
  obtain ⟨j, hj⟩ := Nat.exists_testBit_of_ne_zero h
  refine ⟨j, ?_, hj⟩
  rcases Nat.lt_or_ge j 8 with h8 | h8
  · exact h8
  · rw [Nat.testBit_lt_two_pow (Nat.lt_of_lt_of_le hb (by show 2 ^ 8 ≤ 2 ^ j; exact Nat.pow_le_pow_right (by omega) h8))] at hj; cases hj
theorem bytes_rdL {ps : List Nat} (h : readOK ps) (hb : ∀ x ∈ ps, x < 256) : BytesOf ps (readL ps) := by
  obtain ⟨h1, h2⟩ := h
  have hlast : 0 < ps.length → ∃ x, x ∈ readL ps ∧ x / 8 = ps.length - 1 := fun hp => by
    have hlt : wd ps (ps.length - 1) < 256 := by rw [wd_get (by omega)]; exact hb _ (List.getElem_mem _)
    obtain ⟨j, hj, hbit⟩ := some_bit8 (h2 hp) hlt
    refine ⟨8 * (ps.length - 1) + j, mem_rdL.2 ⟨by omega, ?_⟩, by omega⟩
    rw [show (8 * (ps.length - 1) + j) / 8 = ps.length - 1 by omega, show (8 * (ps.length - 1) + j) % 8 = j by omega]; exact hbit
  refine ⟨fun he => ?_, fun he => ?_, fun k hk => ?_⟩
  · by_cases hp : 0 < ps.length
    · obtain ⟨x, hx, _⟩ := hlast hp
      rw [he] at hx; simp at hx
    · exact List.eq_nil_of_length_eq_zero (by omega)
  · have hm : (readL ps).getLastD 0 ∈ readL ps := by
      rw [List.getLastD_eq_getLast?, List.getLast?_eq_some_getLast he, Option.getD_some]; exact List.getLast_mem he
    have hin : ∀ x, x ∈ readL ps → x / 8 < ps.length := fun x hx => by
      rcases Nat.lt_or_ge (x / 8) ps.length with h | h
      · exact h
      · have := (mem_rdL.1 hx).2
        rw [wd_out h] at this; simp at this
    have h3 := hin _ hm
    obtain ⟨x, hx, hx2⟩ := hlast (by omega)
    have h4 := last_ge (asc_readL ps) x hx
    omega
  · refine ⟨hb _ (List.getElem_mem _), fun j hj => ?_⟩
    rw [mem_rdL, show (8 * k + j) / 8 = k by omega, show (8 * k + j) % 8 = j by omega, wd_get hk]
    exact ⟨fun h => ⟨by omega, h⟩, fun h => h.2⟩
/-- The bytes of a set are those of one that is read. -/
theorem readL_bytes {ps l : List Nat} (h : BytesOf ps l) (hl : Asc l) : readOK ps ∧ readL ps = l := by
  have hw := fun k => h.wd hl k
  refine ⟨⟨bytes_len2 h hl, fun hp => ?_⟩, asc_ext (asc_readL ps) hl fun x => ?_⟩
  · intro e
    have hne : l ≠ [] := fun e2 => by rw [h.1 e2] at hp; simp at hp
    have hm : l.getLastD 0 ∈ l := by
      rw [List.getLastD_eq_getLast?, List.getLast?_eq_some_getLast hne, Option.getD_some]; exact List.getLast_mem hne
    have h1 := h.2.1 hne
    have h2 := ((hw (ps.length - 1)).2 (l.getLastD 0 % 8) (by omega)).2 (by rw [show 8 * (ps.length - 1) + l.getLastD 0 % 8 = l.getLastD 0 by omega]; exact hm)
    rw [e] at h2; simp at h2
  · rw [mem_rdL, (hw (x / 8)).2 (x % 8) (by omega), show 8 * (x / 8) + x % 8 = x by omega]
    exact ⟨fun h => h.2, fun h => ⟨hl.2 x h, h⟩⟩

/-- The reader at block g: what is left, and its error. -/
def Rd (W : World) (g : Nat) (a : Option Addr) (n c : Nat) (ps : List Nat) (e : Int) : Prop :=
  At2T W g (.slice a n c) (.int .i64 e) 143 ∧ Bw W a n c ps ∧ Nz a n c ∧ ∀ x, a = some x → x.block ≠ g
/-- All is as it was, but for block g. -/
def Kg (g : Nat) (W W' : World) : Prop := But W.heap.size g g W W'
theorem Kg.of {g : Nat} {W W' : World} (h : Below W.heap.size W W') : Kg g W W' := But.of h
theorem Kg.tr {g : Nat} {a b c : World} (h : Kg g a b) (k : Kg g b c) : Kg g a c :=
  ⟨k.os.trans h.os, k.tape.trans h.tape, k.output.trans h.output, Nat.le_trans h.size k.size, fun i hi h1 h2 => (k.block i (Nat.lt_of_lt_of_le hi h.size) h1 h2).trans (h.block i hi h1 h2)⟩
theorem Kg.set (g j : Nat) (v : Value) (W : World) : Kg g W (W.setCell ⟨g, j, none⟩ v) := But.set _ _ (.inl rfl)
theorem Bw.kg {W W' : World} {a : Option Addr} {n c g : Nat} {ps : List Nat} (h : Bw W a n c ps) (hk : Kg g W W') (hg : ∀ x, a = some x → x.block ≠ g) : Bw W' a n c ps := by
  obtain ⟨h1, h2, h3, h4, h5⟩ := h
  refine ⟨h1, h2, h3, h4, ?_⟩
  rcases h5 with h5 | ⟨b, o, rfl, h6, h7⟩
  · exact .inl h5
  · exact .inr ⟨b, o, rfl, Nat.lt_of_lt_of_le h6 hk.size, fun j hj => (hk.cell h6 (hg _ rfl) (hg _ rfl)).trans (h7 j hj)⟩
theorem Bs.kg {W W' : World} {a : Option Addr} {n c g : Nat} {l : List Nat} {cs : Array Value} {T : TypeId} {fz : Nat × Nat} (h : Bs W a n c l) (hk : Kg g W W') (hg : W.heap[g]? = some (.cells cs T fz)) (hT : T ≠ 23) : Bs W' a n c l := by
  have hap := h.apart hg hT
  obtain ⟨ws, ⟨h1, h2, h3, h4⟩, hr⟩ := h
  refine ⟨ws, ⟨h1, h2, h3, ?_⟩, hr⟩
  rcases h4 with h4 | ⟨b, o, rfl, ⟨hb, cs', fz', hb2⟩, hc⟩
  · exact .inl h4
  · have hne := (hap _ rfl).1
    exact .inr ⟨b, o, rfl, ⟨Nat.lt_of_lt_of_le hb hk.size, cs', fz', (hk.block b hb hne hne).trans hb2⟩, fun j hj => (hk.cell hb hne hne).trans (hc j hj)⟩
theorem At2T.set0 {W : World} {g : Nat} {x y u : Value} {T : TypeId} (h : At2T W g x y T) : At2T (W.setCell ⟨g, 0, none⟩ u) g u y T := Bp.set_cell1 h
theorem At2T.set1 {W : World} {g : Nat} {x y u : Value} {T : TypeId} (h : At2T W g x y T) : At2T (W.setCell ⟨g, 1, none⟩ u) g x u T := Bp.set_cell1 h

theorem rok_any (g : Nat) (x : Value) (e : Int) (t : Bool) (W : World) (h : At2T W g x (.int .i64 e) 143) (ht : Hid ((e == 0) = t)) :
    Calls Tryz.prog 109 #[.pointer (some ⟨g, 0, none⟩)] W fun r W' => r = .returned (.bool t) ∧ W' = W := by
  have q0 := h.at.1
  have q1 := h.at.2.1
  clear h
  go_enter Tryz.func109, Tryz.ntmps109
  go_wp2_with fail
  go_ret
  exact ⟨ret_bool ht.out, rfl⟩
theorem rerr_any (g : Nat) (x : Value) (e : Int) (W : World) (h : At2T W g x (.int .i64 e) 143) :
    Calls Tryz.prog 113 #[.pointer (some ⟨g, 0, none⟩)] W fun r W' => r = .returned (.int .i64 e) ∧ W' = W := by
  have q0 := h.at.1
  have q1 := h.at.2.1
  clear h
  go_enter Tryz.func113, Tryz.ntmps113
  go_wp2_with fail
  go_ret
  exact ⟨rfl, rfl⟩
theorem refuse_no (g : Nat) (e : Int) (W : World) :
    Calls Tryz.prog 136 #[.pointer (some ⟨g, 0, none⟩), .bool false, .int .i64 e] W fun r W' => r = .returned (.bool true) ∧ W' = W := by
  go_enter Tryz.func136, Tryz.ntmps136
  go_wp2_with fail
  go_ret
  exact ⟨rfl, rfl⟩
theorem fail_any (g : Nat) (x : Value) (e : Int) (W : World) (h : At2T W g x (.int .i64 0) 143) :
    Calls Tryz.prog 158 #[.pointer (some ⟨g, 0, none⟩), .int .i64 e] W fun r W' => (∃ v, r = .returned v) ∧ W' = W.setCell ⟨g, 1, none⟩ (.int .i64 e) := by
  have q1 := h.at.2.1
  have q2 := h.frz 1
  have HO := Lib.hid (rok_any g x 0 true W h rfl)
  clear h
  go_enter Tryz.func158, Tryz.ntmps158
  go_wp2_with (go_at_call 109; refine HO.out.mono ?_; rintro e w1 ⟨rfl, rfl⟩)
  go_end0
  exact ⟨⟨_, rfl⟩, rfl⟩
theorem refuse_yes (g : Nat) (x : Value) (e : Int) (W : World) (h : At2T W g x (.int .i64 0) 143) :
    Calls Tryz.prog 136 #[.pointer (some ⟨g, 0, none⟩), .bool true, .int .i64 e] W fun r W' => r = .returned (.bool false) ∧ At2T W' g x (.int .i64 e) 143 ∧ Kg g W W' := by
  have HF := Lib.hid (fail_any g x e W h)
  have H := Lib.hid h
  clear h
  go_enter Tryz.func136, Tryz.ntmps136
  go_wp2_with (go_at_call 158; refine HF.out.mono ?_; rintro e1 w1 ⟨⟨r, rfl⟩, hw⟩; have HW1 := Lib.hid hw; clear hw)
  go_ret
  exact ⟨rfl, by rw [HW1.out]; exact H.out.set1, by rw [HW1.out]; exact Kg.set _ _ _ _⟩
theorem refuse_f (g : Nat) (t : Bool) (e : Int) (W : World) (ht : t = false) :
    Calls Tryz.prog 136 #[.pointer (some ⟨g, 0, none⟩), .bool t, .int .i64 e] W fun r W' => r = .returned (.bool true) ∧ W' = W := by
  subst ht; exact refuse_no g e W
theorem refuse_t (g : Nat) (t : Bool) (x : Value) (e : Int) (W : World) (h : At2T W g x (.int .i64 0) 143) (ht : t = true) :
    Calls Tryz.prog 136 #[.pointer (some ⟨g, 0, none⟩), .bool t, .int .i64 e] W fun r W' => r = .returned (.bool false) ∧ At2T W' g x (.int .i64 e) 143 ∧ Kg g W W' := by
  subst ht; exact refuse_yes g x e W h
end Go.Proofs.YtadomogbakcokaaGreatDoor
