/- Contracts: the reference's bytes of a cube. -/
import Derived.Test.YtadomogbakcokaaGreatDoorCwG
import Derived.Test.YtadomogbakcokaaGreatDoorCvS
namespace Go.Proofs.YtadomogbakcokaaGreatDoor
open Go.RowKit Go.PlainAid
set_option linter.unusedVariables false
set_option linter.unusedSimpArgs false
set_option maxHeartbeats 4000000
set_option maxRecDepth 20000

theorem run_append_bw (w : World) (base : Nat) (ty : TypeId) (i : TypeInfo) (hi : Tryz.prog.info? 5 = some i) (hz0 : i.zero = some (.int .u8 0)) (hz1 : i.size = 1) (hz2 : i.bytes = 1)
    (v : Value) (bs : List Nat) (hown : RowY w base v bs) (a : Option Addr) (m c : Nat) (ps : List Nat) (h : Bw w a m c ps) (hz : Nz a m c) (hb : bs.length + m ≤ 1000000) (hbase : base ≤ w.heap.size) :
    ∃ v' w', (Builtin.append_ #[87, 87] ty #[v, .slice a m c]).run Tryz.prog w = .ok v' w' ∧ RowY w' base v' (bs ++ ps) ∧ w.grownBy w' v.ownBlock := by
  have h1 := h.1
  cases a with
  | none =>
    obtain ⟨rfl, rfl⟩ := hz rfl
    obtain rfl : ps = [] := List.eq_nil_of_length_eq_zero h1
    refine ⟨v, w, run_append_owned_none w base _ ty _ i 1 Tryz.underlying87 hi v _ _ hown, by simpa using hown, rfl, rfl, rfl, Nat.le_refl _, fun _ _ _ => rfl⟩
  | some ad =>
    obtain ⟨v', w', r1, r2, r3, _⟩ := run_append_own w base 87 ty 5 i (.int .u8 0) 1 1 Tryz.underlying87 hi hz0 hz1 hz2 rfl (by decide) v bs.length (bs.map u8v) hown ad m c (ps.map u8v) (by simpa using h1) h.news
      (fun u hu => by rw [List.mem_map] at hu; obtain ⟨z, _, rfl⟩ := hu; rfl) (by unfold maxLen; omega) (by omega) hbase
    refine ⟨v', w', r1, ?_, r3⟩
    unfold RowY
    rw [List.length_append, List.map_append, h1]
    exact r2
theorem wp_append_bw {w : World} {o : Oper} {a : Act} {K : Act → World → Prop} {Q : Exit → Act → World → Prop} (s x : Operand)
    (ho : o.op = .call { callee := .builtin .append, args := #[s, x], argTypes := #[87, 87] }) (base : Nat)
    (v : Value) (bs : List Nat) (hs : a.eval s = v) (hown : RowY w base v bs) (ad : Option Addr) (m c : Nat) (ps : List Nat) (hx : a.eval x = .slice ad m c) (h : Bw w ad m c ps) (hz : Nz ad m c) (hb : bs.length + m ≤ 1000000) (hbase : base ≤ w.heap.size)
    (hK : ∀ v' w', RowY w' base v' (bs ++ ps) → w.grownBy w' v.ownBlock → K (a.put o.dst v') w') : Oper.wp Tryz.prog o a w K Q := by
  obtain ⟨i0, hi, hz0, hz1, hz2⟩ := info_parts infoByte
  obtain ⟨v', w', hr, h3, h4⟩ := run_append_bw w base o.type i0 hi hz0 hz1 hz2 v bs hown ad m c ps h hz hb hbase
  unfold Oper.wp
  simp [execOp, ho, resolve, invoke, builtin, hs, hx, hr, Result.andThen]
  exact hK _ _ h3 h4
theorem wpList_append_bw {w : World} {ops : Array Oper} {rest : List Oper} {o : Oper} {a : Act} {Q : Exit → Act → World → Prop} (hgd : o.guard = none) (s x : Operand)
    (ho : o.op = .call { callee := .builtin .append, args := #[s, x], argTypes := #[87, 87] }) (base : Nat)
    (v : Value) (bs : List Nat) (hs : a.eval s = v) (hown : RowY w base v bs) (ad : Option Addr) (m c : Nat) (ps : List Nat) (hx : a.eval x = .slice ad m c) (h : Bw w ad m c ps) (hz : Nz ad m c) (hb : bs.length + m ≤ 1000000) (hbase : base ≤ w.heap.size)
    (hK : ∀ v' w', RowY w' base v' (bs ++ ps) → w.grownBy w' v.ownBlock → wpList Tryz.prog ops Q rest (a.put o.dst v') w') : wpList Tryz.prog ops Q (o :: rest) a w :=
  wpList_plain hgd fun K hK' => wp_append_bw s x ho base v bs hs hown ad m c ps hx h hz hb hbase fun v' w' h2 h3 => hK' _ _ (hK v' w' h2 h3)

/-- The bytes behind k sets. -/
def preB (p q : List Nat) : Nat → List Nat
  | 0 => []
  | 1 => p.length :: p
  | _ => bytesC p q
theorem pre_step (m1 m2 k : Nat) (p q : List Nat) (hk : k < 2) (hp : BytesOf p (bitsL m1)) (hq : BytesOf q (bitsL m2)) (hm : McOk (m1, m2)) (W : World) (g : Nat) (h0 : W.cell? ⟨g, 0, none⟩ = some (.int .u64 (m1 : Nat))) (h1 : W.cell? ⟨g, 1, none⟩ = some (.int .u64 (m2 : Nat))) :
    ∃ (m : Nat) (ps : List Nat), W.cell? ⟨g, k, none⟩ = some (.int .u64 (m : Nat)) ∧ m < 18446744073709551616 ∧ BytesOf ps (bitsL m) ∧ preB p q (k + 1) = preB p q k ++ [ps.length] ++ ps := by
  match k, hk with
  | 0, _ => exact ⟨m1, p, h0, hm.1, hp, by simp [preB]⟩
  | 1, _ => exact ⟨m2, q, h1, hm.2, hq, by simp [preB, bytesC]⟩
theorem preB_len {p q : List Nat} (h1 : p.length ≤ 512) (h2 : q.length ≤ 512) : ∀ k, (preB p q k).length ≤ 2000
  | 0 => by simp [preB]
  | 1 => by simp [preB]; omega
  | k + 2 => by simp [preB, bytesC]; omega
theorem bytes8 {m : Nat} {ps : List Nat} (h : BytesOf ps (bitsL m)) : ps.length ≤ 8 := by
  by_cases he : bitsL m = []
  · rw [h.1 he]; simp
  · rw [h.2.1 he]
    have hm : (bitsL m).getLastD 0 ∈ bitsL m := by
      rw [List.getLastD_eq_getLast?, List.getLast?_eq_some_getLast he, Option.getD_some]; exact List.getLast_mem he
    have := (mem_bitsL.1 hm).1
    omega
theorem Bw.grown {W W' : World} {b : Option Addr} {n c : Nat} {ps : List Nat} {ob : Option Nat} (h : Bw W b n c ps) (hg : W.grownBy W' ob) (hne : ∀ x, b = some x → some x.block ≠ ob) : Bw W' b n c ps := by
  obtain ⟨h1, h2, h3, h4, h5⟩ := h
  refine ⟨h1, h2, h3, h4, ?_⟩
  rcases h5 with h5 | ⟨b', o, rfl, h6, h7⟩
  · exact .inl h5
  · refine .inr ⟨b', o, rfl, Nat.lt_of_lt_of_le h6 hg.size, fun j hj => ?_⟩
    rw [← h7 j hj]
    unfold World.cell?
    rw [hg.block b' h6 (hne _ rfl)]
theorem RowY.base {W : World} {B B' : Nat} {v : Value} {bs : List Nat} (h : RowY W B v bs) (hle : B' ≤ B) : RowY W B' v bs := by
  refine ⟨h.1, h.2.imp id ?_⟩
  rintro ⟨g, cap, cur, h1, h2, h3⟩
  exact ⟨g, cap, cur, h1, Nat.le_trans hle h2, h3⟩
theorem RowY.up {W W' : World} {B : Nat} {v : Value} {bs : List Nat} (h : RowY W B v bs) (hb : Below W.heap.size W W') : RowY W' B v bs := owns_below h (Nat.le_refl _) hb
theorem RowY.own {W : World} {B : Nat} {v : Value} {bs : List Nat} (h : RowY W B v bs) : ∀ b, v.ownBlock = some b → B ≤ b ∧ b < W.heap.size := fun b hb => World.ownsRow.lt h b hb
theorem refbytes_any (m1 m2 : Nat) (p q : List Nat) (hm : McOk (m1, m2)) (hp : BytesOf p (bitsL m1)) (hq : BytesOf q (bitsL m2)) (w : World) :
    Calls Tryz.prog 54 #[.agg #[.int .u64 (m1 : Nat), .int .u64 (m2 : Nat)]] w fun e w' => ∃ v, e = .returned v ∧ RowY w' w.heap.size v (bytesC p q) ∧ Below w.heap.size w w' := by
  have HM := Lib.hid hm
  have HP := Lib.hid hp
  have HQ := Lib.hid hq
  have HL := Lib.hid (preB_len (p := p) (q := q) (by have := bytes8 hp; omega) (by have := bytes8 hq; omega))
  clear hm hp hq
  go_enter Tryz.func54, Tryz.ntmps54
  go_upto_region 3 with fail
  obtain ⟨W1, hW1⟩ : ∃ W1, (w.alloc (.cells #[.int .u64 (m1 : Nat), .int .u64 (m2 : Nat)] 28)).alloc (.cells #[.int .u64 (m1 : Nat), .int .u64 (m2 : Nat)] 23) = W1 := ⟨_, rfl⟩
  have hA : At2T W1 (w.heap.size + 1) (.int .u64 (m1 : Nat)) (.int .u64 (m2 : Nat)) 23 := by
    rw [← hW1]
    have := At2T.new (w.alloc (.cells #[.int .u64 (m1 : Nat), .int .u64 (m2 : Nat)] 28)) (.int .u64 (m1 : Nat)) (.int .u64 (m2 : Nat)) 23
    rwa [World.size_alloc] at this
  have hBW : Below w.heap.size w W1 := by rw [← hW1]; exact ((Below.refl _ _).alloc (Nat.le_refl _) _).alloc (by simp) _
  have hsz : w.heap.size + 2 = W1.heap.size := by rw [← hW1]; simp
  rw [hW1]
  have HA := Lib.hid hA
  have HBW := Lib.hid hBW
  have HSZ := Lib.hid hsz
  clear hW1 hA hBW hsz
  obtain ⟨g, eg⟩ : ∃ g, w.heap.size + 1 = g := ⟨_, rfl⟩
  rw [eg] at HA ⊢
  have HG : Hid (g < W1.heap.size) := HA.out.lt
  clear eg
  go_loopw [3, 13] (fun v3 v13 wr => ∃ k : Nat, k ≤ 2 ∧ v13 = .int .i64 k ∧ RowY wr W1.heap.size v3 (preB p q k) ∧ Below W1.heap.size W1 wr) (fun _ v _ => 2 - (intOf v).toNat)
  case atStart => exact ⟨0, by omega, rfl, RowY.nil _ _, Below.refl _ _⟩
  case round =>
    obtain ⟨k, hk, rfl, hrow, hbel⟩ := hrel
    have hzr := hbel.size
    by_cases hlt : k < 2
    · have hA := HA.out.below hbel
      obtain ⟨m, ps, hc, hm, hps, hpre⟩ := pre_step m1 m2 k p q hlt HP.out HQ.out HM.out wr g hA.at.1 hA.at.2.1
      have hbl : g < wr.heap.size := hA.lt
      have HPS := Lib.hid hps
      have h8 := bytes8 hps
      have HPRE := Lib.hid hpre
      have hlen := HL.out k
      have hj0 : (0 : Int) ≤ (k : Int) := Int.natCast_nonneg _
      have hj1 : (k : Int) < 2 := by omega
      have HMM := Lib.hid hm
      clear hA hps hpre hm
      generalize preB p q k = out at hrow HPRE hlen
      go_wp2_with (first
        | (go_at_call 48; refine (rmembers_l m (bitsL m) _ HMM.out rfl).mono ?_; rintro e w2 ⟨a2, n2, c2, rfl, hi, hb⟩; have HI := Lib.hid hi; have hbel2 := hbel.trans (hb.mono hbel.size); have hrow2 : RowY w2 W1.heap.size _ out := owns_below hrow (Nat.le_refl _) hb; clear hi hb hrow hbel)
        | (go_at_call 86; refine (rbytes_any _ _ _ _ _ HI.out (asc_bits m)).mono ?_; rintro e w3 ⟨bs, v, rfl, hbs, hr3, hb⟩; obtain rfl := hbs.uniq HPS.out; obtain ⟨b, c, rfl, hbw, hnz, hx⟩ := row_bw hr3 hbs.lt; have hal := (Below.refl w3.heap.size w3).alloc (Nat.le_refl _) (.cells #[.int .u8 ((bs.length : Nat) : Int)] 5); have HROW := Lib.hid ((hrow2.up hb).up hal); have HOWN := Lib.hid (hrow2.own); have HONE := Lib.hid (bw_one (W := w3.alloc (.cells #[.int .u8 ((bs.length : Nat) : Int)] 5)) (g := w3.heap.size) (k := bs.length) (by simp) (by omega) (by simp)); have HBW3 := Lib.hid (hbw.below hal); have HNZ := Lib.hid hnz; have HX := Lib.hid hx; have hbel3 := hbel2.trans ((hb.trans (hal.mono hb.size)).mono hbel2.size); have HBEL3 := Lib.hid hbel3; have HB8 := Lib.hid h8; clear hbs hr3 hb hal hrow2 hbw hnz hx hbel3 hbel2)
        | (at_builtin; refine wpList_append_bw rfl (.tmp 20) (.tmp 24) rfl W1.heap.size _ out rfl HROW.out (some ⟨w3.heap.size, 0, none⟩) 1 1 [bs.length] rfl HONE.out (fun e => by cases e) (by omega) HBEL3.out.size ?_; intro v4 w4 hr4 hg4; have HBW4 := Lib.hid (HBW3.out.grown hg4 (fun x e e2 => by have := (HX.out x e).1; have := (HOWN.out _ e2.symm).2; omega)); have HBEL4 := Lib.hid (HBEL3.out.grown hg4 HBEL3.out.size (fun b hb => (HOWN.out b hb).1)); have HROW4 := Lib.hid hr4; clear hr4 hg4)
        | (at_builtin; refine wpList_append_bw rfl (.tmp 25) (.tmp 26) rfl W1.heap.size _ (out ++ [bs.length]) rfl HROW4.out b bs.length c bs rfl HBW4.out HNZ.out (by have := HB8.out; simp; omega) HBEL4.out.size ?_; intro v5 w5 hr5 hg5; have HBEL5 := Lib.hid (HBEL4.out.grown hg5 HBEL4.out.size (fun b hb => (HROW4.out.own b hb).1)); have HROW5 := Lib.hid hr5; clear hr5 hg5))
      go_roundw
      case rel => exact ⟨k + 1, by omega, by go_num, by rw [HPRE.out]; exact HROW5.out, HBEL5.out⟩
      case measure => simp [intOf]; omega
    · have hk2 : k = 2 := by omega
      subst hk2
      have hs := HSZ.out
      have HROW : Hid (RowY wr w.heap.size u3 (bytesC p q)) := hrow.base (by omega)
      have HBEL := Lib.hid (HBW.out.trans (hbel.mono HBW.out.size))
      clear hrow hbel
      go_wp2_with fail
      go_ret
      exact ⟨_, rfl, HROW.out, HBEL.out⟩
end Go.Proofs.YtadomogbakcokaaGreatDoor
