/- Contracts: And, Minus. -/
import Derived.Test.YtgbonpmakahibaaDoorBtD
namespace Go.Proofs.YtgbonpmakahibaaDoor
open Go.RowKit Go.PlainAid
set_option linter.unusedVariables false
set_option linter.unusedSimpArgs false
set_option maxHeartbeats 2000000

theorem and_mem {ws vs us l r : List Nat} (h : Rp ws l) (k : Rp vs r) (hq : us.length = min ws.length vs.length) (hu : Upto us us.length (fun j => wd ws j &&& wd vs j)) :
    U64 us ∧ us.length ≤ 64 ∧ Asc (andL l r) ∧ ∀ i, i < 4096 → (i ∈ andL l r ↔ mem us i = true) := by
  have hw : ∀ j, wd us j = wd ws j &&& wd vs j := by
    intro j
    rw [hu j]
    by_cases hj : j < us.length
    · rw [if_pos hj]
    · rw [if_neg hj]
      by_cases h1 : j < ws.length
      · rw [wd_out (ws := vs) (by omega)]; simp
      · rw [wd_out (ws := ws) (by omega)]; simp
  refine ⟨hu.u64 fun j => land_lt (wd_lt h.1 j), by have := h.2.2.1; omega, asc_filter h.asc _, fun i hi => ?_⟩
  unfold mem
  rw [hw, Nat.testBit_and]
  have e1 := h.mem_dec i
  have e2 := k.mem_dec i
  unfold mem at e1 e2
  rw [e1, e2]
  simp [andL]
theorem minus_mem {ws vs us l r : List Nat} (h : Rp ws l) (k : Rp vs r) (hq : us.length = ws.length) (hu : Upto us us.length (fun j => ldf (wd ws j) (wd vs j))) :
    U64 us ∧ us.length ≤ 64 ∧ Asc (minL l r) ∧ ∀ i, i < 4096 → (i ∈ minL l r ↔ mem us i = true) := by
  have hw : ∀ j, wd us j = ldf (wd ws j) (wd vs j) := by
    intro j
    rw [hu j]
    by_cases hj : j < us.length
    · rw [if_pos hj]
    · rw [if_neg hj, wd_out (ws := ws) (by omega)]; unfold ldf; simp
  refine ⟨hu.u64 fun j => ldf_lt (wd_lt h.1 j), by have := h.2.2.1; omega, asc_filter h.asc _, fun i hi => ?_⟩
  unfold mem
  rw [hw, tb_ldf (wd_lt k.1 _) (by omega)]
  have e1 := h.mem_dec i
  have e2 := k.mem_dec i
  unfold mem at e1 e2
  rw [e1, e2]
  simp [minL]
theorem row_trim {w : World} {B g q : Nat} {us l : List Nat} (h : Row w B g q us) (hm : U64 us ∧ us.length ≤ 64 ∧ Asc l ∧ ∀ i, i < 4096 → (i ∈ l ↔ mem us i = true)) :
    Calls Tryd.prog 50 #[.slice (some ⟨g, 0, none⟩) q q] w (SetPost w l) :=
  trim_any _ q q us l w (h.wd (by rw [← h.len]; omega)) hm.1 hm.2.1 hm.2.2.1 hm.2.2.2

theorem Bs.set {w : World} {a : Option Addr} {n cap : Nat} {l : List Nat} {p : Addr} {v u : Value} (h : Bs w a n cap l) (hp : w.cell? p = some v) (hv : ∀ x : Int, v ≠ .int .u64 x) : Bs (w.setCell p u) a n cap l := by
  obtain ⟨ws, ⟨h1, h2, h3, h4⟩, hr⟩ := h
  refine ⟨ws, ⟨h1, h2, h3, ?_⟩, hr⟩
  rcases h4 with h4 | ⟨b, o, h4, hb, hc⟩
  · exact .inl h4
  · refine .inr ⟨b, o, h4, by simpa using hb, fun j hj => ?_⟩
    rw [World.cell?_setCell_other]
    · exact hc j hj
    · intro e
      rw [e, hc j hj] at hp
      exact hv _ (Option.some.inj hp).symm
theorem and_any (a b : Option Addr) (n m cap dap : Nat) (l r : List Nat) (w : World) (h : Bs w a n cap l) (k : Bs w b m dap r) :
    Calls Tryd.prog 40 #[.agg #[.slice a n cap], .agg #[.slice b m dap]] w (SetPost w (andL l r)) := by
  obtain ⟨i0, hi, hz0, hz1, hz2⟩ := info_parts info64
  obtain ⟨ws, hw, hr⟩ := h
  obtain ⟨vs, kw, kr⟩ := k
  have hn64 : n ≤ 64 := by have := hr.2.2.1; rw [hw.1] at this; exact this
  have hm64 : m ≤ 64 := by have := kr.2.2.1; rw [kw.1] at this; exact this
  have hncap : n ≤ cap := hw.2.1
  have hmcap : m ≤ dap := kw.2.1
  obtain ⟨q, hq⟩ : ∃ q : Nat, min (n : Int) (m : Int) = q := ⟨min n m, by omega⟩
  have hq64 : q ≤ 64 := by omega
  have hqn : q ≤ n := by omega
  have hqm2 : q ≤ m := by omega
  have hwl := Lib.hid (fun k => wd_lt hr.1 k)
  have hvl := Lib.hid (fun k => wd_lt kr.1 k)
  have hfin := Lib.hid (fun (us : List Nat) (hl : us.length = q) (hu : Upto us us.length (fun j => wd ws j &&& wd vs j)) => and_mem hr kr (by rw [hw.1, kw.1]; omega) hu)
  have hbytes : i0.bytes * q ≤ 281474976710656 := by rw [hz2]; omega
  have hqm : q ≤ maxLen := by unfold maxLen; omega
  obtain ⟨-, -, -, h4⟩ := hw
  obtain ⟨-, -, -, k4⟩ := kw
  clear hr kr
  by_cases hq0 : q = 0
  · subst hq0
    clear h4 k4
    go_enter Tryd.func40, Tryd.ntmps40
    go_wp2_with (refine wpList_make_full _ rfl (.tmp 13) (.tmp 13) 53 rfl (w.heap.size + 3) 77 i0 (.int .u64 0) 1 Tryd.underlying53 hi hz0 hz1 .i64 .i64 0 0 0 rfl rfl rfl rfl hbytes hqm ?c1 ?_)
    case c1 => simp
    intro w1 hown hgr
    have hrow := Lib.hid (Row.new hown)
    have hbel := Lib.hid ((Below.refl (w.heap.size + 3) _).grown hgr (by simp) (fun b hb => by cases hb))
    clear hown hgr
    generalize hgE : w.heap.size + 1 + 1 + 1 = g at hrow ⊢
    replace hgE := Lib.hid hgE
    clear hi hz0 hz1 hz2 hbytes hqm
    go_wp2_with fail
    go_loopw [17] (fun v wr => v = .int .i64 0 ∧ wr = w1) (fun v _ => 0)
    case atStart => exact ⟨rfl, rfl⟩
    case round =>
      obtain ⟨rfl, rfl⟩ := hrel
      obtain ⟨c0, c1, c2, f2, hz, hBw⟩ := box3 hbel.out
      go_wp2_with fail
      refine (row_trim hrow.out (hfin.out _ hrow.out.len (by rw [hrow.out.len]; exact Upto.zero 0 _))).mono ?_
      rintro e w2 ⟨a2, n2, d2, rfl, hs2, hb2⟩
      have HS2 := Lib.hid hs2
      clear hs2
      have c22 := (hb2.cell (p := ⟨w.heap.size + 1 + 1, 0, none⟩) (show w.heap.size + 1 + 1 < wr.heap.size by omega)).trans c2
      have f22 := (hb2.frozen (p := ⟨w.heap.size + 1 + 1, 0, none⟩) (show w.heap.size + 1 + 1 < wr.heap.size by omega)).trans f2
      go_wp2_with fail
      have cs := World.cell?_setCell_same w2 ⟨w.heap.size + 1 + 1, 0, none⟩ (.slice a2 n2 d2) c22
      refine bodyPost_ret (v := .agg #[.slice a2 n2 d2]) (by simp [results, Tryd.results40, go_sem, cs]) rfl ?_
      exact ⟨a2, n2, d2, rfl, HS2.out.set c22 (by intro x e; cases e), (hBw.trans (hb2.mono hBw.size)).setCell (show w.heap.size ≤ w.heap.size + 1 + 1 by omega) _⟩
  · rcases h4 with ⟨rfl, rfl, rfl⟩ | ⟨b1, o1, rfl, hb1, hc1⟩
    · omega
    rcases k4 with ⟨rfl, rfl, rfl⟩ | ⟨b2, o2, rfl, hb2, hc2⟩
    · omega
    have HC1 := Lib.hid hc1
    have HC2 := Lib.hid hc2
    clear hc1 hc2
    go_enter Tryd.func40, Tryd.ntmps40
    go_wp2_with (refine wpList_make_full _ rfl (.tmp 13) (.tmp 13) 53 rfl (w.heap.size + 3) 77 i0 (.int .u64 0) 1 Tryd.underlying53 hi hz0 hz1 .i64 .i64 q q q rfl rfl rfl rfl hbytes hqm ?c1 ?_)
    case c1 => simp
    intro w1 hown hgr
    have hrow := Lib.hid (Row.new hown)
    have hbel := Lib.hid ((Below.refl (w.heap.size + 3) _).grown hgr (by simp) (fun b hb => by cases hb))
    clear hown hgr
    generalize hgE : w.heap.size + 1 + 1 + 1 = g at hrow ⊢
    replace hgE := Lib.hid hgE
    clear hi hz0 hz1 hz2 hbytes hqm
    go_wp2_with fail
    go_loopw [17] (fun v wr => CRel w (((w.alloc (.cells #[.slice (some ⟨b1, o1, none⟩) n cap] 55)).alloc (.cells #[.slice (some ⟨b2, o2, none⟩) m dap] 55)).alloc (.cells #[.slice none 0 0] 55)) (w.heap.size + 3) g q (fun j => wd ws j &&& wd vs j) v wr) (fun v _ => q - (intOf v).toNat)
    case atStart => exact ⟨0, List.replicate q 0, Nat.zero_le _, rfl, hrow.out, Upto.zero _ _, hbel.out⟩
    case round =>
      obtain ⟨k, us, hk, rfl, hR, hU, hB⟩ := hrel
      obtain ⟨c0, c1, c2, f2, hz, hBw⟩ := box3 hB
      have HR := Lib.hid hR
      have HU := Lib.hid hU
      have HB := Lib.hid hB
      clear hR hU hB
      by_cases hlt : k < q
      · have hr0 := HR.out.cell hlt
        have hf0 := HR.out.free k
        have hgl := HR.out.lt.2
        have x1 := (hBw.cell (p := ⟨b1, o1 + k, none⟩) hb1).trans (HC1.out k (by omega))
        have x2 := (hBw.cell (p := ⟨b2, o2 + k, none⟩) hb2).trans (HC2.out k (by omega))
        have hop : bits .and .u64 ((wd ws k : Nat) : Int) ((wd vs k : Nat) : Int) = ((wd ws k &&& wd vs k : Nat) : Int) := u64_and_nat _ _ (hwl.out k) (hvl.out k)
        have i0 : (0 : Int) ≤ (k : Int) := by omega
        have i1 : (k : Int) < (q : Int) := by omega
        have i2 : (k : Int) < (n : Int) := by omega
        have i3 : (k : Int) < (m : Int) := by omega
        go_wp2_with fail
        go_region
        all_goals
          go_wp2_with fail
          go_roundw
          case rel => exact ⟨k + 1, us.set k (wd ws k &&& wd vs k), by omega, by go_num, HR.out.set k _, HU.out.next HR.out.len hlt, (bdr HB.out 1).setCell (show w.heap.size + 3 ≤ g by have := hgE.out; omega) _⟩
          case measure => simp [intOf]; omega
      · have hkq : k = q := by omega
        subst hkq
        go_wp2_with fail
        refine (row_trim HR.out (hfin.out us HR.out.len (by rw [HR.out.len]; exact HU.out))).mono ?_
        rintro e w2 ⟨a2, n2, d2, rfl, hs2, hb2⟩
        have HS2 := Lib.hid hs2
        clear hs2
        have c22 := (hb2.cell (p := ⟨w.heap.size + 1 + 1, 0, none⟩) (show w.heap.size + 1 + 1 < wr.heap.size by omega)).trans c2
        have f22 := (hb2.frozen (p := ⟨w.heap.size + 1 + 1, 0, none⟩) (show w.heap.size + 1 + 1 < wr.heap.size by omega)).trans f2
        go_wp2_with fail
        have cs := World.cell?_setCell_same w2 ⟨w.heap.size + 1 + 1, 0, none⟩ (.slice a2 n2 d2) c22
        refine bodyPost_ret (v := .agg #[.slice a2 n2 d2]) (by simp [results, Tryd.results40, go_sem, cs]) rfl ?_
        exact ⟨a2, n2, d2, rfl, HS2.out.set c22 (by intro x e; cases e), (hBw.trans (hb2.mono hBw.size)).setCell (show w.heap.size ≤ w.heap.size + 1 + 1 by omega) _⟩

theorem minus_any (a b : Option Addr) (n m cap dap : Nat) (l r : List Nat) (w : World) (h : Bs w a n cap l) (k : Bs w b m dap r) :
    Calls Tryd.prog 34 #[.agg #[.slice a n cap], .agg #[.slice b m dap]] w (SetPost w (minL l r)) := by
  obtain ⟨i0, hi, hz0, hz1, hz2⟩ := info_parts info64
  obtain ⟨ws, hw, hr⟩ := h
  obtain ⟨vs, kw, kr⟩ := k
  have hn64 : n ≤ 64 := by have := hr.2.2.1; rw [hw.1] at this; exact this
  have hncap : n ≤ cap := hw.2.1
  have hwl := Lib.hid (fun k => wd_lt hr.1 k)
  have hvl := Lib.hid (fun k => wd_lt kr.1 k)
  have hW2 := Lib.hid (fun (k : Nat) w' (hk : k ≤ 4096) (hb : Below w.heap.size w w') => word_any b m dap k vs w' (kw.below hb) hk)
  have hfin := Lib.hid (fun (us : List Nat) (hl : us.length = n) (hu : Upto us us.length (fun j => ldf (wd ws j) (wd vs j))) => minus_mem hr kr (by rw [hw.1]; omega) hu)
  have hbytes : i0.bytes * n ≤ 281474976710656 := by rw [hz2]; omega
  have hqm : n ≤ maxLen := by unfold maxLen; omega
  obtain ⟨-, -, -, h4⟩ := hw
  clear hr kr kw
  rcases h4 with ⟨rfl, rfl, rfl⟩ | ⟨b1, o1, rfl, hb1, hc1⟩
  · go_enter Tryd.func34, Tryd.ntmps34
    go_wp2_with (refine wpList_make_full _ rfl (.tmp 9) (.tmp 9) 53 rfl (w.heap.size + 3) 77 i0 (.int .u64 0) 1 Tryd.underlying53 hi hz0 hz1 .i64 .i64 0 0 0 rfl rfl rfl rfl hbytes hqm ?c1 ?_)
    case c1 => simp
    intro w1 hown hgr
    have hrow := Lib.hid (Row.new hown)
    have hbel := Lib.hid ((Below.refl (w.heap.size + 3) _).grown hgr (by simp) (fun b hb => by cases hb))
    clear hown hgr
    generalize hgE : w.heap.size + 1 + 1 + 1 = g at hrow ⊢
    replace hgE := Lib.hid hgE
    clear hi hz0 hz1 hz2 hbytes hqm
    go_wp2_with fail
    go_loopw [13] (fun v wr => v = .int .i64 0 ∧ wr = w1) (fun v _ => 0)
    case atStart => exact ⟨rfl, rfl⟩
    case round =>
      obtain ⟨rfl, rfl⟩ := hrel
      obtain ⟨c0, c1, c2, f2, hz, hBw⟩ := box3 hbel.out
      go_wp2_with fail
      refine (row_trim hrow.out (hfin.out _ hrow.out.len (by rw [hrow.out.len]; exact Upto.zero 0 _))).mono ?_
      rintro e w2 ⟨a2, n2, d2, rfl, hs2, hb2⟩
      have HS2 := Lib.hid hs2
      clear hs2
      have c22 := (hb2.cell (p := ⟨w.heap.size + 1 + 1, 0, none⟩) (show w.heap.size + 1 + 1 < wr.heap.size by omega)).trans c2
      have f22 := (hb2.frozen (p := ⟨w.heap.size + 1 + 1, 0, none⟩) (show w.heap.size + 1 + 1 < wr.heap.size by omega)).trans f2
      go_wp2_with fail
      have cs := World.cell?_setCell_same w2 ⟨w.heap.size + 1 + 1, 0, none⟩ (.slice a2 n2 d2) c22
      refine bodyPost_ret (v := .agg #[.slice a2 n2 d2]) (by simp [results, Tryd.results34, go_sem, cs]) rfl ?_
      exact ⟨a2, n2, d2, rfl, HS2.out.set c22 (by intro x e; cases e), (hBw.trans (hb2.mono hBw.size)).setCell (show w.heap.size ≤ w.heap.size + 1 + 1 by omega) _⟩
  · have HC1 := Lib.hid hc1
    clear hc1
    go_enter Tryd.func34, Tryd.ntmps34
    go_wp2_with (refine wpList_make_full _ rfl (.tmp 9) (.tmp 9) 53 rfl (w.heap.size + 3) 77 i0 (.int .u64 0) 1 Tryd.underlying53 hi hz0 hz1 .i64 .i64 n n n rfl rfl rfl rfl hbytes hqm ?c1 ?_)
    case c1 => simp
    intro w1 hown hgr
    have hrow := Lib.hid (Row.new hown)
    have hbel := Lib.hid ((Below.refl (w.heap.size + 3) _).grown hgr (by simp) (fun b hb => by cases hb))
    clear hown hgr
    generalize hgE : w.heap.size + 1 + 1 + 1 = g at hrow ⊢
    replace hgE := Lib.hid hgE
    clear hi hz0 hz1 hz2 hbytes hqm
    go_wp2_with fail
    go_loopw [13] (fun v wr => CRel w (((w.alloc (.cells #[.slice (some ⟨b1, o1, none⟩) n cap] 55)).alloc (.cells #[.slice b m dap] 55)).alloc (.cells #[.slice none 0 0] 55)) (w.heap.size + 3) g n (fun j => ldf (wd ws j) (wd vs j)) v wr) (fun v _ => n - (intOf v).toNat)
    case atStart => exact ⟨0, List.replicate n 0, Nat.zero_le _, rfl, hrow.out, Upto.zero _ _, hbel.out⟩
    case round =>
      obtain ⟨k, us, hk, rfl, hR, hU, hB⟩ := hrel
      obtain ⟨c0, c1, c2, f2, hz, hBw⟩ := box3 hB
      have HR := Lib.hid hR
      have HU := Lib.hid hU
      have HB := Lib.hid hB
      clear hR hU hB
      by_cases hlt : k < n
      · have hr0 := HR.out.cell hlt
        have hf0 := HR.out.free k
        have hgl := HR.out.lt.2
        have x1 := (hBw.cell (p := ⟨b1, o1 + k, none⟩) hb1).trans (HC1.out k (by omega))
        have hop : bits .andNot .u64 ((wd ws k : Nat) : Int) ((wd vs k : Nat) : Int) = ((ldf (wd ws k) (wd vs k) : Nat) : Int) := u64_andNot_nat _ _ (hwl.out k) (hvl.out k)
        have hg1 : ¬ g = w.heap.size := by have := hgE.out; omega
        have hg2 : ¬ g = w.heap.size + 1 := by have := hgE.out; omega
        have hg3 : ¬ g = b1 := by have := hgE.out; omega
        have hS := Lib.hid (fun w' (hb : Below wr.heap.size wr w') => (⟨(hb.cell (p := ⟨w.heap.size, 0, none⟩) (show w.heap.size < wr.heap.size by omega)).trans c0, (hb.cell (p := ⟨w.heap.size + 1, 0, none⟩) (show w.heap.size + 1 < wr.heap.size by omega)).trans c1, (hb.cell (p := ⟨b1, o1 + k, none⟩) (show b1 < wr.heap.size by omega)).trans x1⟩ :
          w'.cell? ⟨w.heap.size, 0, none⟩ = some (.slice (some ⟨b1, o1, none⟩) n cap) ∧ w'.cell? ⟨w.heap.size + 1, 0, none⟩ = some (.slice b m dap) ∧ w'.cell? ⟨b1, o1 + k, none⟩ = some (.int .u64 (wd ws k : Nat))))
        have hS2 := Lib.hid (fun w' u (hb : Below wr.heap.size wr w') => (⟨(World.cell?_setCell_other w' ⟨g, k, none⟩ ⟨w.heap.size, 0, none⟩ u (fun e => hg1 (by injection e))).trans (hS.out w' hb).1, (World.cell?_setCell_other w' ⟨g, k, none⟩ ⟨w.heap.size + 1, 0, none⟩ u (fun e => hg2 (by injection e))).trans (hS.out w' hb).2.1, (World.cell?_setCell_other w' ⟨g, k, none⟩ ⟨b1, o1 + k, none⟩ u (fun e => hg3 (by injection e))).trans (hS.out w' hb).2.2⟩ :
          (w'.setCell ⟨g, k, none⟩ u).cell? ⟨w.heap.size, 0, none⟩ = some (.slice (some ⟨b1, o1, none⟩) n cap) ∧ (w'.setCell ⟨g, k, none⟩ u).cell? ⟨w.heap.size + 1, 0, none⟩ = some (.slice b m dap) ∧ (w'.setCell ⟨g, k, none⟩ u).cell? ⟨b1, o1 + k, none⟩ = some (.int .u64 (wd ws k : Nat))))
        clear hg1 hg2 hg3
        have i0 : (0 : Int) ≤ (k : Int) := by omega
        have i1 : (k : Int) < (n : Int) := by omega
        have i2 : (0 : Int) ≤ (k : Int) := by omega
        go_wp2_with fail
        go_region_held3 (fun w' => w'.cell? ⟨w.heap.size, 0, none⟩ = some (.slice (some ⟨b1, o1, none⟩) n cap) ∧ w'.cell? ⟨w.heap.size + 1, 0, none⟩ = some (.slice b m dap) ∧ w'.cell? ⟨b1, o1 + k, none⟩ = some (.int .u64 (wd ws k : Nat)))
          (first | exact hS.out _ (Below.refl _ _).drew | exact hS.out _ hb2 | exact hS2.out _ _ hb2)
          (first | (go_at_call 51; (with_reducible refine (hW2.out k _ (by omega) hBw.drew).mono ?_); rintro e w2 ⟨rfl, hb2⟩; replace hb2 := (Below.refl wr.heap.size wr).drew.trans (hb2.mono (by simp)); have hq3 := (hb2.cell (p := ⟨g, k, none⟩) hgl).trans hr0; have hf3 := (hb2.frozen (p := ⟨g, k, none⟩) hgl).trans hf0))
        go_wp2_with fail
        go_roundw
        case rel => exact ⟨k + 1, us.set k (ldf (wd ws k) (wd vs k)), by omega, by go_num, (HR.out.below hb2).set k _, HU.out.next HR.out.len hlt, (HB.out.trans (hb2.mono hz)).setCell (show w.heap.size + 3 ≤ g by have := hgE.out; omega) _⟩
        case measure => simp [intOf]; omega
      · have hkq : k = n := by omega
        subst hkq
        go_wp2_with fail
        refine (row_trim HR.out (hfin.out us HR.out.len (by rw [HR.out.len]; exact HU.out))).mono ?_
        rintro e w2 ⟨a2, n2, d2, rfl, hs2, hb2⟩
        have HS2 := Lib.hid hs2
        clear hs2
        have c22 := (hb2.cell (p := ⟨w.heap.size + 1 + 1, 0, none⟩) (show w.heap.size + 1 + 1 < wr.heap.size by omega)).trans c2
        have f22 := (hb2.frozen (p := ⟨w.heap.size + 1 + 1, 0, none⟩) (show w.heap.size + 1 + 1 < wr.heap.size by omega)).trans f2
        go_wp2_with fail
        have cs := World.cell?_setCell_same w2 ⟨w.heap.size + 1 + 1, 0, none⟩ (.slice a2 n2 d2) c22
        refine bodyPost_ret (v := .agg #[.slice a2 n2 d2]) (by simp [results, Tryd.results34, go_sem, cs]) rfl ?_
        exact ⟨a2, n2, d2, rfl, HS2.out.set c22 (by intro x e; cases e), (hBw.trans (hb2.mono hBw.size)).setCell (show w.heap.size ≤ w.heap.size + 1 + 1 by omega) _⟩
end Go.Proofs.YtgbonpmakahibaaDoor
