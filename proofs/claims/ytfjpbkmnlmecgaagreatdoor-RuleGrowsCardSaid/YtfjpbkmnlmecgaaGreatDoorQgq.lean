/- The parser: when. -/
import Derived.Test.YtfjpbkmnlmecgaaGreatDoorQgp
import Derived.Test.YtfjpbkmnlmecgaaGreatDoorQgm
import Derived.Test.YtfjpbkmnlmecgaaGreatDoorQge
namespace Go.Proofs.YtfjpbkmnlmecgaaGreatDoor.Ru
open Go.RowKit Go.PlainAid Go.Maps Go.Proofs.YtfjpbkmnlmecgaaGreatDoor Go.Proofs.YtfjpbkmnlmecgaaGreatDoor.Bz
set_option linter.unusedVariables false
set_option linter.unusedSimpArgs false
set_option maxHeartbeats 4000000
set_option maxRecDepth 20000

/-- What when answers. -/
def WhP (W0 w : World) (g : Nat) (ts : List Tok) (r : List (Int × Int) × RS) (e : Ending) (w' : World) : Prop :=
  ∃ a n c, e = .returned (.agg #[.slice a n c]) ∧ Dy.Dn W0.heap.size w' a n c r.1 ∧ Dy.Can r.1 ∧ Pw W0 g ts r.2 w' ∧ InT ts r.2 ∧ w.grownBy w' (some g)
theorem cell1 {w : World} {t : Nat} {x : Value} {T : TypeId} (h : w.heap[t]? = some (.cells #[x] T (0, 0))) : w.cell? ⟨t, 0, none⟩ = some x ∧ w.frozen? ⟨t, 0, none⟩ = false :=
  ⟨by rw [cell_of_row _ _ 0 _ _ _ h]; rfl, by unfold World.frozen?; dsimp only; rw [h]; simp⟩
theorem gb_new {w w1 w2 : World} {row q : Option Nat} (h : w.grownBy w1 row) (k : w1.grownBy w2 q) (hq : ∀ b, q = some b → w.heap.size ≤ b) : w.grownBy w2 row :=
  ⟨k.os.trans h.os, k.tape.trans h.tape, k.output.trans h.output, Nat.le_trans h.size k.size, fun b hb hr => (k.block b (Nat.lt_of_lt_of_le hb h.size) (fun e => by have := hq b e.symm; omega)).trans (h.block b hb hr)⟩
theorem bel_new {N : Nat} {w1 w2 : World} {q : Option Nat} (k : w1.grownBy w2 q) (hq : ∀ b, q = some b → N ≤ b) (hN : N ≤ w1.heap.size) : Below N w1 w2 :=
  ⟨k.os, k.tape, k.output, k.size, fun b hb => k.block b (Nat.lt_of_lt_of_le hb hN) (fun e => by have := hq b e.symm; omega)⟩
theorem num_pos {ts : List Tok} {lo hi : Int} {s : RS} (h : InT ts s) : s.pos ≤ (numS ts lo hi s).pos := (nu_le lo hi h).2
theorem span_pos {ts : List Tok} {s : RS} (h : InT ts s) : s.pos ≤ (spanS ts s).pos ∧ InT ts (spanS ts s) := by
  have h1 := num_in (lo := 0) (hi := 30000) h
  have p1 := num_pos (lo := 0) (hi := 30000) h
  have h2 := acc_in (x := wDash) h1
  have p2 := acc_pos (x := wDash) h1
  unfold spanS
  dsimp only
  split
  · split
    · exact ⟨Nat.le_trans p1 (Nat.le_trans p2 (num_pos h2)), num_in h2⟩
    · exact ⟨Nat.le_trans p1 p2, h2⟩
  · exact ⟨Nat.le_trans p1 p2, h2⟩
theorem ofL_eq {l r : List (Int × Int)} (hc : Dy.Can r) (hm : ∀ d, Dy.Dm r d = match decide (Dy.errL l = 0) with | true => Dy.Dm l d | false => false) : ofL l = r := by
  unfold ofL
  by_cases h : Dy.errL l = 0
  · rw [if_pos h]
    rw [decide_eq_true h] at hm
    exact canL_eq hc hm
  · rw [if_neg h]
    rw [decide_eq_false h] at hm
    exact ((Dy.can_eq_nil hc).2 hm).symm
theorem gb_bel {w w1 w2 : World} {N : Nat} {row : Option Nat} (h : w.grownBy w1 row) (k : Below N w1 w2) (hN : w.heap.size ≤ N) : w.grownBy w2 row :=
  ⟨k.os.trans h.os, k.tape.trans h.tape, k.output.trans h.output, Nat.le_trans h.size k.size, fun b hb hr => (k.block b (Nat.lt_of_lt_of_le hb hN)).trans (h.block b hb hr)⟩
theorem own_read {w w' : World} {base : Nat} {e : TypeId} {size n : Nat} {v : Value} {xs : List Value} {row : Option Nat} (h : w.ownsRow base e size v n xs) (hg : w.grownBy w' row) (hr : ∀ b, v.ownBlock = some b → some b ≠ row) : w'.ownsRow base e size v n xs := by
  refine ⟨h.1, ?_⟩
  rcases h.2 with hn | ⟨b, cap, cur, rfl, hb, hh, r⟩
  · exact .inl hn
  · exact .inr ⟨b, cap, cur, rfl, hb, (hg.block b (Array.getElem?_eq_some_iff.1 hh).1 (hr b rfl)).trans hh, r⟩
theorem when_all {W0 w : World} {g P t : Nat} {ns : List ByteArray} {a : Option Addr} {n cap : Nat} {adm : List Nat} {ts : List Tok} {s : RS} (hB : Base W0 g P t ns a n cap adm) (hw : Pw W0 g ts s w) (hi : InT ts s) (ha : accB ts wAll s = true) :
    Calls Tryz.prog 153 #[.pointer (some ⟨P, 0, none⟩)] w (WhP W0 w g ts (allD, accS ts wAll s)) := by
  have hNS := hw.size
  have hgl := hw.2.2
  have hw1 := hw.below ((Below.refl _ w).alloc (Nat.le_refl _) (.cells #[.slice none 0 0] 44))
  obtain ⟨x0, -, -⟩ := hB.cells hw1
  have HA := Lib.hid (p_accept ⟨#[97, 108, 108]⟩ hw1 hi)
  have HBA : Hid (accB ts ⟨#[97, 108, 108]⟩ s = true) := ha
  have hr : (w.alloc (.cells #[.slice none 0 0] 44)).heap[w.heap.size]? = some (.cells #[.slice none 0 0] 44 (0, 0)) := heap_alloc_new _ _
  have hgr : w.heap.size ≠ g := by omega
  have hin := acc_in (x := wAll) hi
  clear ha
  go_enter Tryz.func153, Tryz.ntmps153
  go_wp2_with (first | (go_at_call 149; (with_reducible refine HA.out.mono ?_); rintro en w3 ⟨rfl, hp3, hg3⟩; rw [HBA.out]; have hr3 := (hg3.block w.heap.size (by simp) (fun e => hgr (Option.some.inj e))).trans hr; have hz3 := hg3.size; simp only [World.size_alloc] at hz3) | (go_at_call 132; refine (Dy.all_anyF _).mono ?_; rintro en w4 ⟨a4, n4, c4, rfl, hd4, hb4⟩; have hr4 := (hb4.block w.heap.size (by omega)).trans hr3; obtain ⟨k0, f0⟩ := cell1 hr4))
  have cs := World.cell?_setCell_same w4 ⟨w.heap.size, 0, none⟩ (.slice a4 n4 c4) k0
  refine bodyPost_ret (v := .agg #[.slice a4 n4 c4]) (by simp [results, Tryz.results153, go_sem, cs]) rfl ?_
  exact ⟨a4, n4, c4, rfl, (hd4.set k0 (by intro x e; cases e)).mono (by omega), Dy.can_all, hp3.after ((hb4.mono (by omega)).setCell (p := ⟨w.heap.size, 0, none⟩) hNS _), hin, gb_set_new (gb_trans (gb_trans (gb_of_below ((Below.refl _ w).alloc (Nat.le_refl _) _) _) hg3) (gb_of_below hb4 _)) (Nat.le_refl _)⟩
theorem when_none {W0 w : World} {g P t : Nat} {ns : List ByteArray} {a : Option Addr} {n cap : Nat} {adm : List Nat} {ts : List Tok} {s : RS} (hB : Base W0 g P t ns a n cap adm) (hw : Pw W0 g ts s w) (hi : InT ts s) (ha : accB ts wAll s = false) (hb : accB ts wNone s = true) :
    Calls Tryz.prog 153 #[.pointer (some ⟨P, 0, none⟩)] w (WhP W0 w g ts ([], accS ts wNone s)) := by
  have hNS := hw.size
  have hgl := hw.2.2
  have hw1 := hw.below ((Below.refl _ w).alloc (Nat.le_refl _) (.cells #[.slice none 0 0] 44))
  obtain ⟨x0, -, -⟩ := hB.cells hw1
  have HA := Lib.hid (p_accept ⟨#[97, 108, 108]⟩ hw1 hi)
  have HS : Hid (accS ts ⟨#[97, 108, 108]⟩ s = s) := acc_no ha
  have HBA : Hid (accB ts ⟨#[97, 108, 108]⟩ s = false) := ha
  have HBN : Hid (accB ts ⟨#[110, 111, 110, 101]⟩ s = true) := hb
  have HN := Lib.hid (fun w' (h : Pw W0 g ts s w') => p_accept ⟨#[110, 111, 110, 101]⟩ h hi)
  have HCEL := Lib.hid (fun w' s' (h : Pw W0 g ts s' w') => hB.cells h)
  have hr : (w.alloc (.cells #[.slice none 0 0] 44)).heap[w.heap.size]? = some (.cells #[.slice none 0 0] 44 (0, 0)) := heap_alloc_new _ _
  have hgr : w.heap.size ≠ g := by omega
  have hin := acc_in (x := wNone) hi
  clear ha hb
  go_enter Tryz.func153, Tryz.ntmps153
  go_wp2_with (first | (go_at_call 149; (with_reducible refine HA.out.mono ?_); rintro en w3 ⟨rfl, hp3, hg3⟩; rw [HBA.out]; rw [HS.out] at hp3; have hr3 := (hg3.block w.heap.size (by simp) (fun e => hgr (Option.some.inj e))).trans hr; have hz3 := hg3.size; simp only [World.size_alloc] at hz3; obtain ⟨x3, -, -⟩ := HCEL.out _ _ hp3) | (go_at_call 149; (with_reducible refine (HN.out _ hp3).mono ?_); rintro en w4 ⟨rfl, hp4, hg4⟩; rw [HBN.out]; have hr4 := (hg4.block w.heap.size (by omega) (fun e => hgr (Option.some.inj e))).trans hr3; obtain ⟨k0, f0⟩ := cell1 hr4))
  have cs := World.cell?_setCell_same w4 ⟨w.heap.size, 0, none⟩ (.slice none 0 0) k0
  refine bodyPost_ret (v := .agg #[.slice none 0 0]) (by simp [results, Tryz.results153, go_sem, cs]) rfl ?_
  exact ⟨none, 0, 0, rfl, Dy.Dn.nil _ _, Dy.can_nil, hp4.after ((Below.refl _ w4).setCell (p := ⟨w.heap.size, 0, none⟩) hNS _), hin, gb_set_new (gb_trans (gb_trans (gb_of_below ((Below.refl _ w).alloc (Nat.le_refl _) _) _) hg3) hg4) (Nat.le_refl _)⟩
/-- What the loop over spans keeps: R is what will come out. -/
def WnJ (W0 : World) (g N : Nat) (ts : List Tok) (R : List (Int × Int) × RS) (v3 v4 : Value) (w : World) : Prop :=
  ∃ l s, Dy.Os 158 w N v3 l ∧ l.length ≤ s.pos + 1 ∧ Pw W0 g ts s w ∧ InT ts s ∧
    ((v4 = .bool true ∧ l.length ≤ s.pos ∧ ∃ f, spansS ts f l s = R ∧ ts.length + 2 ≤ f + s.pos) ∨ (v4 = .bool false ∧ (l, s) = R))
theorem when_go {W0 w : World} {g P t : Nat} {ns : List ByteArray} {a : Option Addr} {n cap : Nat} {adm : List Nat} {ts : List Tok} {s : RS} (hB : Base W0 g P t ns a n cap adm) (hw : Pw W0 g ts s w) (hi : InT ts s) (ha : accB ts wAll s = false) (hb : accB ts wNone s = false) (hts : ts.length ≤ 90000) :
    Calls Tryz.prog 153 #[.pointer (some ⟨P, 0, none⟩)] w (WhP W0 w g ts (ofL (spansS ts (ts.length + 2) [] s).1, (spansS ts (ts.length + 2) [] s).2)) := by
  obtain ⟨i0, hi0, hz0, hz1, hz2⟩ := info_parts Dy.infoSpan
  have hNS := hw.size
  have hgl := hw.2.2
  have hw1 := hw.below ((Below.refl _ w).alloc (Nat.le_refl _) (.cells #[.slice none 0 0] 44))
  obtain ⟨x0, -, -⟩ := hB.cells hw1
  have HA := Lib.hid (p_accept ⟨#[97, 108, 108]⟩ hw1 hi)
  have HS : Hid (accS ts ⟨#[97, 108, 108]⟩ s = s) := acc_no ha
  have HS2 : Hid (accS ts ⟨#[110, 111, 110, 101]⟩ s = s) := acc_no hb
  have HBA : Hid (accB ts ⟨#[97, 108, 108]⟩ s = false) := ha
  have HBN : Hid (accB ts ⟨#[110, 111, 110, 101]⟩ s = false) := hb
  have HN := Lib.hid (fun w' (h : Pw W0 g ts s w') => p_accept ⟨#[110, 111, 110, 101]⟩ h hi)
  have HCEL := Lib.hid (fun w' s' (h : Pw W0 g ts s' w') => hB.cells h)
  have hr : (w.alloc (.cells #[.slice none 0 0] 44)).heap[w.heap.size]? = some (.cells #[.slice none 0 0] 44 (0, 0)) := heap_alloc_new _ _
  have hgr : w.heap.size ≠ g := by omega
  have hi' := Lib.hid hi
  clear ha hb hi
  obtain ⟨R, hR⟩ : ∃ R, spansS ts (ts.length + 2) [] s = R := ⟨_, rfl⟩
  have HR := Lib.hid hR
  rw [hR]
  clear hR
  go_enter Tryz.func153, Tryz.ntmps153
  go_wp2_with (first | (go_at_call 149; (with_reducible refine HA.out.mono ?_); rintro en w3 ⟨rfl, hp3, hg3⟩; rw [HBA.out]; rw [HS.out] at hp3; have hr3 := (hg3.block w.heap.size (by simp) (fun e => hgr (Option.some.inj e))).trans hr; have hz3 := hg3.size; simp only [World.size_alloc] at hz3; obtain ⟨x3, -, -⟩ := HCEL.out _ _ hp3) | (go_at_call 149; (with_reducible refine (HN.out _ hp3).mono ?_); rintro en w4 ⟨rfl, hp4, hg4⟩; rw [HBN.out]; rw [HS2.out] at hp4; have hr4 := (hg4.block w.heap.size (by omega) (fun e => hgr (Option.some.inj e))).trans hr3; have hz4 := hg4.size))
  have hgr4 : w.grownBy w4 (some g) := gb_trans (gb_trans (gb_of_below ((Below.refl _ w).alloc (Nat.le_refl _) _) _) hg3) hg4
  clear hg3 hg4 hp3 hr3 hr x0 x3 hw1 HBA HBN HS HS2 HA HN
  go_loopw [3, 4] (fun v3 v4 wr => WnJ W0 g (w.heap.size + 1) ts R v3 v4 wr ∧ w.grownBy wr (some g) ∧ w.heap.size + 1 ≤ wr.heap.size ∧ wr.heap[w.heap.size]? = some (.cells #[.slice none 0 0] 44 (0, 0))) (fun _ v4 wr => msr v4 (1 + ts.length - posOf wr g))
  case atStart => exact ⟨⟨[], s, Dy.Os.nil _ _ _, by simp, hp4, hi'.out, .inl ⟨rfl, by simp, _, HR.out, by omega⟩⟩, hgr4, by omega, hr4⟩
  case round =>
    obtain ⟨⟨l, s1, hown, hln, hp1, hi1, hv⟩, hgw, hsz, hrr⟩ := hrel
    clear hp4 hr4 hgr4 HR hi' hz3 hz4
    rcases hv with ⟨rfl, hl, f, hf, hfl⟩ | ⟨rfl, hf⟩
    · obtain ⟨f, rfl⟩ : ∃ f', f = f' + 1 := ⟨f - 1, by unfold InT at hi1; omega⟩
      obtain ⟨x0, -, -⟩ := hB.cells hp1
      have HN := Lib.hid (p_number 0 30000 hp1 hi1)
      have hi2 := num_in (lo := 0) (hi := 30000) hi1
      have hi3 := acc_in (x := wDash) hi2
      have HD := Lib.hid (fun w' (h : Pw W0 g ts (numS ts 0 30000 s1) w') => p_accept ⟨#[45]⟩ h hi2)
      have hgb : g < wr.heap.size := Nat.lt_of_lt_of_le hgl hp1.size
      have hrl : w.heap.size < wr.heap.size := by omega
      unfold spansS at hf
      dsimp only at hf
      have HF := Lib.hid hf
      clear hf
      have hsp := span_pos hi1
      obtain ⟨F, hF⟩ : ∃ F, F = numV ts 0 30000 s1 := ⟨_, rfl⟩
      obtain ⟨sa, hsa⟩ : ∃ sa, sa = numS ts 0 30000 s1 := ⟨_, rfl⟩
      rw [← hF, ← hsa] at HN
      rw [← hsa] at HD hi2 hi3
      cases hb : accB ts wDash sa
      · have HBD : Hid (accB ts ⟨#[45]⟩ sa = false) := hb
        have hSV : Hid (spanV ts s1 = ((F : Int), (F : Int)) ∧ spanS ts s1 = accS ts wDash sa) := by
          unfold spanV spanS
          rw [← hsa, ← hF]
          dsimp only
          rw [hb]
          exact ⟨rfl, rfl⟩
        have HC := Lib.hid (fun w' (h : Pw W0 g ts (accS ts wDash sa) w') => p_accept ⟨#[44]⟩ h hi3)
        clear hF hsa hb
        go_wp2_with (first
          | (go_at_call 154; (with_reducible refine HN.out.mono ?_); rintro en w5 ⟨rfl, hp5, hg5⟩; have hz5 := hg5.size; have hne5 : w5.heap.size ≠ g := (by omega); have hx6 : (w5.alloc (.cells #[.int .i64 (F : Int), .int .i64 (F : Int)] 158)).heap[w5.heap.size]? = some (.cells #[.int .i64 (F : Int), .int .i64 (F : Int)] 158 (0, 0)) := heap_alloc_new _ _; have hp6 := hp5.below ((Below.refl _ w5).alloc (Nat.le_refl _) (.cells #[.int .i64 (F : Int), .int .i64 (F : Int)] 158)); obtain ⟨x6, -, -⟩ := HCEL.out _ _ hp6; have ho5 := (own_read hown hg5 (fun b hb e => by have := (hown.lt b hb).1; injection e with e; omega)).alloc (.cells #[.int .i64 (F : Int), .int .i64 (F : Int)] 158); have hgA := gb_trans hg5 (gb_of_below ((Below.refl _ w5).alloc (Nat.le_refl _) (.cells #[.int .i64 (F : Int), .int .i64 (F : Int)] 158)) (some g)))
          | (go_at_call 149; (with_reducible refine (HD.out _ hp6).mono ?_); rintro en w7 ⟨rfl, hp7, hg7⟩; rw [HBD.out]; replace hp7 : Pw W0 g ts (accS ts wDash sa) w7 := hp7; obtain ⟨x7, -, -⟩ := HCEL.out _ _ hp7; have hx7 := (hg7.block w5.heap.size (by simp) (fun e => hne5 (Option.some.inj e))).trans hx6; obtain ⟨c70, c71, f70, f71⟩ := cellc hx7; have hz7 := hg7.size; simp only [World.size_alloc] at hz7; have ho7 := own_read ho5 hg7 (fun b hb e => by have := (ho5.lt b hb).1; injection e with e; omega); have hgB := gb_trans hgA hg7; clear x6 hx6 hgA ho5 hp6)
          | (at_builtin; refine Dy.wpList_append_ds rfl (.tmp 56) (.tmp 58) 42 158 rfl Tryz.underlying42 (w.heap.size + 1) i0 hi0 hz0 hz1 hz2 _ _ rfl (ho7.alloc (.cells #[.int .i64 (F : Int), .int .i64 (F : Int)] 158)) _ 1 1 [((F : Int), (F : Int))] rfl (Dy.Ds.one _ _ _ _ _ (by simp)) (by unfold InT at hi1; omega) (by simp; omega) ?_; intro v12 w12 ho12 hgr12; have hb12 := ((Below.refl (w.heap.size + 1) w7).alloc (by omega) (.cells #[.int .i64 (F : Int), .int .i64 (F : Int)] 158)).grown hgr12 (by simp; omega) (fun b hb => (ho7.lt b hb).1); have hp12 := hp7.after (hb12.mono (by omega)); obtain ⟨x12, -, -⟩ := HCEL.out _ _ hp12)
          | (go_at_call 149; (with_reducible refine (HC.out _ hp12).mono ?_); rintro en w13 ⟨rfl, hp13, hg13⟩))
        have hrr7 : w7.heap[w.heap.size]? = some (.cells #[.slice none 0 0] 44 (0, 0)) := (hgB.block _ hrl (fun e => hgr (Option.some.inj e))).trans hrr
        have hz12 := hb12.size
        have hzE : wr.heap.size ≤ w13.heap.size := Nat.le_trans (Nat.le_trans hgB.size hz12) hg13.size
        obtain ⟨hsv, hss⟩ := hSV.out
        have hF := HF.out
        rw [hsv, hss] at hF
        rw [hss] at hsp
        have hgC : w.grownBy w13 (some g) := gb_trans (gb_bel (gb_trans hgw hgB) hb12 (Nat.le_succ _)) hg13
        have hl12 : (l ++ [((F : Int), (F : Int))]).length = l.length + 1 := by simp
        refine ⟨⟨⟨l ++ [((F : Int), (F : Int))], _, own_read ho12 hg13 (fun b hb e => by have := (ho12.lt b hb).1; injection e with e; omega), ?_, hp13, acc_in hsp.2, ?_⟩, hgC, ?_, ?_⟩, ?_⟩
        · have := acc_pos (x := wComma) hsp.2
          rw [hl12]; show l.length + 1 ≤ (accS ts wComma (accS ts wDash sa)).pos + 1; omega
        · cases hc : accB ts wComma (accS ts wDash sa)
          · rw [hc] at hF
            exact .inr ⟨congrArg Value.bool hc, hF⟩
          · rw [hc] at hF
            have hq := acc_yes hc
            exact .inl ⟨congrArg Value.bool hc, by rw [hl12]; show l.length + 1 ≤ (accS ts wComma (accS ts wDash sa)).pos; omega, f, hF, by show ts.length + 2 ≤ f + (accS ts wComma (accS ts wDash sa)).pos; omega⟩
        · exact Nat.le_trans hsz hzE
        · exact ((hg13.block _ (by omega) (fun e => hgr (Option.some.inj e))).trans ((hb12.block _ (Nat.lt_succ_self _)).trans hrr7))
        · rw [Pw.pos hp1, Pw.pos hp13]
          unfold InT at hi1
          cases hc : accB ts wComma (accS ts wDash sa)
          · rw [show accB ts ⟨#[44]⟩ (accS ts wDash sa) = false from hc]
            show 0 < 1 + ts.length - s1.pos
            omega
          · have hq := acc_yes hc
            rw [show accB ts ⟨#[44]⟩ (accS ts wDash sa) = true from hc]
            show 1 + ts.length - (accS ts wComma (accS ts wDash sa)).pos < 1 + ts.length - s1.pos
            omega
      · have HBD : Hid (accB ts ⟨#[45]⟩ sa = true) := hb
        have HPK := Lib.hid (fun w' (h : Pw W0 g ts (accS ts wDash sa) w') => p_peek h hi3)
        have HT : aggP (pk ts (accS ts wDash sa)) = .agg #[.int .u8 (pk ts (accS ts wDash sa)).kind, .string ⟨(pk ts (accS ts wDash sa)).text.toArray⟩, .int .i64 (pk ts (accS ts wDash sa)).n, .int .i64 (pk ts (accS ts wDash sa)).pos] := rfl
        by_cases hk : (pk ts (accS ts wDash sa)).kind = 2
        · have hSV : Hid (spanV ts s1 = ((F : Int), (numV ts F 30000 (accS ts wDash sa) : Int)) ∧ spanS ts s1 = numS ts F 30000 (accS ts wDash sa)) := by
            unfold spanV spanS
            rw [← hsa, ← hF]
            dsimp only
            rw [hb]
            dsimp only
            rw [if_pos hk, if_pos hk]
            exact ⟨rfl, rfl⟩
          have hi4 := num_in (lo := F) (hi := 30000) hi3
          have HC := Lib.hid (fun w' (h : Pw W0 g ts (numS ts F 30000 (accS ts wDash sa)) w') => p_accept ⟨#[44]⟩ h hi4)
          have HN2 := Lib.hid (fun w' (h : Pw W0 g ts (accS ts wDash sa) w') => p_number F 30000 h hi3)
          rw [hk] at HT
          generalize (((pk ts (accS ts wDash sa)).n : Nat) : Int) = nn at HT
          generalize (((pk ts (accS ts wDash sa)).pos : Nat) : Int) = ps at HT
          generalize (⟨(pk ts (accS ts wDash sa)).text.toArray⟩ : ByteArray) = xx at HT
          rw [HT] at HPK
          have hfd : ∀ v : World, (Instr.field 139 (.agg #[.int .u8 2, .string xx, .int .i64 nn, .int .i64 ps]) 0).run Tryz.prog v = .ok (.int .u8 2) v := fun _ => by kernel_rfl
          clear hF hsa hb hk HT
          generalize numV ts F 30000 (accS ts wDash sa) = G at *
          go_upto_region 14 with (first
            | (go_at_call 154; (with_reducible refine HN.out.mono ?_); rintro en w5 ⟨rfl, hp5, hg5⟩; have hz5 := hg5.size; have hne5 : w5.heap.size ≠ g := (by omega); have hx6 : (w5.alloc (.cells #[.int .i64 (F : Int), .int .i64 (F : Int)] 158)).heap[w5.heap.size]? = some (.cells #[.int .i64 (F : Int), .int .i64 (F : Int)] 158 (0, 0)) := heap_alloc_new _ _; have hp6 := hp5.below ((Below.refl _ w5).alloc (Nat.le_refl _) (.cells #[.int .i64 (F : Int), .int .i64 (F : Int)] 158)); obtain ⟨x6, -, -⟩ := HCEL.out _ _ hp6; have ho5 := (own_read hown hg5 (fun b hb e => by have := (hown.lt b hb).1; injection e with e; omega)).alloc (.cells #[.int .i64 (F : Int), .int .i64 (F : Int)] 158); have hgA := gb_trans hg5 (gb_of_below ((Below.refl _ w5).alloc (Nat.le_refl _) (.cells #[.int .i64 (F : Int), .int .i64 (F : Int)] 158)) (some g)))
            | (go_at_call 149; (with_reducible refine (HD.out _ hp6).mono ?_); rintro en w7 ⟨rfl, hp7, hg7⟩; rw [HBD.out]; replace hp7 : Pw W0 g ts (accS ts wDash sa) w7 := hp7; obtain ⟨x7, -, -⟩ := HCEL.out _ _ hp7; have hx7 := (hg7.block w5.heap.size (by simp) (fun e => hne5 (Option.some.inj e))).trans hx6; obtain ⟨c70, c71, f70, f71⟩ := cellc hx7; have hz7 := hg7.size; simp only [World.size_alloc] at hz7; have ho7 := own_read ho5 hg7 (fun b hb e => by have := (ho5.lt b hb).1; injection e with e; omega); have hgB := gb_trans hgA hg7; clear x6 hx6 hgA ho5 hp6)
            | (go_at_call 66; (with_reducible refine (HPK.out _ (hp7.after ((Below.refl _ w7).setCell (p := ⟨w5.heap.size, 1, none⟩) (show W0.heap.size ≤ w5.heap.size by omega) (.int .i64 30000)))).mono ?_); rintro en w9 ⟨rfl, hb9⟩; have hp9 := (hp7.after ((Below.refl _ w7).setCell (p := ⟨w5.heap.size, 1, none⟩) (show W0.heap.size ≤ w5.heap.size by omega) (.int .i64 30000))).below hb9; obtain ⟨x9, -, -⟩ := HCEL.out _ _ hp9; have hx8 : (w7.setCell ⟨w5.heap.size, 1, none⟩ (.int .i64 30000)).heap[w5.heap.size]? = some (.cells #[.int .i64 (F : Int), .int .i64 30000] 158 (0, 0)) := heap_setCell_same _ _ 1 _ _ _ hx7; have hx9 := (hb9.block w5.heap.size (by rw [World.size_setCell]; omega)).trans hx8; obtain ⟨c90, c91, f90, f91⟩ := cellc hx9; have hz9 := hb9.size; rw [World.size_setCell] at hz9; have ho9 := owns_below (own_read ho7 (gb_set w7 1 (.int .i64 30000)) (fun b hb e => by have := (hown.lt b hb).2; injection e with e; omega)) (Nat.le_refl _) hb9; have hgB9 := gb_trans (gb_set_new (i := 1) (v := .int .i64 30000) hgB hz5) (gb_of_below hb9 _)))
          refine wp_region_noPanic ?_
          refine region_ord (S := fun w' => w'.cell? ⟨P, 0, none⟩ = some (.pointer (some ⟨g, 0, none⟩)) ∧ w'.cell? ⟨w5.heap.size, 0, none⟩ = some (.int .i64 F)) [0, 4, 5, 1, 2, 3, 6, 7, 8] (by kernel_rfl) (by decide +kernel) (fun _ _ _ _ _ h => h) (⟨x9, c90⟩) (fun _ => ?_)
          repeat (first
            | (refine ord_skip rfl rfl rfl ?_; (try simp only [Act.put, List.setIfInBounds_toArray, List.set_cons_zero, List.set_cons_succ]))
            | (refine' ord_light (v := _) rfl rfl rfl (fun w' hSw => ?_) ?_; rotate_left; (focus ((try dsimp only at hSw); go_simp <;> (with_reducible rfl))); (try simp only [Act.put, List.setIfInBounds_toArray, List.set_cons_zero, List.set_cons_succ]))
            | (refine ord_heavy rfl rfl (fun K hK => ?_); go_simp; (go_at_call 154; (with_reducible refine (HN2.out _ (hp9.below (Below.refl _ w9).drew)).mono ?_); rintro en w10 ⟨rfl, hp10, hg10⟩; obtain ⟨x10, -, -⟩ := HCEL.out _ _ hp10; have ho9d : World.ownsRow w9.drew (w.heap.size + 1) 158 2 u3 l.length (Dy.flatS l) := ho9; have hx10 := (hg10.block w5.heap.size (show w5.heap.size < w9.heap.size by omega) (fun e => hne5 (Option.some.inj e))).trans hx9; obtain ⟨c100, c101, f100, f101⟩ := cellc hx10; have hz10 : w9.heap.size ≤ w10.heap.size := hg10.size; have hp11 := hp10.after ((Below.refl _ w10).setCell (p := ⟨w5.heap.size, 1, none⟩) (show W0.heap.size ≤ w5.heap.size by omega) (.int .i64 G)); obtain ⟨x11, -, -⟩ := HCEL.out _ _ hp11; have hx11 : (w10.setCell ⟨w5.heap.size, 1, none⟩ (.int .i64 G)).heap[w5.heap.size]? = some (.cells #[.int .i64 (F : Int), .int .i64 (G : Int)] 158 (0, 0)) := heap_setCell_same _ _ 1 _ _ _ hx10; obtain ⟨c110, c111, -, -⟩ := cellc hx11; have ho10 := own_read ho9d hg10 (fun b hb e => by have := (hown.lt b hb).1; injection e with e; omega); have ho11 := own_read ho10 (gb_set (g := w5.heap.size) w10 1 (.int .i64 (G : Int))) (fun b hb e => by have := (hown.lt b hb).2; injection e with e; omega); have hgB11 := gb_set_new (i := 1) (v := .int .i64 (G : Int)) (gb_trans hgB9 (gb_trans (gb_of_below (Below.refl _ w9).drew _) hg10)) hz5); (try go_wp2_with fail); refine hK.out _ _ (by first | exact ⟨x9, c90⟩ | exact ⟨x10, c100⟩ | exact ⟨x11, c110⟩) ?_; clear hK K; (try simp only [Act.put, List.setIfInBounds_toArray, List.set_cons_zero, List.set_cons_succ]))
            | (refine ord_heavy rfl rfl (fun K hK => ?_); go_simp; (try go_wp2_with fail); refine hK.out _ _ (by first | exact ⟨x9, c90⟩ | exact ⟨x10, c100⟩ | exact ⟨x11, c110⟩) ?_; clear hK K; (try simp only [Act.put, List.setIfInBounds_toArray, List.set_cons_zero, List.set_cons_succ])))
          refine ord_nil (NoPanic.normal ?_)
          all_goals (go_wp2_with (first
            | (at_builtin; refine Dy.wpList_append_ds rfl (.tmp 56) (.tmp 58) 42 158 rfl Tryz.underlying42 (w.heap.size + 1) i0 hi0 hz0 hz1 hz2 _ _ rfl (ho11.alloc (.cells #[.int .i64 (F : Int), .int .i64 (G : Int)] 158)) _ 1 1 [((F : Int), (G : Int))] rfl (Dy.Ds.one _ _ _ _ _ (by simp)) (by unfold InT at hi1; omega) (by simp; omega) ?_; intro v12 w12 ho12 hgr12; have hb12 := ((Below.refl (w.heap.size + 1) (w10.setCell ⟨w5.heap.size, 1, none⟩ (.int .i64 (G : Int)))).alloc (by rw [World.size_setCell]; omega) (.cells #[.int .i64 (F : Int), .int .i64 (G : Int)] 158)).grown hgr12 (by simp; omega) (fun b hb => (ho11.lt b hb).1); have hp12 := hp11.after (hb12.mono (by omega)); obtain ⟨x12, -, -⟩ := HCEL.out _ _ hp12)
            | (go_at_call 149; (with_reducible refine (HC.out _ hp12).mono ?_); rintro en w13 ⟨rfl, hp13, hg13⟩)))
          all_goals (have hrr7 : (w10.setCell ⟨w5.heap.size, 1, none⟩ (.int .i64 (G : Int))).heap[w.heap.size]? = some (.cells #[.slice none 0 0] 44 (0, 0)) := (hgB11.block _ hrl (fun e => hgr (Option.some.inj e))).trans hrr)
          all_goals (have hz12 : w10.heap.size ≤ w12.heap.size := (by have := hb12.size; rwa [World.size_setCell] at this))
          all_goals (have hzE : wr.heap.size ≤ w13.heap.size := (by have h1 := hgB11.size; rw [World.size_setCell] at h1; have h2 := hg13.size; omega))
          all_goals
            obtain ⟨hsv, hss⟩ := hSV.out
            have hF := HF.out
            rw [hsv, hss] at hF
            rw [hss] at hsp
            have hgC : w.grownBy w13 (some g) := gb_trans (gb_bel (gb_trans hgw hgB11) hb12 (Nat.le_succ _)) hg13
            have hl12 : (l ++ [((F : Int), (G : Int))]).length = l.length + 1 := by simp
            refine ⟨⟨⟨l ++ [((F : Int), (G : Int))], _, own_read ho12 hg13 (fun b hb e => by have := (ho12.lt b hb).1; injection e with e; omega), ?_, hp13, acc_in hsp.2, ?_⟩, hgC, ?_, ?_⟩, ?_⟩
            · have := acc_pos (x := wComma) hsp.2
              rw [hl12]; show l.length + 1 ≤ (accS ts wComma (numS ts F 30000 (accS ts wDash sa))).pos + 1; omega
            · cases hc : accB ts wComma (numS ts F 30000 (accS ts wDash sa))
              · rw [hc] at hF
                exact .inr ⟨congrArg Value.bool hc, hF⟩
              · rw [hc] at hF
                have hq := acc_yes hc
                exact .inl ⟨congrArg Value.bool hc, by rw [hl12]; show l.length + 1 ≤ (accS ts wComma (numS ts F 30000 (accS ts wDash sa))).pos; omega, f, hF, by show ts.length + 2 ≤ f + (accS ts wComma (numS ts F 30000 (accS ts wDash sa))).pos; omega⟩
            · exact Nat.le_trans hsz hzE
            · exact ((hg13.block _ (by omega) (fun e => hgr (Option.some.inj e))).trans ((hb12.block _ (Nat.lt_succ_self _)).trans hrr7))
            · rw [Pw.pos hp1, Pw.pos hp13]
              unfold InT at hi1
              cases hc : accB ts wComma (numS ts F 30000 (accS ts wDash sa))
              · rw [show accB ts ⟨#[44]⟩ (numS ts F 30000 (accS ts wDash sa)) = false from hc]
                show 0 < 1 + ts.length - s1.pos
                omega
              · have hq := acc_yes hc
                rw [show accB ts ⟨#[44]⟩ (numS ts F 30000 (accS ts wDash sa)) = true from hc]
                show 1 + ts.length - (accS ts wComma (numS ts F 30000 (accS ts wDash sa))).pos < 1 + ts.length - s1.pos
                omega
        · have hSV : Hid (spanV ts s1 = ((F : Int), (30000 : Int)) ∧ spanS ts s1 = accS ts wDash sa) := by
            unfold spanV spanS
            rw [← hsa, ← hF]
            dsimp only
            rw [hb]
            dsimp only
            rw [if_neg hk, if_neg hk]
            exact ⟨rfl, rfl⟩
          have HC := Lib.hid (fun w' (h : Pw W0 g ts (accS ts wDash sa) w') => p_accept ⟨#[44]⟩ h hi3)
          have hkd : ¬ (((pk ts (accS ts wDash sa)).kind : Nat) : Int) = 2 := by omega
          generalize (((pk ts (accS ts wDash sa)).kind : Nat) : Int) = kd at HT hkd
          generalize (((pk ts (accS ts wDash sa)).n : Nat) : Int) = nn at HT
          generalize (((pk ts (accS ts wDash sa)).pos : Nat) : Int) = ps at HT
          generalize (⟨(pk ts (accS ts wDash sa)).text.toArray⟩ : ByteArray) = xx at HT
          rw [HT] at HPK
          have hfd : ∀ v : World, (Instr.field 139 (.agg #[.int .u8 kd, .string xx, .int .i64 nn, .int .i64 ps]) 0).run Tryz.prog v = .ok (.int .u8 kd) v := fun _ => by kernel_rfl
          clear hF hsa hb hk HT
          go_wp2_with (first
            | (go_at_call 154; (with_reducible refine HN.out.mono ?_); rintro en w5 ⟨rfl, hp5, hg5⟩; have hz5 := hg5.size; have hne5 : w5.heap.size ≠ g := (by omega); have hx6 : (w5.alloc (.cells #[.int .i64 (F : Int), .int .i64 (F : Int)] 158)).heap[w5.heap.size]? = some (.cells #[.int .i64 (F : Int), .int .i64 (F : Int)] 158 (0, 0)) := heap_alloc_new _ _; have hp6 := hp5.below ((Below.refl _ w5).alloc (Nat.le_refl _) (.cells #[.int .i64 (F : Int), .int .i64 (F : Int)] 158)); obtain ⟨x6, -, -⟩ := HCEL.out _ _ hp6; have ho5 := (own_read hown hg5 (fun b hb e => by have := (hown.lt b hb).1; injection e with e; omega)).alloc (.cells #[.int .i64 (F : Int), .int .i64 (F : Int)] 158); have hgA := gb_trans hg5 (gb_of_below ((Below.refl _ w5).alloc (Nat.le_refl _) (.cells #[.int .i64 (F : Int), .int .i64 (F : Int)] 158)) (some g)))
            | (go_at_call 149; (with_reducible refine (HD.out _ hp6).mono ?_); rintro en w7 ⟨rfl, hp7, hg7⟩; rw [HBD.out]; replace hp7 : Pw W0 g ts (accS ts wDash sa) w7 := hp7; obtain ⟨x7, -, -⟩ := HCEL.out _ _ hp7; have hx7 := (hg7.block w5.heap.size (by simp) (fun e => hne5 (Option.some.inj e))).trans hx6; obtain ⟨c70, c71, f70, f71⟩ := cellc hx7; have hz7 := hg7.size; simp only [World.size_alloc] at hz7; have ho7 := own_read ho5 hg7 (fun b hb e => by have := (ho5.lt b hb).1; injection e with e; omega); have hgB := gb_trans hgA hg7; clear x6 hx6 hgA ho5 hp6)
            | (go_at_call 66; (with_reducible refine (HPK.out _ (hp7.after ((Below.refl _ w7).setCell (p := ⟨w5.heap.size, 1, none⟩) (show W0.heap.size ≤ w5.heap.size by omega) (.int .i64 30000)))).mono ?_); rintro en w9 ⟨rfl, hb9⟩; have hp9 := (hp7.after ((Below.refl _ w7).setCell (p := ⟨w5.heap.size, 1, none⟩) (show W0.heap.size ≤ w5.heap.size by omega) (.int .i64 30000))).below hb9; obtain ⟨x9, -, -⟩ := HCEL.out _ _ hp9; have hx8 : (w7.setCell ⟨w5.heap.size, 1, none⟩ (.int .i64 30000)).heap[w5.heap.size]? = some (.cells #[.int .i64 (F : Int), .int .i64 30000] 158 (0, 0)) := heap_setCell_same _ _ 1 _ _ _ hx7; have hx9 := (hb9.block w5.heap.size (by rw [World.size_setCell]; omega)).trans hx8; obtain ⟨c90, c91, f90, f91⟩ := cellc hx9; have hz9 := hb9.size; rw [World.size_setCell] at hz9; have ho9 := owns_below (own_read ho7 (gb_set w7 1 (.int .i64 30000)) (fun b hb e => by have := (hown.lt b hb).2; injection e with e; omega)) (Nat.le_refl _) hb9; have hgB9 := gb_trans (gb_set_new (i := 1) (v := .int .i64 30000) hgB hz5) (gb_of_below hb9 _))
            | (at_builtin; refine Dy.wpList_append_ds rfl (.tmp 56) (.tmp 58) 42 158 rfl Tryz.underlying42 (w.heap.size + 1) i0 hi0 hz0 hz1 hz2 _ _ rfl (ho9.alloc (.cells #[.int .i64 (F : Int), .int .i64 30000] 158)) _ 1 1 [((F : Int), 30000)] rfl (Dy.Ds.one _ _ _ _ _ (by simp)) (by unfold InT at hi1; omega) (by simp; omega) ?_; intro v12 w12 ho12 hgr12; have hb12 := ((Below.refl (w.heap.size + 1) w9).alloc (by omega) (.cells #[.int .i64 (F : Int), .int .i64 30000] 158)).grown hgr12 (by simp; omega) (fun b hb => (ho9.lt b hb).1); have hp12 := hp9.after (hb12.mono (by omega)); obtain ⟨x12, -, -⟩ := HCEL.out _ _ hp12)
            | (go_at_call 149; (with_reducible refine (HC.out _ hp12).mono ?_); rintro en w13 ⟨rfl, hp13, hg13⟩))
          have hrr7 : w9.heap[w.heap.size]? = some (.cells #[.slice none 0 0] 44 (0, 0)) := (hgB9.block _ hrl (fun e => hgr (Option.some.inj e))).trans hrr
          have hz12 := hb12.size
          have hzE : wr.heap.size ≤ w13.heap.size := Nat.le_trans (Nat.le_trans hgB9.size hz12) hg13.size
          obtain ⟨hsv, hss⟩ := hSV.out
          have hF := HF.out
          rw [hsv, hss] at hF
          rw [hss] at hsp
          have hgC : w.grownBy w13 (some g) := gb_trans (gb_bel (gb_trans hgw hgB9) hb12 (Nat.le_succ _)) hg13
          have hl12 : (l ++ [((F : Int), (30000 : Int))]).length = l.length + 1 := by simp
          refine ⟨⟨⟨l ++ [((F : Int), (30000 : Int))], _, own_read ho12 hg13 (fun b hb e => by have := (ho12.lt b hb).1; injection e with e; omega), ?_, hp13, acc_in hsp.2, ?_⟩, hgC, ?_, ?_⟩, ?_⟩
          · have := acc_pos (x := wComma) hsp.2
            rw [hl12]; show l.length + 1 ≤ (accS ts wComma (accS ts wDash sa)).pos + 1; omega
          · cases hc : accB ts wComma (accS ts wDash sa)
            · rw [hc] at hF
              exact .inr ⟨congrArg Value.bool hc, hF⟩
            · rw [hc] at hF
              have hq := acc_yes hc
              exact .inl ⟨congrArg Value.bool hc, by rw [hl12]; show l.length + 1 ≤ (accS ts wComma (accS ts wDash sa)).pos; omega, f, hF, by show ts.length + 2 ≤ f + (accS ts wComma (accS ts wDash sa)).pos; omega⟩
          · exact Nat.le_trans hsz hzE
          · exact ((hg13.block _ (by omega) (fun e => hgr (Option.some.inj e))).trans ((hb12.block _ (Nat.lt_succ_self _)).trans hrr7))
          · rw [Pw.pos hp1, Pw.pos hp13]
            unfold InT at hi1
            cases hc : accB ts wComma (accS ts wDash sa)
            · rw [show accB ts ⟨#[44]⟩ (accS ts wDash sa) = false from hc]
              show 0 < 1 + ts.length - s1.pos
              omega
            · have hq := acc_yes hc
              rw [show accB ts ⟨#[44]⟩ (accS ts wDash sa) = true from hc]
              show 1 + ts.length - (accS ts wComma (accS ts wDash sa)).pos < 1 + ts.length - s1.pos
              omega
    · obtain ⟨a3, n3, c3, rfl, hn3, hd3⟩ := hown.dn
      have hpl : s1.pos ≤ ts.length := hi1
      have HO := Lib.hid (Dy.of_any a3 n3 c3 l wr hd3 (by omega))
      have hrl : w.heap.size < wr.heap.size := by omega
      subst hf
      clear hown hd3 hn3
      go_wp2_with (go_at_call 129; (with_reducible refine HO.out.mono ?_); rintro en w5 ⟨a5, n5, c5, r5, rfl, hd5, hc5, hm5, hb5⟩; have hr5 := (hb5.block _ hrl).trans hrr; have hr6 : (w5.alloc (.cells #[.slice a5 n5 c5] 44)).heap[w.heap.size]? = some (.cells #[.slice none 0 0] 44 (0, 0)) := (Below.heap_alloc _ _ _ (show w.heap.size < w5.heap.size by have := hb5.size; omega)).trans hr5; obtain ⟨k0, f0⟩ := cell1 hr6; have HD5 := Lib.hid hd5; have HC5 := Lib.hid hc5; have HM5 := Lib.hid hm5; clear hd5 hc5 hm5)
      have cs := World.cell?_setCell_same (w5.alloc (.cells #[.slice a5 n5 c5] 44)) ⟨w.heap.size, 0, none⟩ (.slice a5 n5 c5) k0
      have hof := ofL_eq HC5.out HM5.out
      refine bodyPost_ret (v := .agg #[.slice a5 n5 c5]) (by simp [results, Tryz.results153, go_sem, cs]) rfl ?_
      refine ⟨a5, n5, c5, rfl, ?_, ?_, ?_, hi1, ?_⟩
      · rw [hof]; exact ((HD5.out.below ((Below.refl _ w5).alloc (Nat.le_refl _) _)).set k0 (by intro x e; cases e)).mono hp1.size
      · rw [hof]; exact HC5.out
      · exact hp1.after (((hb5.mono hp1.size).alloc (Nat.le_trans hp1.size hb5.size) _).setCell (p := ⟨w.heap.size, 0, none⟩) hNS _)
      · exact gb_set_new (gb_trans (gb_trans hgw (gb_of_below hb5 _)) (gb_of_below ((Below.refl _ w5).alloc (Nat.le_refl _) _) _)) (Nat.le_refl _)
theorem when_any {W0 w : World} {g P t : Nat} {ns : List ByteArray} {a : Option Addr} {n cap : Nat} {adm : List Nat} {ts : List Tok} {s : RS} (hB : Base W0 g P t ns a n cap adm) (hw : Pw W0 g ts s w) (hi : InT ts s) (hts : ts.length ≤ 90000) :
    Calls Tryz.prog 153 #[.pointer (some ⟨P, 0, none⟩)] w (WhP W0 w g ts (whenS ts s)) := by
  unfold whenS
  cases ha : accB ts wAll s
  · cases hb : accB ts wNone s
    · exact when_go hB hw hi ha hb hts
    · exact when_none hB hw hi ha hb
  · exact when_all hB hw hi ha
end Go.Proofs.YtfjpbkmnlmecgaaGreatDoor.Ru
