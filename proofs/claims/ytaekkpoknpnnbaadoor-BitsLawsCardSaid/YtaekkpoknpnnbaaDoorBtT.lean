/- Contract: Read. -/
import Derived.Test.YtaekkpoknpnnbaaDoorBtS
namespace Go.Proofs.YtaekkpoknpnnbaaDoor
open Go.RowKit Go.PlainAid
set_option linter.unusedVariables false
set_option linter.unusedSimpArgs false
set_option maxHeartbeats 2000000

/-- The slice (a, n, cap) holds the bytes ps. -/
def Bw (w : World) (a : Option Addr) (n cap : Nat) (ps : List Nat) : Prop :=
  ps.length = n ∧ n ≤ cap ∧ cap ≤ 9223372036854775807 ∧ (∀ x ∈ ps, x < 256) ∧ (n = 0 ∨ ∃ b o, a = some ⟨b, o, none⟩ ∧ b < w.heap.size ∧ ∀ j, j < n → w.cell? ⟨b, o + j, none⟩ = some (.int .u8 (wd ps j : Nat)))
def readOK (ps : List Nat) : Prop := ps.length ≤ 512 ∧ (0 < ps.length → wd ps (ps.length - 1) ≠ 0)
def ReadPost (ps : List Nat) (w : World) (e : Ending) (w' : World) : Prop :=
  ((readOK ps ∧ ∃ a n cap, e = .returned (.tuple #[.agg #[.slice a n cap], .int .i64 0]) ∧ Bs w' a n cap (readL ps)) ∨
    (¬ readOK ps ∧ e = .returned (.tuple #[.agg #[.slice none 0 0], .int .i64 6]))) ∧ Below w.heap.size w w'

set_option maxRecDepth 20000 in
theorem read_any (a : Option Addr) (n cap : Nat) (ps : List Nat) (w : World) (h : Bw w a n cap ps) (hn : n ≤ 1000000) :
    Calls Tryd.prog 30 #[.slice a n cap] w (ReadPost ps w) := by
  obtain ⟨i0, hi, hz0, hz1, hz2⟩ := info_parts info64
  obtain ⟨h1, h2, h3, h4, h5⟩ := h
  by_cases hn5 : n ≤ 512
  · by_cases hn0 : n = 0
    · have HOK : Hid (readOK ps) := ⟨by rw [h1]; exact hn5, fun h0 => by rw [h1, hn0] at h0; exact absurd h0 (Nat.lt_irrefl 0)⟩
      obtain ⟨q, hq⟩ : ∃ q : Nat, ((n : Int) + 7) / 8 = q := ⟨(n + 7) / 8, by omega⟩
      have HQ : Hid (q = (n + 7) / 8) := by show _ = _; omega
      have hq64 : q ≤ 64 := by omega
      have hbytes : i0.bytes * q ≤ 281474976710656 := by rw [hz2]; omega
      have hqm : q ≤ maxLen := by unfold maxLen; omega
      have H4 := Lib.hid h4
      have H1 := Lib.hid h1
      have HN0 := Lib.hid hn0
      have hle : n ≤ 0 := by omega
      clear h5 h4 h1 hn0
      go_enter Tryd.func30, Tryd.ntmps30
      go_wp2_with (refine wpList_make_full _ rfl (.tmp 28) (.tmp 28) 25 rfl (w.heap.size + 1) 66 i0 (.int .u64 0) 1 Tryd.underlying25 hi hz0 hz1 .i64 .i64 (((n : Int) + 7) / 8) (((n : Int) + 7) / 8) q rfl rfl hq hq hbytes hqm (by simp) ?_)
      all_goals first | (exfalso; omega) | skip
      all_goals
        intro w1 hown hgr
        have hrow := Lib.hid (Row.new hown)
        have hbel := Lib.hid ((Below.refl (w.heap.size + 1) _).grown hgr (by simp) (fun b hb => by cases hb))
        clear hown hgr hi hz0 hz1 hz2 hbytes hqm
        generalize hgE : w.heap.size + 1 = g at hrow ⊢
        have HGE := Lib.hid hgE
        clear hgE
        go_wp2_with fail
        go_loopw [32] (fun v wr => v = .int .i64 0 ∧ Hid (Row wr g g q (List.replicate q 0)) ∧ Hid (Below (w.heap.size + 1) (w.alloc (.cells #[.slice none 0 0] 27)) wr)) (fun v _ => n - (intOf v).toNat)
        case atStart => exact ⟨rfl, hrow.out, hbel.out⟩
        case round =>
          obtain ⟨rfl, HR, HB⟩ := hrel
          have hzr : w.heap.size + 1 ≤ wr.heap.size := by have := HB.out.size; simp at this; omega
          have hBw := Lib.hid (((Below.refl w.heap.size w).alloc (Nat.le_refl _) _).trans (HB.out.mono (by omega)))
          have c0 := (HB.out.cell (p := ⟨w.heap.size, 0, none⟩) (show w.heap.size < w.heap.size + 1 by omega)).trans (new1 w _ _).1
          have f0 := (HB.out.frozen (p := ⟨w.heap.size, 0, none⟩) (show w.heap.size < w.heap.size + 1 by omega)).trans (new1 w _ _).2
          go_wp2_with fail
          all_goals first | (exfalso; omega) | skip
          all_goals
            have cs := World.cell?_setCell_same wr ⟨w.heap.size, 0, none⟩ (.slice (some ⟨g, 0, none⟩) q q) c0
            refine bodyPost_ret (v := .tuple #[.agg #[.slice (some ⟨g, 0, none⟩) q q], .int .i64 0]) (by simp [results, Tryd.results30, go_sem, cs]) rfl ?_
            have hrp : Rp (List.replicate q 0) (readL ps) := read_rp (by rw [H1.out, HN0.out]; exact ReadAt.zero _ _) (fun x hx => by rw [List.mem_replicate] at hx; rw [hx.2]; decide) (by rw [HR.out.len, H1.out]; exact HQ.out) HOK.out.1 (fun h0 => by rw [H1.out, HN0.out] at h0; exact absurd h0 (Nat.lt_irrefl 0)) H4.out
            exact ⟨.inl ⟨HOK.out, _, _, _, rfl, ⟨_, (HR.out.other (show g ≠ w.heap.size by have := HGE.out; omega) _).wd (by omega), hrp⟩⟩, hBw.out.setCell (Nat.le_refl _) _⟩
    · obtain ⟨b, o, rfl, hb, hc⟩ : ∃ b o, a = some ⟨b, o, none⟩ ∧ b < w.heap.size ∧ ∀ j, j < n → w.cell? ⟨b, o + j, none⟩ = some (.int .u8 (wd ps j : Nat)) := by
        rcases h5 with h0 | h5
        · exact absurd h0 hn0
        · exact h5
      have x0 := hc (n - 1) (by omega)
      by_cases hlast : wd ps (n - 1) = 0
      · rw [hlast] at x0
        have HN : Hid (¬ readOK ps) := by
          rintro ⟨_, hh⟩
          exact hh (by rw [h1]; exact Nat.pos_of_ne_zero hn0) (by rw [h1]; exact hlast)
        clear hc h4 h1
        go_enter Tryd.func30, Tryd.ntmps30
        go_wp2_with fail
        all_goals first | (exfalso; omega) | skip
        all_goals
          refine bodyPost_ret (v := .tuple #[.agg #[.slice none 0 0], .int .i64 6]) (by simp [results, Tryd.results30, go_sem]) rfl ?_
          exact ⟨.inr ⟨HN.out, rfl⟩, (Below.refl _ w).alloc (Nat.le_refl _) _⟩
      · have HOK : Hid (readOK ps) := ⟨by rw [h1]; exact hn5, fun _ => by rw [h1]; exact hlast⟩
        have hne : ((wd ps (n - 1) : Nat) : Int) ≠ 0 := by omega
        have hne2 : (((wd ps (n - 1) : Nat) : Int) == 0) = false := beq_eq_false_iff_ne.2 hne
        obtain ⟨q, hq⟩ : ∃ q : Nat, ((n : Int) + 7) / 8 = q := ⟨(n + 7) / 8, by omega⟩
        have HQ : Hid (q = (n + 7) / 8) := by show _ = _; omega
        have hq64 : q ≤ 64 := by omega
        have hbytes : i0.bytes * q ≤ 281474976710656 := by rw [hz2]; omega
        have hqm : q ≤ maxLen := by unfold maxLen; omega
        have H4 := Lib.hid h4
        have H1 := Lib.hid h1
        have HC := Lib.hid hc
        clear hlast h5 h4 h1 hc hne
        generalize wd ps (n - 1) = lastb at x0 hne2
        go_enter Tryd.func30, Tryd.ntmps30
        go_wp2_with (refine wpList_make_full _ rfl (.tmp 28) (.tmp 28) 25 rfl (w.heap.size + 1) 66 i0 (.int .u64 0) 1 Tryd.underlying25 hi hz0 hz1 .i64 .i64 (((n : Int) + 7) / 8) (((n : Int) + 7) / 8) q rfl rfl hq hq hbytes hqm (by simp) ?_)
        all_goals first | (exfalso; omega) | skip
        all_goals
          intro w1 hown hgr
          have hrow := Lib.hid (Row.new hown)
          have hbel := Lib.hid ((Below.refl (w.heap.size + 1) _).grown hgr (by simp) (fun b hb => by cases hb))
          clear hown hgr hi hz0 hz1 hz2 hbytes hqm
          generalize hgE : w.heap.size + 1 = g at hrow ⊢
          have HGE := Lib.hid hgE
          clear hgE
          go_wp2_with fail
          go_loopw [32] (fun v wr => ∃ (k : Nat) (us : List Nat), k ≤ n ∧ v = .int .i64 k ∧ Hid (Row wr g g q us) ∧ Hid (ReadAt ps us k) ∧ Hid (U64 us) ∧ Hid (Below (w.heap.size + 1) (w.alloc (.cells #[.slice none 0 0] 27)) wr)) (fun v _ => n - (intOf v).toNat)
          case atStart => exact ⟨0, List.replicate q 0, Nat.zero_le _, rfl, hrow.out, ReadAt.zero _ _, fun x hx => by rw [List.mem_replicate] at hx; rw [hx.2]; decide, hbel.out⟩
          case round =>
            obtain ⟨k, us, hk, rfl, HR, HA, HU, HB⟩ := hrel
            have hzr : w.heap.size + 1 ≤ wr.heap.size := by have := HB.out.size; simp at this; omega
            have hBw := Lib.hid (((Below.refl w.heap.size w).alloc (Nat.le_refl _) _).trans (HB.out.mono (by omega)))
            have c0 := (HB.out.cell (p := ⟨w.heap.size, 0, none⟩) (show w.heap.size < w.heap.size + 1 by omega)).trans (new1 w _ _).1
            have f0 := (HB.out.frozen (p := ⟨w.heap.size, 0, none⟩) (show w.heap.size < w.heap.size + 1 by omega)).trans (new1 w _ _).2
            by_cases hlt : k < n
            · have hkq : k / 8 < q := by have := HQ.out; omega
              have x1 := (hBw.out.cell (p := ⟨b, o + k, none⟩) hb).trans (HC.out k hlt)
              have x2 := HR.out.cell hkq
              have x3 := HR.out.free (k / 8)
              have hb256 : wd ps k < 256 := by rw [wd_get (by rw [H1.out]; exact hlt)]; exact H4.out _ (List.getElem_mem _)
              have hlt64 := read_lt (k := k) hb256
              have y1 : (k : Int) / 8 < (q : Int) := by omega
              have y2 : (0 : Int) ≤ (k : Int) / 8 := by omega
              have hcast : ((wd ps k : Nat) : Int) * 2 ^ (8 * (k % 8)) = ((wd ps k * 2 ^ (8 * (k % 8)) : Nat) : Int) := by rw [Int.natCast_mul]; simp
              have w1' : IntKind.u64.wrap ((wd ps k : Nat) : Int) = ((wd ps k : Nat) : Int) := by rw [IntKind.wrap_u64]; omega
              have w2' : IntKind.u64.wrap (((wd ps k : Nat) : Int) * 2 ^ (8 * (k % 8))) = ((wd ps k * 2 ^ (8 * (k % 8)) : Nat) : Int) := by rw [hcast, IntKind.wrap_u64]; omega
              have hor : bits .or .u64 ((wd us (k / 8) : Nat) : Int) ((wd ps k * 2 ^ (8 * (k % 8)) : Nat) : Int) = ((wd us (k / 8) ||| wd ps k * 2 ^ (8 * (k % 8)) : Nat) : Int) := u64_or_nat _ _ (wd_lt HU.out _) hlt64
              have HW1 := Lib.hid w1'
              have HW2 := Lib.hid w2'
              have HOR := Lib.hid hor
              have HCA := Lib.hid hcast
              have HB256 := Lib.hid hb256
              have HLT := Lib.hid hlt64
              clear w1' w2' hor hcast hb256 hlt64
              go_wp2_with fail
              go_region
              rw [HW1.out, HW2.out, HOR.out]
              go_wp2_with fail
              go_roundw
              case rel => exact ⟨k + 1, us.set (k / 8) _, by omega, by go_num, (HR.out.set (k / 8) _), HA.out.next (by rw [HR.out.len]; exact hkq) HB256.out, fun x hx => by
                rcases List.mem_or_eq_of_mem_set hx with hx | rfl
                · exact HU.out x hx
                · exact lor_lt (wd_lt HU.out _) HLT.out, (HB.out.setCell (show w.heap.size + 1 ≤ g by rw [HGE.out]; exact Nat.le_refl _) _).drew⟩
              case measure => simp [intOf]; omega
            · have HK := Lib.hid (show k = n by omega)
              go_wp2_with fail
              have cs := World.cell?_setCell_same wr ⟨w.heap.size, 0, none⟩ (.slice (some ⟨g, 0, none⟩) q q) c0
              refine bodyPost_ret (v := .tuple #[.agg #[.slice (some ⟨g, 0, none⟩) q q], .int .i64 0]) (by simp [results, Tryd.results30, go_sem, cs]) rfl ?_
              have hrp : Rp us (readL ps) := read_rp (by rw [H1.out, ← HK.out]; exact HA.out) HU.out (by rw [HR.out.len, H1.out]; exact HQ.out) HOK.out.1 (fun h0 => by
                have := HOK.out.2 h0
                rw [wd_get (by omega)] at this; exact this) H4.out
              exact ⟨.inl ⟨HOK.out, _, _, _, rfl, ⟨us, (HR.out.other (show g ≠ w.heap.size by have := HGE.out; omega) _).wd (by omega), hrp⟩⟩, hBw.out.setCell (Nat.le_refl _) _⟩
  · have HN : Hid (¬ readOK ps) := by rintro ⟨hh, _⟩; omega
    clear h4 h5 h1
    have hbig : (512 : Int) < (n : Int) := by omega
    go_enter Tryd.func30, Tryd.ntmps30
    go_wp2_with fail
    refine bodyPost_ret (v := .tuple #[.agg #[.slice none 0 0], .int .i64 6]) (by simp [results, Tryd.results30, go_sem]) rfl ?_
    exact ⟨.inr ⟨HN.out, rfl⟩, (Below.refl _ w).alloc (Nat.le_refl _) _⟩
end Go.Proofs.YtaekkpoknpnnbaaDoor
