/- Package wire: the writer's numbers, byte strings and strings; the reader's, where they are there. -/
import Derived.Test.YtfdododighjjpaaGreatDoorWiB
import Derived.Laws.IdiomStrings
namespace Go.Proofs.YtfdododighjjpaaGreatDoor.Wi
open Go.RowKit Go.PlainAid
set_option linter.unusedVariables false
set_option linter.unusedSimpArgs false
set_option maxHeartbeats 4000000
set_option maxRecDepth 20000

theorem encN_len3 {v : Nat} (h : v < 2097152) : (encN v).length ≤ 3 := (enc_len v).2.1 h
theorem uintN_any (N g : Nat) (v : Value) (bs : List Nat) (k : Nat) (hk : k < 2097152) (W : World) (h : Wr N g v bs W) (h1 : bs.length ≤ 100000) :
    Calls Tryz.prog 17 #[.pointer (some ⟨g, 0, none⟩), .int .u64 (k : Nat)] W fun e W' => (∃ r, e = .returned r) ∧ ∃ v', Wr N g v' (bs ++ encN k) W' ∧ Kp g v W W' := by
  have hl := encN_len3 hk
  have HG := Lib.hid (groups_any k hk W)
  have HR := Lib.hid (fun W1 b c (hb : Below W.heap.size W W1) (hw : Bw W1 (some ⟨b, 0, none⟩) (encN k).length c (encN k)) => raw_any N g v bs (encN k) (some ⟨b, 0, none⟩) (encN k).length c W1 (h.below hb) hw (fun e => by cases e) (by omega) (by omega))
  clear h hl
  go_enter Tryz.func17, Tryz.ntmps17
  go_wp2_with (first
    | (go_at_call 48; refine HG.out.mono ?_; rintro e w1 ⟨b, c, rfl, hw, hz, hb⟩; have HB := Lib.hid hb; have HW := Lib.hid hw; clear hb hw hz)
    | (go_at_call 47; refine (HR.out _ _ _ HB.out HW.out).mono ?_; rintro e w2 ⟨⟨r, rfl⟩, v', hw, hk⟩; have HW2 := Lib.hid hw; have HK := Lib.hid hk; clear hw hk))
  go_end0
  exact ⟨⟨_, rfl⟩, v', HW2.out, HK.out.pre HB.out⟩
theorem wbytesN_any (N g : Nat) (v : Value) (bs ps : List Nat) (b : Option Addr) (n c : Nat) (W : World) (h : Wr N g v bs W) (hp : Bw W b n c ps) (hc : Nz b n c) (hn : n < 100000) (h1 : bs.length ≤ 90000) (hne : ∀ x, b = some x → x.block ≠ g ∧ some x.block ≠ v.ownBlock) :
    Calls Tryz.prog 46 #[.pointer (some ⟨g, 0, none⟩), .slice b n c] W fun e W' => (∃ r, e = .returned r) ∧ ∃ v', Wr N g v' (bs ++ (encN n ++ ps)) W' ∧ But N g g W W' := by
  have hl := encN_len3 (v := n) (by omega)
  have HU := Lib.hid (uintN_any N g v bs n (by omega) W h (by omega))
  have HR := Lib.hid (fun W1 v1 (hw : Wr N g v1 (bs ++ encN n) W1) (hk : Kp g v W W1) => raw_any N g v1 (bs ++ encN n) ps b n c W1 hw (hp.kp hk hne) hc (by simp; omega) (by omega))
  have H := Lib.hid h
  clear h hp hne hc hl
  go_enter Tryz.func46, Tryz.ntmps46
  go_wp2_with (first
    | (go_at_call 17; refine HU.out.mono ?_; rintro e w1 ⟨⟨r, rfl⟩, v1, hw, hk⟩; have HW := Lib.hid hw; have HK := Lib.hid hk; clear hw hk)
    | (go_at_call 47; refine (HR.out _ _ HW.out HK.out).mono ?_; rintro e w2 ⟨⟨r, rfl⟩, v', hw, hk⟩; have HW2 := Lib.hid hw; have HK2 := Lib.hid hk; clear hw hk))
  go_end0
  exact ⟨⟨_, rfl⟩, v', by have := HW2.out; rwa [List.append_assoc] at this, (HK.out.but H.out).tr (HK2.out.but HW.out)⟩
/-- A string's bytes, as numbers. -/
def bytesN (s : ByteArray) : List Nat := s.data.toList.map UInt8.toNat
theorem bytesN_len (s : ByteArray) : (bytesN s).length = s.size := by simp [bytesN]
theorem bytesN_lt (s : ByteArray) : ∀ x ∈ bytesN s, x < 256 := by
  intro x hx
  obtain ⟨b, _, rfl⟩ := List.mem_map.1 hx
  exact UInt8.toNat_lt b
theorem bytesN_bt (s : ByteArray) (j : Nat) (h : j < s.size) : ((wd (bytesN s) j : Nat) : Int) = bt s j := by
  have h' : j < s.data.size := h
  rw [wd_get (by rw [bytesN_len]; exact h), ← get_bt s j h]
  simp [bytesN]
  rfl
theorem bw_conv {W : World} {s : ByteArray} {cp : Nat} {C : Array Value} {mk : Nat × Nat} (hcp : s.size ≤ cp) (hm : cp ≤ 9223372036854775807)
    (hC : ∀ j, j < s.size → (W.alloc (.cells C 5 mk)).cell? ⟨W.heap.size, j, none⟩ = some (.int .u8 (bt s j))) : Bw (W.alloc (.cells C 5 mk)) (some ⟨W.heap.size, 0, none⟩) s.size cp (bytesN s) :=
  ⟨bytesN_len s, hcp, hm, bytesN_lt s, .inr ⟨_, 0, rfl, by simp, fun j hj => by rw [Nat.zero_add, hC j hj, bytesN_bt s j hj]⟩⟩
theorem conv_bytes2 (W : World) (s : ByteArray) (hs : s.size < 100000) :
    ∃ cp C mk, (convert 9 51 (.string s)).run Tryz.prog W = .ok (.slice (some ⟨W.heap.size, 0, none⟩) s.size cp) ((W.alloc (.cells C 5 mk)).drew) ∧ Bw (W.alloc (.cells C 5 mk)) (some ⟨W.heap.size, 0, none⟩) s.size cp (bytesN s) := by
  refine ⟨_, _, _, run_bytes_of_string W 9 51 5 s Tryz.underlying9 Tryz.underlying51 Tryz.underlying5, bw_conv (grownCap_ge _ _ _ _) ?_ (fun j hj => ?_)⟩
  · have := grownCap_le_maxLen W s.size 0 5 (by unfold maxLen; omega)
    unfold maxLen at this; omega
  · rw [World.cell?_alloc_mark]
    exact bytesRow_get s _ j hj
theorem wstring_any (N g : Nat) (v : Value) (bs : List Nat) (s : ByteArray) (W : World) (h : Wr N g v bs W) (hn : s.size < 100000) (h1 : bs.length ≤ 90000) :
    Calls Tryz.prog 16 #[.pointer (some ⟨g, 0, none⟩), .string s] W fun e W' => (∃ r, e = .returned r) ∧ ∃ v', Wr N g v' (bs ++ (encN s.size ++ bytesN s)) W' ∧ But N g g W W' := by
  obtain ⟨cp, C, mk, hcv, hbw⟩ := conv_bytes2 W s hn
  have hb0 : Below W.heap.size W ((W.alloc (.cells C 5 mk)).drew) := ((Below.refl _ _).alloc (Nat.le_refl _) _).drew
  have hlt : ∀ x, some x = v.ownBlock → x < W.heap.size := fun x e => (h.2.1.lt x e.symm).2
  have HB := Lib.hid (wbytesN_any N g v bs (bytesN s) (some ⟨W.heap.size, 0, none⟩) s.size cp ((W.alloc (.cells C 5 mk)).drew) (h.below hb0) (hbw.below ((Below.refl _ _).drew)) (fun e => by cases e) hn h1 (fun x e => by
    cases e
    exact ⟨by have := h.2.2.1; have := h.2.2.2; dsimp only; omega, fun e2 => absurd (hlt _ e2) (by dsimp only; omega)⟩))
  have HB0 := Lib.hid hb0
  have HN := h.2.2.2
  clear h hbw hb0 hlt
  go_enter Tryz.func16, Tryz.ntmps16
  go_wp2_with (go_at_call 46; refine HB.out.mono ?_; rintro e w1 ⟨⟨r, rfl⟩, v1, hw, hk⟩; have HW := Lib.hid hw; have HK := Lib.hid hk; clear hw hk)
  go_end0
  exact ⟨⟨_, rfl⟩, v1, HW.out, (But.of (HB0.out.mono HN)).tr HK.out⟩
/-! The reader. -/
theorem foldl_snoc_take (ps : List Nat) (k b : Nat) (h : ps[k]? = some b) : (ps.take (k + 1)).foldl decF 0 = decF ((ps.take k).foldl decF 0) b := by
  have hk := (List.getElem?_eq_some_iff.1 h)
  obtain ⟨hlt, he⟩ := hk
  rw [List.take_add_one, h, List.foldl_append]; rfl
theorem fold_le (v k : Nat) : ((encN v).take k).foldl decF 0 ≤ v := by
  have h := foldl_ge ((encN v).drop k) (((encN v).take k).foldl decF 0)
  rw [← List.foldl_append, List.take_append_drop, enc_val] at h
  exact h
theorem numberN_any (g : Nat) (a : Option Addr) (n c v : Nat) (ps r : List Nat) (e : Int) (W : World) (h : Rd W g a n c ps e) (hn : n ≤ 100000) (hps : ps = encN v ++ r) (hv : v < 2097152) :
    Calls Tryz.prog 54 #[.pointer (some ⟨g, 0, none⟩)] W fun x W' => x = .returned (.tuple #[.int .u64 (v : Nat), .int .i64 ((encN v).length : Nat)]) ∧ Below W.heap.size W W' := by
  have q0 := h.1.at.1
  have q1 := h.1.at.2.1
  have HP := Lib.hid h.2.1
  have hcap := h.2.1.2.1
  have hcap2 := h.2.1.2.2.1
  have hln : (encN v).length ≤ n := by have := h.2.1.1; rw [hps, List.length_append] at this; omega
  have HG : Hid (∀ k, k < (encN v).length → ps[k]? = (encN v)[k]?) := fun k hk => by rw [hps, List.getElem?_append_left hk]
  have hl1 := (enc_len v).1
  have hl3 := encN_len3 hv
  obtain ⟨L, hL⟩ : ∃ L, (encN v).length = L := ⟨_, rfl⟩
  rw [hL] at hln hl1 hl3 HG ⊢
  have HL := Lib.hid hL
  have HV := Lib.hid hv
  clear h hps hL hv
  go_enter Tryz.func54, Tryz.ntmps54
  go_wp2_with fail
  go_loopw [4, 12] (fun u i wr => ∃ k x : Nat, k < L ∧ i = .int .i64 k ∧ u = .int .u64 (x : Nat) ∧ Hid (x = ((encN v).take k).foldl decF 0) ∧ Below W.heap.size W wr) (fun _ v _ => n - (intOf v).toNat)
  case atStart => exact ⟨0, 0, by omega, rfl, rfl, rfl, Below.refl _ _⟩
  case round =>
    obtain ⟨k, x, hk, rfl, rfl, HX, hB⟩ := hrel
    obtain ⟨bb, oo, rfl, hbl, hc, hb256, hat⟩ := (HP.out.below hB).at0 (k := k) (by omega)
    obtain ⟨b, eb⟩ : ∃ b, wd ps k = b := ⟨_, rfl⟩
    rw [eb] at hc hb256 hat
    have hat2 : (encN v)[k]? = some b := by rw [← HG.out k hk]; exact hat
    obtain ⟨ha1, ha2, ha3⟩ := enc_at v k b hat2
    rw [HL.out] at ha1 ha2
    have hxv : x ≤ v := by rw [HX.out]; exact fold_le v k
    have HY : Hid (((encN v).take (k + 1)).foldl decF 0 = x * 128 + b % 128) := by
      show _ = _; rw [foldl_snoc_take _ _ _ hat2, ← HX.out]; rfl
    have hj0 : (0 : Int) ≤ (k : Int) := Int.natCast_nonneg _
    have hj1 : (k : Int) < (n : Int) := by omega
    have hand := u8_and127 b hb256
    obtain ⟨r, er⟩ : ∃ r, b % 128 = r := ⟨_, rfl⟩
    rw [er] at hand HY
    have hr1 : r < 128 := by omega
    have hor := seven_or x r (by have := HV.out; omega) hr1
    obtain ⟨u, eu⟩ : ∃ u : Nat, x * 128 + r = u := ⟨_, rfl⟩
    rw [eu] at hor HY
    have hbig : ¬ (144115188075855871 : Int) < (x : Int) := by have := HV.out; omega
    have hcase : (k = 0 ∧ ¬ (b : Int) = 128) ∨ (¬ k = 0 ∧ (0 : Int) < (k : Int)) := by omega
    clear eb eu er hat hat2 ha3 hxv
    by_cases hlast : k + 1 = L
    · have hb2 : (b : Int) < 128 := by have := ha1 hlast; omega
      have hval : u = v := by
        rw [← HY.out, hlast, ← HL.out, List.take_length, enc_val]
      subst hval
      have HLL := Lib.hid hlast
      clear ha1 ha2 hlast
      rcases hcase with ⟨rfl, hb3⟩ | ⟨hk0, hk1⟩
      · rw [Nat.add_zero] at hc
        go_wp2_with fail
        go_ret2
        exact ⟨by rw [← HLL.out]; rfl, hB⟩
      · go_wp2_with fail
        go_ret2
        exact ⟨by rw [← HLL.out]; rfl, hB⟩
    · have hk2 : k + 1 < L := by omega
      have hb2 : ¬ (b : Int) < 128 := by have := (ha2 hk2).1; omega
      clear ha1 ha2 hlast
      rcases hcase with ⟨rfl, hb3⟩ | ⟨hk0, hk1⟩
      · rw [Nat.add_zero] at hc
        go_wp2_with fail
        go_roundw
        case rel => exact ⟨1, u, hk2, by go_num, by go_num, HY.out.symm, hB⟩
        case measure => simp [intOf]; omega
      · go_wp2_with fail
        go_roundw
        case rel => exact ⟨k + 1, u, hk2, by go_num, by go_num, HY.out.symm, hB⟩
        case measure => simp [intOf]; omega
end Go.Proofs.YtfdododighjjpaaGreatDoor.Wi
