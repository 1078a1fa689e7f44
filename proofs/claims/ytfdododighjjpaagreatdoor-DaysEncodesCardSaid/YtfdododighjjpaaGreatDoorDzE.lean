/- Contracts: the reference's Text. -/
import Derived.Test.YtfdododighjjpaaGreatDoorDzD
import Derived.Test.YtfdododighjjpaaGreatDoorDaK
import Derived.Deep.DeepCutAuto
import Derived.Deep.CutBlock
namespace Go.Proofs.YtfdododighjjpaaGreatDoor.Dy
open Go.RowKit Go.PlainAid
set_option linter.unusedVariables false
set_option linter.unusedSimpArgs false
set_option maxHeartbeats 8000000
set_option maxRecDepth 20000
def joinP (l : List (Int × Int)) : List UInt8 := Lib.join (l.map spanT) [44]
theorem join_snoc (ws : List (List UInt8)) (x : List UInt8) (h : ws ≠ []) : Lib.join (ws ++ [x]) [44] = Lib.join ws [44] ++ [44] ++ x := by
  cases ws with
  | nil => exact absurd rfl h
  | cons a r =>
    rw [List.cons_append, Lib.join_cons, Lib.join_cons]
    have h1 := Lib.joinTail_take_succ [44] (r ++ [x]) r.length x (by simp)
    rw [List.take_of_length_le (by simp), List.take_left' rfl] at h1
    rw [h1]; simp
theorem joinP_first (p : Int × Int) : joinP [p] = spanT p := Lib.join_one _ _
theorem joinP_snoc {l : List (Int × Int)} {p : Int × Int} (h : l ≠ []) : joinP (l ++ [p]) = joinP l ++ [44] ++ spanT p := by
  unfold joinP
  rw [List.map_append]
  exact join_snoc _ _ (by simpa using h)
theorem lenD_le : ∀ {l : List (Int × Int)}, Can l → ∀ a : Int, (∀ p ∈ l, a ≤ p.1) → a ≤ 30001 → lenD l ≤ 30001 - a
  | [], _, a, _, ha => by rw [lenD_nil]; omega
  | p :: l, h, a, hp, ha => by
    have h1 := h.head
    unfold Okp at h1
    have h2 := lenD_le h.tail (min (p.2 + 2) 30001) (fun q hq => by have := h.after q hq; omega) (by omega)
    have h3 := hp p (by simp)
    rw [lenD_cons]; omega
theorem all_of_len {l : List (Int × Int)} (h : Can l) (hl : lenD l = 30001) : l = [(0, 30000)] := by
  match l, h, hl with
  | [], _, hl => rw [lenD_nil] at hl; omega
  | [(a, b)], h, hl =>
    have h1 := h.head
    unfold Okp at h1
    rw [lenD_cons, lenD_nil] at hl
    dsimp only at h1 hl
    obtain rfl : a = 0 := by omega
    obtain rfl : b = 30000 := by omega
    rfl
  | p :: q :: r, h, hl =>
    have h1 := h.head
    unfold Okp at h1
    have h4 := h.tail.head
    unfold Okp at h4
    have h5 := h.after q (by simp)
    have h2 := lenD_le h.tail (p.2 + 2) (fun q hq => by have := h.after q hq; omega) (by omega)
    rw [lenD_cons] at hl; omega
theorem textL_join {l : List (Int × Int)} (h : Can l) (h0 : l ≠ []) (h1 : l ≠ [(0, 30000)]) : textL l = joinP l := by
  unfold textL
  rw [if_neg h0, if_neg (fun e => h1 (all_of_len h e))]; rfl
theorem itoa_toNat {z : Int} (h : 0 ≤ z) : Lib.itoa z = Lib.decDigits z.toNat := by
  obtain ⟨x, rfl⟩ : ∃ x : Nat, z = x := ⟨z.toNat, by omega⟩
  rw [Lib.itoa_nonneg]; rfl
theorem take_ne {α : Type} {l : List α} {k : Nat} (h0 : 0 < k) (h : k ≤ l.length) : l.take k ≠ [] := by
  intro e
  have := congrArg List.length e
  rw [List.length_take, List.length_nil] at this
  omega
theorem size_of (l : List UInt8) : (⟨l.toArray⟩ : ByteArray).size = l.length := by show l.toArray.size = _; rw [List.size_toArray]
theorem noneP_nil : textL [] = noneT := by unfold textL; rw [if_pos rfl]
theorem allP_text : textL [(0, 30000)] = allT := by decide +kernel
theorem cat_nil1 (b : ByteArray) : (⟨(joinP []).toArray⟩ : ByteArray) ++ b = b := by
  apply ByteArray.ext; simp [joinP, Lib.join_nil, ByteArray.data_append]
theorem cat_nil2 (b c : ByteArray) : (⟨(joinP []).toArray⟩ : ByteArray) ++ b ++ c = b ++ c := by rw [cat_nil1 b]
theorem cat_nil3 (b c d : ByteArray) : (⟨(joinP []).toArray⟩ : ByteArray) ++ b ++ c ++ d = b ++ c ++ d := by rw [cat_nil1 b]
theorem cat_as1 (a b c d : ByteArray) : a ++ b ++ c = a ++ b ++ c := rfl
theorem cat_as2 (a b c d : ByteArray) : a ++ b ++ c ++ d = a ++ b ++ (c ++ d) := ByteArray.append_assoc
theorem cat_as3 (a b c d e : ByteArray) : a ++ b ++ c ++ d ++ e = a ++ b ++ (c ++ d ++ e) := by rw [ByteArray.append_assoc (a := a ++ b), ByteArray.append_assoc (a := a ++ b)]
def RTextP (w : World) (S : Int → Bool) (e : Ending) (w' : World) : Prop :=
  ∃ r, e = .returned (.string ⟨(textL r).toArray⟩) ∧ Can r ∧ (∀ d, Dm r d = (inD d && S d)) ∧ RowKit.Below w.heap.size w w'
set_option maxRecDepth 100000 in
theorem rtext5_n (N : Nat) (hN : N = 30001) (a : Option Addr) (cap : Nat) (S : Int → Bool) (w : World) (h : Fl w a cap S) :
    Calls Tryz.prog 13 #[.slice a N cap] w (RTextP w S) := by
  have HSP := Lib.hid (rspans_n N hN a cap S w h)
  clear h hN
  go_enter Tryz.func13, Tryz.ntmps13
  go_upto_region 2 with (go_at_call 37; (with_reducible refine HSP.out.mono ?_); rintro e w1 ⟨v1, r, rfl, hb1, hown1, hcr, hdr⟩; obtain ⟨a1, n1, c1, rfl, hn1, hd1⟩ := hown1.dn; have HD1 := Lib.hid hd1; have HN1 := Lib.hid hn1; have HCR := Lib.hid hcr; have HDR := Lib.hid hdr; clear hd1 hown1 hn1 hcr hdr)
  clear HSP
  have hlen : n1 ≤ 15001 := by rw [HN1.out]; exact can_len HCR.out
  by_cases h0 : r = []
  · have e0 : n1 = 0 := by rw [HN1.out, h0]; rfl
    subst e0
    go_wp2_with fail
    go_ret
    exact ⟨r, (by rw [h0, noneP_nil]; rfl), HCR.out, HDR.out, hb1⟩
  have hn0 : n1 ≠ 0 := by rw [HN1.out]; intro e; exact h0 (List.eq_nil_of_length_eq_zero e)
  have hn0' : ¬ (n1 : Int) = 0 := by omega
  obtain ⟨hl, hc, hm, h4⟩ := HD1.out
  rcases h4 with h4 | ⟨b, o, rfl, hb, hcell⟩
  · exact absurd h4 hn0
  have HCELL := Lib.hid hcell
  clear hcell
  unfold maxLen at hm
  go_upto_region 4 with fail
  obtain ⟨⟨p1, p2⟩, hp⟩ : ∃ p, r[0]? = some p := ⟨_, List.getElem?_eq_getElem (by rw [hl]; omega)⟩
  obtain ⟨c1', c2'⟩ := HCELL.out 0 _ hp
  dsimp only at c1' c2'
  simp only [Nat.zero_mul, Nat.add_zero] at c1' c2'
  have HH : ∀ q, r = [q] → q = (p1, p2) := fun q e => by rw [e] at hp; simpa using hp
  by_cases h1 : r = [(0, 30000)]
  · have e1 : n1 = 1 := by rw [HN1.out, h1]; rfl
    have e2 := HH _ h1
    obtain ⟨rfl, rfl⟩ : p1 = 0 ∧ p2 = 30000 := by simpa using e2.symm
    subst e1
    clear HH
    go_wp2_with fail
    go_ret
    exact ⟨r, (by rw [h1, allP_text]; rfl), HCR.out, HDR.out, hb1⟩
  have HR1 := Lib.hid h1
  have HR0 := Lib.hid h0
  have hcase : ¬ (n1 : Int) = 1 ∨ (n1 = 1 ∧ ¬ p1 = 0) ∨ (n1 = 1 ∧ p1 = 0 ∧ ¬ p2 = 30000) := by
    by_cases g1 : n1 = 1
    · by_cases g2 : p1 = 0
      · refine .inr (.inr ⟨g1, g2, fun g3 => h1 ?_⟩)
        rw [g1] at hl
        obtain ⟨q, hq⟩ := List.length_eq_one_iff.1 hl
        rw [hq, HH q hq, g2, g3]
      · exact .inr (.inl ⟨g1, g2⟩)
    · exact .inl (by omega)
  clear HH h0 h1
  go_cut [28] (fun s28 wx => s28 = .bool false ∧ wx = w1)
  case first =>
    rcases hcase with g | ⟨rfl, g⟩ | ⟨rfl, rfl, g⟩
    all_goals
      have gb := beq_eq_false_iff_ne.2 g
      clear g
      go_wp2_with fail
      go_meet
      exact ⟨rfl, rfl⟩
  case rest =>
    obtain ⟨rfl, rfl⟩ := hcut
    have HTX : Hid (textL r = joinP r) := textL_join HCR.out HR0.out HR1.out
    have HLJ : Hid (∀ k, k ≤ n1 → (joinP (r.take k)).length ≤ 12 * k) := fun k hk => by
      have := joinT_len (r.take k) (fun x hx => HCR.out.1 x (List.mem_of_mem_take hx))
      rw [List.length_take] at this
      unfold joinP; omega
    clear hcase c1' c2' hp HR0 HR1 hn0 hn0'
    go_wp2_with fail
    go_loopw [4, 31] (fun v4 v31 wr => ∃ (k : Nat) (s : ByteArray), k ≤ n1 ∧ v31 = .int .i64 k ∧ v4 = .string s ∧ Hid (s = ⟨(joinP (r.take k)).toArray⟩) ∧ RowKit.Below wc.heap.size wc wr) (fun _ v _ => n1 - (intOf v).toNat)
    case atStart => exact ⟨0, _, by omega, rfl, rfl, rfl, RowKit.Below.refl _ _⟩
    case round =>
      obtain ⟨k, s, hk, rfl, rfl, HS, hbel⟩ := hrel
      have hz := hbel.size
      have hk0 : (0 : Int) ≤ (k : Int) := Int.natCast_nonneg _
      have hss : s.size ≤ 12 * k := by rw [HS.out, size_of]; exact HLJ.out k hk
      by_cases hlt : k < n1
      · have hk1 : (k : Int) < (n1 : Int) := by omega
        obtain ⟨⟨q1, q2⟩, hp⟩ : ∃ p, r[k]? = some p := ⟨_, List.getElem?_eq_getElem (by rw [hl]; exact hlt)⟩
        have hok := HCR.out.1 _ (List.mem_of_getElem? hp)
        unfold Okp at hok
        dsimp only at hok
        have hx3 : q1.toNat ≤ 30000 := by omega
        have hy3 : q2.toNat ≤ 30000 := by omega
        have hix := itoa_toNat (z := q1) (by omega)
        have hiy := itoa_toNat (z := q2) (by omega)
        obtain ⟨c1, c2⟩ := HCELL.out k _ hp
        have c1 := (hbel.cell (p := ⟨b, _, none⟩) hb).trans c1
        have c2 := (hbel.cell (p := ⟨b, _, none⟩) hb).trans c2
        dsimp only at c1 c2
        have HTK := Lib.hid (take_snoc' hp)
        have HDX0 := fun W => refdig_any q1.toNat q1 W (by omega) hx3
        have HDY0 := fun W => refdig_any q2.toNat q2 W (by omega) hy3
        obtain ⟨dx, hdx⟩ : ∃ dx : ByteArray, ⟨(Lib.itoa q1).toArray⟩ = dx := ⟨_, rfl⟩
        obtain ⟨dy, hdy⟩ : ∃ dy : ByteArray, ⟨(Lib.itoa q2).toArray⟩ = dy := ⟨_, rfl⟩
        have hsx : dx.size ≤ 5 := by rw [← hdx, size_of, hix]; exact (dec_day _ hx3).2
        have hsy : dy.size ≤ 5 := by rw [← hdy, size_of, hiy]; exact (dec_day _ hy3).2
        rw [← hix, hdx] at HDX0
        rw [← hiy, hdy] at HDY0
        have HDX := Lib.hid HDX0
        have HDY := Lib.hid HDY0
        have HGX := Lib.hid hdx
        have HGY := Lib.hid hdy
        have hy2 : q2 ≤ 30000 := by omega
        have hb2 := hbel.alloc hz (.cells #[.int .i64 q1, .int .i64 q2] 61)
        have hzw : wr.heap.size < (wr.alloc (.cells #[.int .i64 q1, .int .i64 q2] 61)).heap.size := by simp
        clear hdx hdy hp hok hx3 hy3 hix hiy HDX0 HDY0
        have tk0 : Nat := 0
        by_cases hkz : k = 0
        · have hkn : ¬ (0 : Int) < (k : Int) := by omega
          by_cases hxy : q1 = q2
          · obtain rfl := hxy
            have HSPN : Hid ((dx : ByteArray) = ⟨(spanT (q1, q1)).toArray⟩) := by
              show _ = _
              unfold spanT
              rw [if_pos rfl, HGX.out]
            have HE : Hid ((s ++ dx : ByteArray) = ⟨(joinP (r.take (k + 1))).toArray⟩) := by
              show _ = _
              rw [HTK.out, hkz, List.take_zero, List.nil_append, joinP_first, ← HSPN.out, HS.out, hkz]
              exact cat_nil1 _
            have z1 : s.size + 1 + dx.size ≤ 140737488355328 := by omega
            clear HS HSPN HTK
            clear hkz
            go_wp2_with (first
              | (go_at_call 44; clear tk0; (with_reducible refine (HDX.out _).mono ?_); rintro e w3 ⟨rfl, hb3⟩; have q1 := (hb3.cell (p := ⟨wr.heap.size, 0, none⟩) hzw).trans (new2 wr _ _ _).1; have q2 := (hb3.cell (p := ⟨wr.heap.size, 1, none⟩) hzw).trans (new2 wr _ _ _).2; have hb3 := hb2.trans (hb3.mono hb2.size); have tk1 : Nat := 0))
            all_goals first | (exfalso; omega) | skip
            go_roundw
            case rel => exact ⟨k + 1, _, by omega, by go_num, rfl, HE.out, hb3⟩
            case measure => simp [intOf]; omega
          · by_cases hy0 : q2 = 30000
            · have hy1 : ¬ q2 < 30000 := by omega
              have HSPN : Hid ((dx ++ ⟨#[45]⟩ : ByteArray) = ⟨(spanT (q1, q2)).toArray⟩) := by
                show _ = _
                unfold spanT
                rw [if_neg (fun e => hxy e), if_pos hy0]; exact str_app HGX.out.symm rfl
              have HE : Hid ((s ++ dx ++ ⟨#[45]⟩ : ByteArray) = ⟨(joinP (r.take (k + 1))).toArray⟩) := by
                show _ = _
                rw [HTK.out, hkz, List.take_zero, List.nil_append, joinP_first, ← HSPN.out, HS.out, hkz]
                exact cat_nil2 _ _
              have z1 : s.size + 1 + dx.size + 1 ≤ 140737488355328 := by omega
              clear HS HSPN HTK hy0
              clear hkz
              go_wp2_with (first
                | (go_at_call 44; clear tk0; (with_reducible refine (HDX.out _).mono ?_); rintro e w3 ⟨rfl, hb3⟩; have q1 := (hb3.cell (p := ⟨wr.heap.size, 0, none⟩) hzw).trans (new2 wr _ _ _).1; have q2 := (hb3.cell (p := ⟨wr.heap.size, 1, none⟩) hzw).trans (new2 wr _ _ _).2; have hb3 := hb2.trans (hb3.mono hb2.size); have tk1 : Nat := 0))
              all_goals first | (exfalso; omega) | skip
              go_roundw
              case rel => exact ⟨k + 1, _, by omega, by go_num, rfl, HE.out, hb3⟩
              case measure => simp [intOf]; omega
            · have hy1 : q2 < 30000 := by omega
              have HSPN : Hid ((dx ++ ⟨#[45]⟩ ++ dy : ByteArray) = ⟨(spanT (q1, q2)).toArray⟩) := by
                show _ = _
                unfold spanT
                rw [if_neg (fun e => hxy e), if_neg (fun e => hy0 e)]; exact str_app (str_app HGX.out.symm rfl) HGY.out.symm
              have HE : Hid ((s ++ dx ++ ⟨#[45]⟩ ++ dy : ByteArray) = ⟨(joinP (r.take (k + 1))).toArray⟩) := by
                show _ = _
                rw [HTK.out, hkz, List.take_zero, List.nil_append, joinP_first, ← HSPN.out, HS.out, hkz]
                exact cat_nil3 _ _ _
              have z1 : s.size + 1 + dx.size + 1 + dy.size ≤ 140737488355328 := by omega
              clear HS HSPN HTK
              clear hkz
              go_wp2_with (first
                | (go_at_call 44; clear tk0; (with_reducible refine (HDX.out _).mono ?_); rintro e w3 ⟨rfl, hb3⟩; have q1 := (hb3.cell (p := ⟨wr.heap.size, 0, none⟩) hzw).trans (new2 wr _ _ _).1; have q2 := (hb3.cell (p := ⟨wr.heap.size, 1, none⟩) hzw).trans (new2 wr _ _ _).2; have hb3 := hb2.trans (hb3.mono hb2.size); have tk1 : Nat := 0)
                | (go_at_call 44; clear tk1; (with_reducible refine (HDY.out _).mono ?_); rintro e w4 ⟨rfl, hb4⟩; have hb4 := hb3.trans (hb4.mono hb3.size)))
              all_goals first | (exfalso; omega) | skip
              go_roundw
              case rel => exact ⟨k + 1, _, by omega, by go_num, rfl, HE.out, hb4⟩
              case measure => simp [intOf]; omega
        · have hkp : (0 : Int) < (k : Int) := by omega
          by_cases hxy : q1 = q2
          · obtain rfl := hxy
            have HSPN : Hid ((dx : ByteArray) = ⟨(spanT (q1, q1)).toArray⟩) := by
              show _ = _
              unfold spanT
              rw [if_pos rfl, HGX.out]
            have HE : Hid (((s ++ ⟨#[44]⟩) ++ dx : ByteArray) = ⟨(joinP (r.take (k + 1))).toArray⟩) := by
              show _ = _
              rw [HTK.out, joinP_snoc (take_ne (by omega) (by omega)), ← str_app (str_app HS.out.symm.symm (rfl : (⟨#[44]⟩ : ByteArray) = ⟨[44].toArray⟩)) HSPN.out]
            have z1 : s.size + 1 + dx.size ≤ 140737488355328 := by omega
            clear HS HSPN HTK
            go_wp2_with (first
              | (go_at_call 44; clear tk0; (with_reducible refine (HDX.out _).mono ?_); rintro e w3 ⟨rfl, hb3⟩; have q1 := (hb3.cell (p := ⟨wr.heap.size, 0, none⟩) hzw).trans (new2 wr _ _ _).1; have q2 := (hb3.cell (p := ⟨wr.heap.size, 1, none⟩) hzw).trans (new2 wr _ _ _).2; have hb3 := hb2.trans (hb3.mono hb2.size); have tk1 : Nat := 0))
            all_goals first | (exfalso; omega) | skip
            go_roundw
            case rel => exact ⟨k + 1, _, by omega, by go_num, rfl, HE.out, hb3⟩
            case measure => simp [intOf]; omega
          · by_cases hy0 : q2 = 30000
            · have hy1 : ¬ q2 < 30000 := by omega
              have HSPN : Hid ((dx ++ ⟨#[45]⟩ : ByteArray) = ⟨(spanT (q1, q2)).toArray⟩) := by
                show _ = _
                unfold spanT
                rw [if_neg (fun e => hxy e), if_pos hy0]; exact str_app HGX.out.symm rfl
              have HE : Hid (((s ++ ⟨#[44]⟩) ++ dx ++ ⟨#[45]⟩ : ByteArray) = ⟨(joinP (r.take (k + 1))).toArray⟩) := by
                show _ = _
                rw [HTK.out, joinP_snoc (take_ne (by omega) (by omega)), ← str_app (str_app HS.out.symm.symm (rfl : (⟨#[44]⟩ : ByteArray) = ⟨[44].toArray⟩)) HSPN.out]
                exact cat_as2 _ _ _ _
              have z1 : s.size + 1 + dx.size + 1 ≤ 140737488355328 := by omega
              clear HS HSPN HTK hy0
              go_wp2_with (first
                | (go_at_call 44; clear tk0; (with_reducible refine (HDX.out _).mono ?_); rintro e w3 ⟨rfl, hb3⟩; have q1 := (hb3.cell (p := ⟨wr.heap.size, 0, none⟩) hzw).trans (new2 wr _ _ _).1; have q2 := (hb3.cell (p := ⟨wr.heap.size, 1, none⟩) hzw).trans (new2 wr _ _ _).2; have hb3 := hb2.trans (hb3.mono hb2.size); have tk1 : Nat := 0))
              all_goals first | (exfalso; omega) | skip
              go_roundw
              case rel => exact ⟨k + 1, _, by omega, by go_num, rfl, HE.out, hb3⟩
              case measure => simp [intOf]; omega
            · have hy1 : q2 < 30000 := by omega
              have HSPN : Hid ((dx ++ ⟨#[45]⟩ ++ dy : ByteArray) = ⟨(spanT (q1, q2)).toArray⟩) := by
                show _ = _
                unfold spanT
                rw [if_neg (fun e => hxy e), if_neg (fun e => hy0 e)]; exact str_app (str_app HGX.out.symm rfl) HGY.out.symm
              have HE : Hid (((s ++ ⟨#[44]⟩) ++ dx ++ ⟨#[45]⟩ ++ dy : ByteArray) = ⟨(joinP (r.take (k + 1))).toArray⟩) := by
                show _ = _
                rw [HTK.out, joinP_snoc (take_ne (by omega) (by omega)), ← str_app (str_app HS.out.symm.symm (rfl : (⟨#[44]⟩ : ByteArray) = ⟨[44].toArray⟩)) HSPN.out]
                exact cat_as3 _ _ _ _ _
              have z1 : s.size + 1 + dx.size + 1 + dy.size ≤ 140737488355328 := by omega
              clear HS HSPN HTK
              go_wp2_with (first
                | (go_at_call 44; clear tk0; (with_reducible refine (HDX.out _).mono ?_); rintro e w3 ⟨rfl, hb3⟩; have q1 := (hb3.cell (p := ⟨wr.heap.size, 0, none⟩) hzw).trans (new2 wr _ _ _).1; have q2 := (hb3.cell (p := ⟨wr.heap.size, 1, none⟩) hzw).trans (new2 wr _ _ _).2; have hb3 := hb2.trans (hb3.mono hb2.size); have tk1 : Nat := 0)
                | (go_at_call 44; clear tk1; (with_reducible refine (HDY.out _).mono ?_); rintro e w4 ⟨rfl, hb4⟩; have hb4 := hb3.trans (hb4.mono hb3.size)))
              all_goals first | (exfalso; omega) | skip
              go_roundw
              case rel => exact ⟨k + 1, _, by omega, by go_num, rfl, HE.out, hb4⟩
              case measure => simp [intOf]; omega
      · obtain rfl : k = n1 := by omega
        have HE : Hid (s = ⟨(textL r).toArray⟩) := by
          show _ = _
          rw [HS.out, List.take_of_length_le (by rw [hl]; exact Nat.le_refl _), HTX.out]
        clear HS
        go_wp2_with fail
        go_ret
        exact ⟨r, (by rw [HE.out]; rfl), HCR.out, HDR.out, hb1.trans (hbel.mono hb1.size)⟩
theorem rtext5_any (a : Option Addr) (cap : Nat) (S : Int → Bool) (w : World) (h : Fl w a cap S) :
    Calls Tryz.prog 13 #[.slice a 30001 cap] w (RTextP w S) := rtext5_n _ rfl a cap S w h
end Go.Proofs.YtfdododighjjpaaGreatDoor.Dy
