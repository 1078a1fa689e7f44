/- Contracts: the reference's Parse. -/
import Derived.Test.YtfdododighjjpaaGreatDoorDzH
import Derived.Deep.DeepCutAuto
import Derived.Deep.CutBlock
namespace Go.Proofs.YtfdododighjjpaaGreatDoor.Dy
open Go.RowKit Go.PlainAid
set_option linter.unusedVariables false
set_option linter.unusedSimpArgs false
set_option maxHeartbeats 8000000
set_option maxRecDepth 20000

/-- All words are these spans' texts, as far as they are texts at all. -/
def AllSp : List (List UInt8) → List (Int × Int) → Prop
  | [], [] => True
  | x :: xs, p :: l => SpRes x p true ∧ AllSp xs l
  | _, _ => False
theorem sp_snoc : ∀ {xs : List (List UInt8)} {l : List (Int × Int)} {x : List UInt8} {p : Int × Int}, AllSp xs l → SpRes x p true → AllSp (xs ++ [x]) (l ++ [p])
  | [], [], _, _, _, h => ⟨h, trivial⟩
  | [], _ :: _, _, _, h, _ => h.elim
  | _ :: _, [], _, _, h, _ => h.elim
  | x :: xs, p :: l, _, _, h, k => ⟨h.1, sp_snoc h.2 k⟩
theorem sp_len : ∀ {xs : List (List UInt8)} {l : List (Int × Int)}, AllSp xs l → l.length = xs.length
  | [], [], _ => rfl
  | [], _ :: _, h => h.elim
  | _ :: _, [], h => h.elim
  | x :: xs, p :: l, h => by rw [List.length_cons, List.length_cons, sp_len h.2]
theorem sp_ok : ∀ {xs : List (List UInt8)} {l : List (Int × Int)}, AllSp xs l → ∀ p ∈ l, Okp p
  | [], [], _ => by simp
  | [], _ :: _, h => h.elim
  | _ :: _, [], h => h.elim
  | x :: xs, p :: l, h => fun q hq => by
    rcases List.mem_cons.1 hq with rfl | hq
    · exact h.1.1 rfl
    · exact sp_ok h.2 q hq
theorem sp_eq : ∀ {r l : List (Int × Int)}, (∀ p ∈ r, Okp p) → AllSp (r.map spanT) l → l = r
  | [], [], _, _ => rfl
  | [], _ :: _, _, h => h.elim
  | _ :: _, [], _, h => h.elim
  | p :: r, q :: l, hr, h => by
    obtain ⟨h1, h2⟩ := h
    rw [(h1.2 p (hr p (by simp)) rfl).2, sp_eq (fun x hx => hr x (by simp [hx])) h2]
theorem sp_text {s : List UInt8} {l r : List (Int × Int)} (h1 : s ≠ noneT) (h2 : s ≠ allT) (ha : AllSp (linesL 44 s) l) (hr : Can r) (ht : textL r = s) : l = r := by
  rw [pieces_text hr ht h1 h2] at ha
  exact sp_eq hr.1 ha
theorem sp_no {s x : List UInt8} {p : Int × Int} (h1 : s ≠ noneT) (h2 : s ≠ allT) (hx : x ∈ linesL 44 s) (hb : SpRes x p false) : ∀ r, Can r → textL r ≠ s := by
  intro r hr e
  rw [pieces_text hr e h1 h2] at hx
  obtain ⟨q, hq, rfl⟩ := List.mem_map.1 hx
  have := (hb.2 q (hr.1 q hq) rfl).1
  cases this
theorem lines_size (c : UInt8) : ∀ l : List UInt8, (linesL c l).length ≤ l.length + 1
  | [] => by simp [linesL]
  | b :: l => by
    have ih := lines_size c l
    by_cases h : b = c
    · subst h; rw [linesL_cut, List.length_cons, List.length_cons]; omega
    · obtain ⟨z, t, e⟩ := List.exists_cons_of_ne_nil (linesL_ne c l)
      rw [linesL_put h e]
      rw [e] at ih
      simp only [List.length_cons] at ih ⊢
      omega
def NoComma (l : List UInt8) : Prop := ∀ b ∈ l, b ≠ 44
def measP (v5 v6 : Value) : Nat := match v5, v6 with
  | .string s, .bool true => s.size + 1
  | _, _ => 0
/-- What the words read so far leave. -/
def Left (s : List UInt8) (ws : List (List UInt8)) (rest : ByteArray) (more : Bool) : Prop := linesL 44 s = ws ++ (match more with | true => linesL 44 rest.data.toList | false => [])
def CutW (rest word rest' : ByteArray) (more : Bool) : Prop :=
  linesL 44 rest.data.toList = word.data.toList :: (match more with | true => linesL 44 rest'.data.toList | false => []) ∧ (more = true → rest'.size < rest.size) ∧ word.size ≤ rest.size ∧ rest'.size ≤ rest.size
theorem split_at2 {x : List UInt8} {j : Nat} (h : x[j]? = some 44) : x = x.take j ++ 44 :: x.drop (j + 1) := by
  conv => lhs; rw [← List.take_append_drop j x]
  rw [drop_at h]
theorem cut_yes {rest t1 t2 : ByteArray} {j : Nat} (hj : j < rest.size) (h1 : rest.extract 0 j = t1) (h2 : rest.extract (j + 1) rest.size = t2) (hn : NoComma (rest.data.toList.take j)) (hb : rest.data.toList[j]? = some 44) : CutW rest t1 t2 true := by
  refine ⟨?_, fun _ => ?_, ?_, ?_⟩
  · rw [← h1, ← h2, ext_take rest j (by omega), ext_drop rest (j + 1) (by omega)]
    conv => lhs; rw [split_at2 hb]
    exact lines_cons 44 _ _ hn
  · rw [← h2, ByteArray.size_extract]; omega
  · rw [← h1]; exact ext_size _ _ _
  · rw [← h2]; exact ext_size _ _ _
theorem cut_no {rest : ByteArray} (hn : NoComma rest.data.toList) : CutW rest rest rest false :=
  ⟨lines_word 44 _ hn, fun h => by (cases h), Nat.le_refl _, Nat.le_refl _⟩
theorem left_step {s : List UInt8} {ws : List (List UInt8)} {rest word rest' : ByteArray} {more : Bool} (h : Left s ws rest true) (hc : CutW rest word rest' more) : Left s (ws ++ [word.data.toList]) rest' more := by
  unfold Left at h ⊢
  rw [h]
  dsimp only
  rw [hc.1]; simp
theorem left_mem {s : List UInt8} {ws : List (List UInt8)} {rest : ByteArray} {more : Bool} {x : List UInt8} (h : Left s (ws ++ [x]) rest more) : x ∈ linesL 44 s := by
  rw [h]; simp
theorem left_len {s : List UInt8} {ws : List (List UInt8)} {rest : ByteArray} {more : Bool} (h : Left s ws rest more) : ws.length ≤ s.length + 1 := by
  have h1 := lines_size 44 s
  rw [h, List.length_append] at h1
  omega
def RParseP (s : ByteArray) (w : World) (e : Ending) (w' : World) : Prop :=
  RowKit.Below w.heap.size w w' ∧ ((∃ g r, e = .returned (.tuple #[.slice (some ⟨g, 0, none⟩) 30001 30001, .bool true]) ∧ Fo w' g (Dm r) ∧ Can r ∧ textL r = s.data.toList) ∨
    (∃ v, e = .returned (.tuple #[v, .bool false]) ∧ ∀ r, Can r → textL r ≠ s.data.toList))
set_option maxRecDepth 100000 in
theorem rparse_any5 (s : ByteArray) (hs : s.size ≤ 1000) (w : World) :
    Calls Tryz.prog 8 #[.string s] w (RParseP s w) := by
  obtain ⟨i0, hi, hz0, hz1, hz2⟩ := info_parts infoPair
  go_enter Tryz.func8, Tryz.ntmps8
  by_cases h1 : s.data.toList = noneT
  · obtain rfl : s = ⟨noneT.toArray⟩ := by rw [← h1]
    clear h1
    have HO := Lib.hid (rof_any none 0 0 [] w (Ds.nil _ _ _ (by unfold maxLen; omega)) (by simp))
    go_wp2_with (go_at_call 35; (with_reducible refine HO.out.mono ?_); rintro e w2 ⟨g, rfl, hf, hb⟩; have HF := Lib.hid hf; clear hf)
    go_returns
    exact ⟨hb, .inl ⟨g, [], rfl, HF.out, can_nil, noneP_nil⟩⟩
  by_cases h2 : s.data.toList = allT
  · obtain rfl : s = ⟨allT.toArray⟩ := by rw [← h2]
    clear h1 h2
    have HO := Lib.hid (fun W h => rof_any (some ⟨w.heap.size, 0, none⟩) 1 1 [(0, 30000)] W h can_all.1)
    have HD := Lib.hid (Ds.lit w 61 #[.int .i64 0, .int .i64 30000] [(0, 30000)] 1 rfl rfl (by omega))
    go_wp2_with (go_at_call 35; (with_reducible refine (HO.out _ HD.out).mono ?_); rintro e w2 ⟨g, rfl, hf, hb⟩; have HF := Lib.hid hf; clear hf)
    go_returns
    exact ⟨bel1 hb, .inl ⟨g, [(0, 30000)], rfl, HF.out, can_all, allP_text⟩⟩
  have e1 : (s.toList == [110, 111, 110, 101]) = false := by rw [ByteArray.toList_eq]; exact beq_eq_false_iff_ne.2 h1
  have e2 : (s.toList == [97, 108, 108]) = false := by rw [ByteArray.toList_eq]; exact beq_eq_false_iff_ne.2 h2
  have HN1 := Lib.hid h1
  have HN2 := Lib.hid h2
  clear h1 h2
  have hsl : s.data.toList.length ≤ 1000 := by rw [Array.length_toList]; exact hs
  go_wp2_with fail
  go_loopw [4, 5, 6] (fun v4 v5 v6 wr => ∃ (l : List (Int × Int)) (ws : List (List UInt8)) (rest : ByteArray) (more : Bool), v5 = .string rest ∧ v6 = .bool more ∧ rest.size ≤ 1000 ∧ Hid (AllSp ws l) ∧ Hid (Left s.data.toList ws rest more) ∧ Os 61 wr w.heap.size v4 l ∧ RowKit.Below w.heap.size w wr) (fun _ v5 v6 _ => measP v5 v6)
  case atStart => exact ⟨[], [], s, true, rfl, rfl, hs, trivial, rfl, Os.nil _ _ _, RowKit.Below.refl _ _⟩
  case round =>
    obtain ⟨l, ws, rest, more, rfl, rfl, hrs, hall, hleft, hown, hbel⟩ := hrel
    have hz := hbel.size
    have hll : l.length ≤ 1001 := by rw [sp_len hall.out]; have := left_len hleft.out; omega
    cases more with
    | true =>
      go_upto_block 2 with fail
      go_cut [5, 6, 7] (fun s5 s6 s7 wx => ∃ (rest' word : ByteArray) (more : Bool), s5 = .string rest' ∧ s6 = .bool more ∧ s7 = .string word ∧ Hid (CutW rest word rest' more) ∧ wx = wr)
      case first =>
        have hb := get_bt rest
        go_wp2_with fail
        go_loop [5, 6, 7, 8] (fun v5 v6 v7 v8 => ∃ (j : Nat), j ≤ rest.size ∧ v5 = .string rest ∧ v6 = .bool false ∧ v7 = .string rest ∧ v8 = .int .i64 j ∧ Hid (NoComma (rest.data.toList.take j))) (fun _ _ _ v => rest.size - (intOf v).toNat)
        case atStart => exact ⟨0, by omega, rfl, rfl, rfl, rfl, fun b hb => by simp at hb⟩
        case round =>
          obtain ⟨j, hj, rfl, rfl, rfl, rfl, hnd⟩ := hrel
          have hj0 : (0 : Int) ≤ (j : Int) := Int.natCast_nonneg _
          by_cases hlt : j < rest.size
          · have hj1 : (j : Int) < (rest.size : Int) := by omega
            obtain ⟨b, hb1, hb2⟩ := bt_at hlt
            have HB1 := Lib.hid hb1
            have hc0 : 0 ≤ bt rest j := bt_nonneg rest j
            have hc1 : bt rest j ≤ 255 := bt_le rest j
            have HB2 := Lib.hid hb2
            clear hb1 hb2
            obtain ⟨c, hc⟩ : ∃ c, bt rest j = c := ⟨_, rfl⟩
            have hbj := hb j hlt
            rw [hc] at hbj hc0 hc1
            have HB3 : Hid (c = (b.toNat : Int)) := by show _ = _; rw [← hc]; exact HB2.out
            clear hc HB2 hb
            by_cases h44 : c = 44
            · have hbb : b = 44 := by
                apply UInt8.toNat_inj.1
                have := HB3.out
                have e : (44 : UInt8).toNat = 44 := rfl
                omega
              have hx44 : rest.data.toList[j]? = some 44 := by rw [← hbb]; exact HB1.out
              have HC := Lib.hid (cut_yes hlt rfl rfl hnd.out hx44)
              clear hbb hx44 hc0 hc1
              subst h44
              go_wp2_with fail
              all_goals first | (exfalso; omega) | skip
              go_meet
              exact ⟨_, _, _, rfl, rfl, rfl, HC, rfl⟩
            · have HND : Hid (NoComma (rest.data.toList.take (j + 1))) := by
                show NoComma _
                rw [take_get HB1.out]
                intro x hx
                rcases List.mem_append.1 hx with hx | hx
                · exact hnd.out x hx
                · rw [List.mem_singleton] at hx
                  rw [hx]; rintro rfl
                  exact h44 HB3.out
              have h44b : (c == 44) = false := beq_eq_false_iff_ne.2 h44
              go_wp2_with fail
              all_goals first | (exfalso; omega) | skip
              go_round
              case rel => exact ⟨j + 1, by omega, rfl, rfl, rfl, by go_num, HND.out⟩
              case measure => simp [intOf]; omega
          · obtain rfl : j = rest.size := by omega
            have HC : Hid (CutW rest rest rest false) := by
              have h := hnd.out
              rw [List.take_of_length_le (by rw [Array.length_toList]; exact Nat.le_refl _)] at h
              exact cut_no h
            clear hb
            go_wp2_with fail
            go_meet
            exact ⟨_, _, _, rfl, rfl, rfl, HC, rfl⟩
      case rest =>
        obtain ⟨rest', word, more, rfl, rfl, rfl, HC, rfl⟩ := hcut
        have hws : word.size ≤ 1000 := Nat.le_trans HC.out.2.2.1 hrs
        have hrs' : rest'.size ≤ 1000 := Nat.le_trans HC.out.2.2.2 hrs
        have HSA := Lib.hid (span_any word hws wc)
        have HL := Lib.hid (left_step hleft.out HC.out)
        go_upto_region 19 with (go_at_call 36; (with_reducible refine HSA.out.mono ?_); rintro e w2 ⟨p1, p2, ok, rfl, hsp, hb2⟩; have HS := Lib.hid hsp; clear hsp; have hb2' := hbel.trans (hb2.mono hz))
        cases ok with
        | false =>
          have HNO := Lib.hid (sp_no HN1.out HN2.out (left_mem HL.out) HS.out)
          go_wp2_with fail
          go_returns
          exact ⟨hb2'.alloc hb2'.size _, .inr ⟨_, rfl, HNO.out⟩⟩
        | true =>
          have HALL := Lib.hid (sp_snoc hall.out HS.out)
          have hown1 := ((hown.below (Nat.le_refl _) hb2).alloc (.cells #[.int .i64 p1, .int .i64 p2] 61)).alloc (.cells #[.int .i64 p1, .int .i64 p2] 61)
          have q0 : (w2.alloc (.cells #[.int .i64 p1, .int .i64 p2] 61)).cell? ⟨w2.heap.size, 0, none⟩ = some (.int .i64 p1) := (new2 w2 _ _ _).1
          have q1 : (w2.alloc (.cells #[.int .i64 p1, .int .i64 p2] 61)).cell? ⟨w2.heap.size, 1, none⟩ = some (.int .i64 p2) := (new2 w2 _ _ _).2
          have hzz := hb2'.size
          have hb4 := (hb2'.alloc hzz (.cells #[.int .i64 p1, .int .i64 p2] 61)).alloc (by simp; omega) (.cells #[.int .i64 p1, .int .i64 p2] 61)
          go_wp2_with (at_builtin; refine wpList_append_ds rfl (.tmp 47) (.tmp 49) 62 61 rfl Tryz.underlying62 w.heap.size i0 hi hz0 hz1 hz2 _ _ rfl hown1 _ 1 1 [(p1, p2)] rfl (Ds.one _ _ _ _ _ (by simp)) (by omega) (by simp; omega) ?_)
          intro v4 w4 hown4 hgr4
          have hb5 := hb4.grown hgr4 (by simp; omega) (fun b hb => (hown.lt b hb).1)
          clear hgr4 hown1 hown hbel hb4 q0 q1
          go_wp2_with fail
          go_roundw
          case rel => exact ⟨l ++ [(p1, p2)], ws ++ [word.data.toList], rest', more, rfl, rfl, hrs', HALL.out, HL.out, hown4, hb5⟩
          case measure =>
            cases more with
            | true => have := HC.out.2.1 rfl; simp only [measP]; omega
            | false => simp only [measP]; omega
    | false =>
      have hls : linesL 44 s.data.toList = ws := by have := hleft.out; unfold Left at this; rw [this]; simp
      have HALL : Hid (AllSp (linesL 44 s.data.toList) l) := by show AllSp _ _; rw [hls]; exact hall.out
      have HOK := Lib.hid (sp_ok hall.out)
      clear hall hleft hls
      obtain ⟨a5, n5, c5, rfl, hn5, hd5⟩ := hown.dn
      have HOF := Lib.hid (rof_any a5 n5 c5 l wr hd5 HOK.out)
      clear hn5 hd5 hown
      go_upto_region 23 with (go_at_call 35; (with_reducible refine HOF.out.mono ?_); rintro e w2 ⟨g, rfl, hf, hb⟩; have HF := Lib.hid hf; have hb := hbel.trans (hb.mono hz); have HT := Lib.hid (rtext5_any _ _ _ w2 hf.fl); clear hf)
      obtain ⟨tx, htx⟩ : ∃ tx : ByteArray → Prop, True := ⟨fun _ => True, trivial⟩
      clear tx htx
      go_wp2_with (go_at_call 13; (with_reducible refine HT.out.mono ?_); rintro e w3 ⟨r, rfl, hcr, hdr, hb3⟩; have HCR := Lib.hid hcr; have HDR := Lib.hid hdr; clear hcr hdr; have hb3' := hb.trans (hb3.mono hb.size); have HF3 := Lib.hid (HF.out.below hb3 HF.out.1))
      by_cases hq : textL r = s.data.toList
      · have hq' : (textL r == s.toList) = true := by rw [ByteArray.toList_eq, hq]; exact beq_self_eq_true _
        rw [hq']
        go_returns
        exact ⟨hb3', .inl ⟨g, r, rfl, HF3.out.congr (fun d h0 h1 => by rw [HDR.out, inD_iff.2 ⟨h0, h1⟩]; rfl), HCR.out, hq⟩⟩
      · have hq' : (textL r == s.toList) = false := by rw [ByteArray.toList_eq]; exact beq_eq_false_iff_ne.2 hq
        rw [hq']
        go_returns
        refine ⟨hb3', .inr ⟨_, rfl, fun r' hr' e => hq ?_⟩⟩
        have hl := sp_text HN1.out HN2.out HALL.out hr' e
        have hd := HDR.out
        rw [hl] at hd
        rw [flags_same hr' HCR.out hd]; exact e
end Go.Proofs.YtfdododighjjpaaGreatDoor.Dy
