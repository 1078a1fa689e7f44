/- The walk of TokenSets. -/
import Derived.Test.YtkmchnggcjmchaaDoorTsC
import Derived.RegionTactic
import Derived.BigRegion
import Derived.Deep.RegionHeld3
import Derived.Deep.DeepCutAuto
import Derived.Deep.CutBlock
namespace Go.Proofs.YtkmchnggcjmchaaDoor.Ts
open Go.RowKit Go.PlainAid Go.Proofs.YtkmchnggcjmchaaDoor Go.Proofs.YtkmchnggcjmchaaDoor.Bz
set_option linter.unusedVariables false
set_option linter.unusedSimpArgs false
set_option maxHeartbeats 8000000
/-- The numbers that go in. -/
def vals (zs : List Nat) : List Nat := (zs.take 20).map (· % 4096)
theorem vals_len (zs : List Nat) : (vals zs).length ≤ 20 := by unfold vals; simp; omega
theorem new1 (w : World) (x : Value) (T : TypeId) : (w.alloc (.cells #[x] T)).cell? ⟨w.heap.size, 0, none⟩ = some x ∧ (w.alloc (.cells #[x] T)).frozen? ⟨w.heap.size, 0, none⟩ = false := by
  constructor <;> simp
theorem of_nil (w : World) :
    Calls Tryd.prog 11 #[.slice none 0 0] w fun e w' => e = .returned (.agg #[.slice none 0 0]) ∧ RowKit.Below w.heap.size w w' := by
  go_enter Tryd.func11, Tryd.ntmps11
  go_wp2_with fail
  go_loop [3, 11] (fun u v => u = .int .i64 (-1) ∧ v = .int .i64 0) (fun _ _ => 0)
  case atStart => exact ⟨rfl, rfl⟩
  case round =>
    obtain ⟨rfl, rfl⟩ := hrel
    go_wp2_with fail
    go_returns
    exact ⟨rfl, by go_grown⟩
theorem setL_nil : setL [] = [] := by unfold setL; simp
theorem take_get {l : List Nat} {j x : Nat} (h : l[j]? = some x) : l.take (j + 1) = l.take j ++ [x] := by
  rw [List.take_add_one, h]; rfl
theorem vals_get {zs : List Nat} {k x : Nat} (h : zs[k]? = some x) (hk : k < 20) : (vals zs)[k]? = some (x % 4096) := by
  unfold vals
  rw [List.getElem?_map, List.getElem?_take_of_lt hk, h]; rfl
theorem Bs.asc {w : World} {a : Option Addr} {n cap : Nat} {l : List Nat} (h : Bs w a n cap l) : Asc l := by
  obtain ⟨ws, _, hr⟩ := h
  exact hr.asc
theorem plain_len (c : Bool) : ∀ l : List Nat, (plainL c l).length ≤ 2 * l.length + 1
  | [] => by simp [plainL]
  | [x] => by simp [plainL]
  | x :: y :: r => by
    have ih := plain_len c (y :: r)
    cases c <;> simp [plainL] at ih ⊢ <;> omega
/-- The place of a reader, as its cell has it. -/
def posOf (w : World) (g : Nat) : Nat := match w.cell? ⟨g, 1, none⟩ with
  | some (.int _ n) => n.toNat
  | _ => 0
theorem Rd.pos {f : Tok → List Value} {w : World} {g z : Nat} {ts : List Tok} {pos off e : Nat} (h : Rd f w g z ts pos off e) : posOf w g = pos := by
  obtain ⟨a, cap, ⟨c0, c1, _⟩, _⟩ := h
  unfold posOf
  rw [c1]; simp
theorem text_size {l : List Nat} (h : ∀ x ∈ l, x < 4096) (hn : l.length ≤ 20) : (⟨(textB l).toArray⟩ : ByteArray).size ≤ 1000 ∧ ∀ c, (⟨(jn c l).toArray⟩ : ByteArray).size ≤ 1000 := by
  have h1 := fun c => (jn_len c l h).2
  constructor
  · show (textB l).toArray.size ≤ 1000
    rw [List.size_toArray]
    unfold textB headB
    rw [jn_join]
    have := h1 32
    simp only [List.length_append, List.length_cons, List.length_nil]
    omega
  · intro c
    show (jn c l).toArray.size ≤ 1000
    rw [List.size_toArray]
    have := h1 c
    omega
set_option maxRecDepth 100000 in
theorem tokenSets_walk (p : Option Addr) (n cap : Nat) (zs : List Nat) (comma : Bool) (w : World) (hW : Wt w) (h : Uw w p n cap zs) :
    Calls Tryd.prog 4 #[.slice p n cap, .bool comma] w fun e w' => e = .returned (.bool true) ∧ RowKit.Below w.heap.size w w' := by
  have HW := Lib.hid (fun W (hb : RowKit.Below w.heap.size w W) => hW.below hb)
  have hmin : min (0 : Int) 20 = 0 := by decide
  obtain ⟨hl, h2, h3, h4⟩ := h
  have HL := Lib.hid hl
  clear hW hl
  obtain ⟨S, hS⟩ : ∃ S, setL (vals zs) = S := ⟨_, rfl⟩
  have hS1 : ∀ x ∈ S, x < 4096 := fun x hx => (mem_setL.1 (by rw [hS]; exact hx)).1
  have hS2 : S.length ≤ 20 := by rw [← hS]; exact Nat.le_trans (setL_len _) (vals_len _)
  have hS3 : setL S = S := by rw [← hS]; exact setL_setL _
  have HS1 := Lib.hid hS1
  have HS2 := Lib.hid hS2
  have HS3 := Lib.hid hS3
  have HSE := Lib.hid hS
  have HTS := Lib.hid (text_size hS1 hS2)
  clear hS hS1 hS2 hS3
  have tk0 : Nat := 0
  go_enter Tryd.func4, Tryd.ntmps4
  go_upto_region 4 with (first
    | (go_at_call 5; (with_reducible refine (awake_any _).mono ?_); rintro e w1 ⟨rfl, hB1⟩)
    | (go_at_call 11; clear tk0; (with_reducible refine (of_nil _).mono ?_); rintro e w2 ⟨rfl, hb2⟩; have tk1 : Nat := 0; have hB2 := hB1.trans (hb2.mono hB1.size)))
  have hK : K1 w (w2.alloc (.cells #[.slice none 0 0] 40)) w2.heap.size none 0 0 (setL []) := by
    refine ⟨hB2.alloc hB2.size _, hB2.size, by simp, (new1 _ _ _).1, (new1 _ _ _).2, ?_⟩
    rw [setL_nil]; exact Bs.nil _
  generalize w2.heap.size = B at hK
  generalize (w2.alloc (.cells #[.slice none 0 0] 40)) = w3 at hK ⊢
  clear hb2 hB2 hB1
  rcases h4 with ⟨rfl, rfl, rfl⟩ | ⟨b, o, rfl, hb, hc⟩
  · go_upto_block 0 with fail
    go_cut [] (fun wx => ∃ (a : Option Addr) (n1 c : Nat), K1 w wx B a n1 c S)
    case first =>
      go_wp2_with fail
      go_loopw [25] (fun v wr => v = .int .i64 0 ∧ wr = w3) (fun _ _ => 0)
      case atStart => exact ⟨rfl, rfl⟩
      case round =>
        obtain ⟨rfl, rfl⟩ := hrel
        go_wp2_with fail
        go_meet
        have e0 : vals zs = [] := by
          have : zs = [] := List.eq_nil_of_length_eq_zero HL.out
          rw [this]; rfl
        refine ⟨none, 0, 0, ?_⟩
        rw [← HSE.out, e0]
        exact hK
    case rest =>
      obtain ⟨a, n1, c, hK⟩ := hcut
      cases comma with
      | false =>
        have hz1 := hK.1
        obtain ⟨tx, htx⟩ : ∃ tx : ByteArray, ⟨(textB S).toArray⟩ = tx := ⟨_, rfl⟩
        obtain ⟨ty, hty⟩ : ∃ ty : ByteArray, ⟨(jn 32 S).toArray⟩ = ty := ⟨_, rfl⟩
        have hx1 : tx.size ≤ 1000 := by rw [← htx]; exact HTS.out.1
        have hy1 : ty.size ≤ 1000 := by rw [← hty]; exact HTS.out.2 32
        obtain ⟨ts, hts1, hts2⟩ := scan_nums false S HS1.out HS2.out
        have hsl : scanP ty.data.toList = (ts, 0, 0) := by rw [← hty]; exact hts1
        have HT := Lib.hid (text_any a n1 c S wc hK.2.2.2.2.2 (HW.out _ hK.1).tz (HW.out _ hK.1).pow)
        rw [htx] at HT
        have HTR := Lib.hid (fun W => trim_c S tx htx (by omega) W)
        rw [hty] at HTR
        have hsc := fun W => scan_any ty W (by omega)
        unfold ScanPost at hsc
        simp only [hsl] at hsc
        have HSC := Lib.hid hsc
        have hat : TokAt ts 0 false S := hts2
        have htl : ts.length ≤ 1000000 := by have h1 := congrArg List.length hts2; have h2 := plain_len false S; have h3 := HS2.out; rw [List.length_map] at h1; omega
        have HAT := Lib.hid hat
        clear htx hty hts1 hts2 hsl hsc hat
        have hK0 := hK.2.2.2.1
        have tk2 : Nat := 0
        go_upto_block 2 with (first
          | (go_at_call 13; (with_reducible refine HT.out.mono ?_); rintro e w4 ⟨rfl, hb4⟩; have hK4 := hK.below hb4)
          | (go_at_call 10; (with_reducible refine (HTR.out _).mono ?_); rintro e w5 ⟨rfl, hb5⟩; have hK5 := hK4.below hb5; have hB5 := hK5.1)
          | (go_at_call 7; (with_reducible refine (HSC.out _).mono ?_); rintro e w7 ⟨v7, rfl, hb7, hown7⟩; have hK7 := hK5.below hb7; have hsl7 := Sl.owned hown7)
          | (go_at_call 15; (with_reducible refine (newreader_any v7 ts.length ts _ hsl7 rfl htl).mono ?_); rintro e w8 ⟨g, rfl, hb8, hg8, hgs, hrd8⟩; have hK8 := hK7.below hb8)
          | (go_at_call 11; (with_reducible refine (of_nil _).mono ?_); rintro e w9 ⟨rfl, hb9⟩; have hK9 := hK8.below hb9))
        have hst : St w (w9.alloc (.cells #[.slice none 0 0] 40)) g B w9.heap.size ts 0 a n1 c S none 0 0 (setL []) := by
          have hz8 := hb8.size
          have hz9 := hb9.size
          have hKA := hK9.below ((RowKit.Below.refl w9.heap.size w9).alloc (Nat.le_refl _) (.cells #[.slice none 0 0] 40))
          obtain ⟨j1, j2, j3, j4, j5, j6⟩ := hKA
          have e7 := hK7.2.2.1; have e7b := hK7.1.size
          exact { bel := j1, rd := ((hrd8 w9.heap.size (.inr hz9)).below hb9).below ((RowKit.Below.refl w9.heap.size w9).alloc (Nat.le_refl _) _), ord := ⟨by omega, by omega, by omega, by omega, by omega, j3, by simp, by simp; omega⟩
                  x1 := j4, x2 := (new1 _ _ _).1, f2 := (new1 _ _ _).2, s1 := j6, s2 := by (rw [setL_nil]; exact Bs.nil _), t1 := bs_apt hK7.2.2.2.2.2 hg8, t2 := fun b o e => by (cases e) }
        generalize w9.heap.size = B2 at hst
        generalize (w9.alloc (.cells #[.slice none 0 0] 40)) = w10 at hst ⊢
        clear hb9 hK9 hK8 hrd8 hb8 hg8 hgs hK7 hsl7 hown7 hb7 hK5 hb5 hK4 hb4 hK hK0 HT HTR HSC
        go_wp2_with fail
        go_loopw [] (fun wr => ∃ (pos : Nat) (dn r : List Nat) (a2 : Option Addr) (n2 c2 : Nat), Hid (S = dn ++ r) ∧ Hid (TokAt ts pos false r) ∧ pos ≤ ts.length ∧ St w wr g B B2 ts pos a n1 c S a2 n2 c2 (setL dn)) (fun wr => ts.length - posOf wr g)
        case atStart => exact ⟨0, [], S, none, 0, 0, rfl, HAT.out, Nat.zero_le _, hst⟩
        case round =>
          obtain ⟨pos, dn, r, a2, n2, c2, HE, HA, hpos, hst⟩ := hrel
          have HP0 := Lib.hid (Rd.pos hst.rd)
          have HPK := Lib.hid (fun W hr => peek_any W g B2 ts pos 0 0 hr hpos)
          cases r with
          | nil =>
            have hk := (at_end HA.out).1
            obtain ⟨t0, ht0⟩ : ∃ t0, pkF ts pos 0 = t0 := ⟨_, rfl⟩
            rw [ht0] at hk HPK
            unfold aggP at HPK
            rw [hk] at HPK
            have hdn : setL dn = S := by have e := HE.out; rw [List.append_nil] at e; rw [← e]; exact HS3.out
            rw [hdn] at hst
            clear ht0 hk HA HE hdn
            have hfd : ∀ v : World, (Instr.field 30 (.agg #[.int .u8 0, .string ⟨t0.text.toArray⟩, .int .i64 t0.n, .int .i64 t0.pos]) 0).run Tryd.prog v = .ok (.int .u8 0) v := fun _ => by kernel_rfl
            go_upto_region 22 with (go_at_call 16; (with_reducible refine (HPK.out _ hst.rd).mono ?_); rintro e w11 ⟨rfl, hb11⟩; have hst := hst.below hb11)
            have q1 := hst.x1; have q2 := hst.x2
            go_wp2_with (go_at_call 20; (with_reducible refine (equal_any _ _ _ _ _ _ _ _ _ hst.s2 hst.s1).mono ?_); rintro e w12 ⟨rfl, hb12⟩)
            go_ret
            exact ⟨rfl, hst.bel.trans (hb12.mono hst.bel.size)⟩
          | cons x r =>
            have hx : x < 4096 := HS1.out x (by rw [HE.out]; simp)
            obtain ⟨hk, hlt, hv, hp, ho, he, hal, hat⟩ := at_num HA.out hx
            have HAN := Lib.hid hat
            have HNU := fun W hr => number_any W g B2 ts pos 0 0 0 4095 hr hpos
            simp only [hv, hp, ho, he] at HNU
            have HNU := Lib.hid HNU
            have HAC := Lib.hid (fun W hr => accept_any W g B2 ts (pos + 1) 0 0 ⟨#[44]⟩ hr hlt)
            have HEN : Hid (S = (dn ++ [x]) ++ r) := by show S = _; rw [HE.out]; simp
            obtain ⟨t0, ht0⟩ : ∃ t0, pkF ts pos 0 = t0 := ⟨_, rfl⟩
            rw [ht0] at hk HPK
            unfold aggP at HPK
            rw [hk] at HPK
            obtain ⟨bb, hbb⟩ : ∃ bb, isB (pkF ts (pos + 1) 0) ⟨#[44]⟩ = bb := ⟨_, rfl⟩
            rw [hbb] at HAC
            obtain ⟨pos2, hpos2⟩ : ∃ pos2, acF ts (pos + 1) 0 ⟨#[44]⟩ = pos2 := ⟨_, rfl⟩
            have hp2 : pos < pos2 := by rw [← hpos2]; unfold acF; split <;> omega
            rw [hpos2] at HAC HAN hal
            have HER := Lib.hid (fun W hr => err_any tokV W g B2 ts pos2 0 0 hr)
            have hfd : ∀ v : World, (Instr.field 30 (.agg #[.int .u8 2, .string ⟨t0.text.toArray⟩, .int .i64 t0.n, .int .i64 t0.pos]) 0).run Tryd.prog v = .ok (.int .u8 2) v := fun _ => by kernel_rfl
            clear ht0 hk hv hp ho he hat HA HE hbb hpos2
            go_upto_region 17 with (go_at_call 16; (with_reducible refine (HPK.out _ hst.rd).mono ?_); rintro e w11 ⟨rfl, hb11⟩; have hst := hst.below hb11)
            have hst := hst.below (RowKit.Below.refl w11.heap.size w11).drew
            have q2 := hst.x2
            have HST := Lib.hid hst
            refine wp_region_noPanic ?_
            refine wp_region_held_drew (S := fun _ => True) (by kernel_rfl) trivial (fun _ => ?_)
            refine' wpAnyH_take (i := 1) (v := _) rfl (by kernel_rfl) (by kernel_rfl) (by kernel_rfl) (fun _ _ _ h => h) (Or.inl ⟨by rfl, fun w' _ => ?_⟩) trivial ?_; rotate_left; (focus (go_simp <;> (with_reducible rfl))); (try simp only [Act.put, List.setIfInBounds_toArray, List.set_cons_zero, List.set_cons_succ])
            refine wpAnyH_ready (rs := [0, 2]) (by kernel_rfl) (by simp) ?_
            refine AllReadyH.cons rfl (fun K hK => ?_) (AllReadyH.cons rfl (fun K hK => ?_) AllReadyH.nil)
            · go_simp; (try go_wp2_with fail); refine hK.out _ _ trivial (fun _ => ?_); clear hK K; (try simp only [Act.put, List.setIfInBounds_toArray, List.set_cons_zero, List.set_cons_succ])
              refine wpAnyH_ready (rs := [2]) (by kernel_rfl) (by simp) ?_
              refine AllReadyH.cons rfl (fun K hK => ?_) AllReadyH.nil
              · go_simp; go_at_call 17; (with_reducible refine (HNU.out _ hst.rd).mono ?_); rintro e w13 ⟨rfl, hg13, hr13⟩; have hst := hst.read hg13 hr13; have q2 := hst.x2; have s13 := hst.s2; have tA := hst.t2; have tB := hst.ord.2.2.2.2.2.2.2; (try go_wp2_with fail); refine hK.out _ _ trivial (fun _ => ?_); clear hK K; (try simp only [Act.put, List.setIfInBounds_toArray, List.set_cons_zero, List.set_cons_succ])
                refine wpAnyH_ready (rs := [3]) (by kernel_rfl) (by simp) ?_
                refine AllReadyH.cons rfl (fun K hK => ?_) AllReadyH.nil
                · go_simp; go_at_call 12; (with_reducible refine (withN_any _ _ _ _ _ _ s13).mono ?_); rintro e w14 ⟨a', n', c', rfl, hs14, hb14, hn14⟩; have hst := hst.below hb14; have q2 := hst.x2; have f2 := hst.f2; (try go_wp2_with fail); refine hK.out _ _ trivial (fun _ => ?_); clear hK K; (try simp only [Act.put, List.setIfInBounds_toArray, List.set_cons_zero, List.set_cons_succ])
                  refine wpAnyH_ready (rs := [4]) (by kernel_rfl) (by simp) ?_
                  refine AllReadyH.cons rfl (fun K hK => ?_) AllReadyH.nil
                  · go_simp; (try go_wp2_with fail); refine hK.out _ _ trivial (fun _ => ?_); clear hK K; (try simp only [Act.put, List.setIfInBounds_toArray, List.set_cons_zero, List.set_cons_succ])
                    refine wpAnyH_done (by kernel_rfl) (NoPanic.normal ?_) _
                    have hst15 := hst.store hs14 (apt_new tA tB hn14)
                    rw [with_setL _ _ hx] at hst15
                    clear hst hs14 hb14 hg13 hr13 hb11 q2 s13 f2 hn14 HST HNU HPK hfd hpos hlt tA tB
                    go_wp2_with (first
                      | (go_at_call 18; (with_reducible refine (HAC.out _ hst15.rd).mono ?_); rintro e w16 ⟨rfl, hg16, hr16⟩; have hst16 := hst15.read hg16 hr16)
                      | (go_at_call 19; (with_reducible refine (HER.out _ hst16.rd).mono ?_); rintro e w17 ⟨rfl, hb17⟩; have hst17 := hst16.below hb17))
                    go_roundw
                    case rel => exact ⟨pos2, dn ++ [x], r, a', n', c', HEN, HAN, hal, hst17⟩
                    case measure => rw [HP0.out, Rd.pos hst17.rd]; omega
            · go_simp; go_at_call 17; (with_reducible refine (HNU.out _ hst.rd).mono ?_); rintro e w13 ⟨rfl, hg13, hr13⟩; have hst := hst.read hg13 hr13; have q2 := hst.x2; have s13 := hst.s2; have tA := hst.t2; have tB := hst.ord.2.2.2.2.2.2.2; (try go_wp2_with fail); refine hK.out _ _ trivial (fun _ => ?_); clear hK K; (try simp only [Act.put, List.setIfInBounds_toArray, List.set_cons_zero, List.set_cons_succ])
              refine wpAnyH_ready (rs := [0]) (by kernel_rfl) (by simp) ?_
              refine AllReadyH.cons rfl (fun K hK => ?_) AllReadyH.nil
              · go_simp; (try go_wp2_with fail); refine hK.out _ _ trivial (fun _ => ?_); clear hK K; (try simp only [Act.put, List.setIfInBounds_toArray, List.set_cons_zero, List.set_cons_succ])
                refine wpAnyH_ready (rs := [3]) (by kernel_rfl) (by simp) ?_
                refine AllReadyH.cons rfl (fun K hK => ?_) AllReadyH.nil
                · go_simp; go_at_call 12; (with_reducible refine (withN_any _ _ _ _ _ _ s13).mono ?_); rintro e w14 ⟨a', n', c', rfl, hs14, hb14, hn14⟩; have hst := hst.below hb14; have q2 := hst.x2; have f2 := hst.f2; (try go_wp2_with fail); refine hK.out _ _ trivial (fun _ => ?_); clear hK K; (try simp only [Act.put, List.setIfInBounds_toArray, List.set_cons_zero, List.set_cons_succ])
                  refine wpAnyH_ready (rs := [4]) (by kernel_rfl) (by simp) ?_
                  refine AllReadyH.cons rfl (fun K hK => ?_) AllReadyH.nil
                  · go_simp; (try go_wp2_with fail); refine hK.out _ _ trivial (fun _ => ?_); clear hK K; (try simp only [Act.put, List.setIfInBounds_toArray, List.set_cons_zero, List.set_cons_succ])
                    refine wpAnyH_done (by kernel_rfl) (NoPanic.normal ?_) _
                    have hst15 := hst.store hs14 (apt_new tA tB hn14)
                    rw [with_setL _ _ hx] at hst15
                    clear hst hs14 hb14 hg13 hr13 hb11 q2 s13 f2 hn14 HST HNU HPK hfd hpos hlt tA tB
                    go_wp2_with (first
                      | (go_at_call 18; (with_reducible refine (HAC.out _ hst15.rd).mono ?_); rintro e w16 ⟨rfl, hg16, hr16⟩; have hst16 := hst15.read hg16 hr16)
                      | (go_at_call 19; (with_reducible refine (HER.out _ hst16.rd).mono ?_); rintro e w17 ⟨rfl, hb17⟩; have hst17 := hst16.below hb17))
                    go_roundw
                    case rel => exact ⟨pos2, dn ++ [x], r, a', n', c', HEN, HAN, hal, hst17⟩
                    case measure => rw [HP0.out, Rd.pos hst17.rd]; omega
      | true =>
        have hz1 := hK.1
        obtain ⟨tx, htx⟩ : ∃ tx : ByteArray, ⟨(textB S).toArray⟩ = tx := ⟨_, rfl⟩
        obtain ⟨ty, hty⟩ : ∃ ty : ByteArray, ⟨(jn 32 S).toArray⟩ = ty := ⟨_, rfl⟩
        obtain ⟨tw, htw⟩ : ∃ tw : ByteArray, ⟨(jn 44 S).toArray⟩ = tw := ⟨_, rfl⟩
        have hx1 : tx.size ≤ 1000 := by rw [← htx]; exact HTS.out.1
        have hy1 : ty.size ≤ 1000 := by rw [← hty]; exact HTS.out.2 32
        have hw1 : tw.size ≤ 1000 := by rw [← htw]; exact HTS.out.2 44
        obtain ⟨ts, hts1, hts2⟩ := scan_nums true S HS1.out HS2.out
        have hsl : scanP tw.data.toList = (ts, 0, 0) := by rw [← htw]; exact hts1
        have HT := Lib.hid (text_any a n1 c S wc hK.2.2.2.2.2 (HW.out _ hK.1).tz (HW.out _ hK.1).pow)
        rw [htx] at HT
        have HTR := Lib.hid (fun W => trim_c S tx htx (by omega) W)
        rw [hty] at HTR
        have HRP := Lib.hid (fun W hW => repl_c S ty hty (by omega) W hW)
        rw [htw] at HRP
        have hsc := fun W => scan_any tw W (by omega)
        unfold ScanPost at hsc
        simp only [hsl] at hsc
        have HSC := Lib.hid hsc
        have hat : TokAt ts 0 true S := hts2
        have htl : ts.length ≤ 1000000 := by have h1 := congrArg List.length hts2; have h2 := plain_len true S; have h3 := HS2.out; rw [List.length_map] at h1; omega
        have HAT := Lib.hid hat
        clear htx hty hts1 hts2 hsl hsc hat htw
        have hK0 := hK.2.2.2.1
        have tk2 : Nat := 0
        go_upto_block 2 with (first
          | (go_at_call 13; (with_reducible refine HT.out.mono ?_); rintro e w4 ⟨rfl, hb4⟩; have hK4 := hK.below hb4)
          | (go_at_call 10; (with_reducible refine (HTR.out _).mono ?_); rintro e w5 ⟨rfl, hb5⟩; have hK5 := hK4.below hb5; have hB5 := hK5.1)
          | (go_at_call 14; go_loud ((with_reducible refine (HRP.out _ (HW.out _ hB5)).mono ?_); rintro e w6 ⟨rfl, hb6⟩; have hK6 := hK5.below hb6))
          | (go_at_call 7; (with_reducible refine (HSC.out _).mono ?_); rintro e w7 ⟨v7, rfl, hb7, hown7⟩; have hK7 := hK6.below hb7; have hsl7 := Sl.owned hown7)
          | (go_at_call 15; (with_reducible refine (newreader_any v7 ts.length ts _ hsl7 rfl htl).mono ?_); rintro e w8 ⟨g, rfl, hb8, hg8, hgs, hrd8⟩; have hK8 := hK7.below hb8)
          | (go_at_call 11; (with_reducible refine (of_nil _).mono ?_); rintro e w9 ⟨rfl, hb9⟩; have hK9 := hK8.below hb9))
        have hst : St w (w9.alloc (.cells #[.slice none 0 0] 40)) g B w9.heap.size ts 0 a n1 c S none 0 0 (setL []) := by
          have hz8 := hb8.size
          have hz9 := hb9.size
          have hKA := hK9.below ((RowKit.Below.refl w9.heap.size w9).alloc (Nat.le_refl _) (.cells #[.slice none 0 0] 40))
          obtain ⟨j1, j2, j3, j4, j5, j6⟩ := hKA
          have e7 := hK7.2.2.1; have e7b := hK7.1.size
          exact { bel := j1, rd := ((hrd8 w9.heap.size (.inr hz9)).below hb9).below ((RowKit.Below.refl w9.heap.size w9).alloc (Nat.le_refl _) _), ord := ⟨by omega, by omega, by omega, by omega, by omega, j3, by simp, by simp; omega⟩
                  x1 := j4, x2 := (new1 _ _ _).1, f2 := (new1 _ _ _).2, s1 := j6, s2 := by (rw [setL_nil]; exact Bs.nil _), t1 := bs_apt hK7.2.2.2.2.2 hg8, t2 := fun b o e => by (cases e) }
        generalize w9.heap.size = B2 at hst
        generalize (w9.alloc (.cells #[.slice none 0 0] 40)) = w10 at hst ⊢
        clear hb9 hK9 hK8 hrd8 hb8 hg8 hgs hK7 hsl7 hown7 hb7 hK5 hb5 hK4 hb4 hK hK0 HT HTR HSC hK6 hb6 HRP
        go_wp2_with fail
        go_loopw [] (fun wr => ∃ (pos : Nat) (dn r : List Nat) (a2 : Option Addr) (n2 c2 : Nat), Hid (S = dn ++ r) ∧ Hid (TokAt ts pos true r) ∧ pos ≤ ts.length ∧ St w wr g B B2 ts pos a n1 c S a2 n2 c2 (setL dn)) (fun wr => ts.length - posOf wr g)
        case atStart => exact ⟨0, [], S, none, 0, 0, rfl, HAT.out, Nat.zero_le _, hst⟩
        case round =>
          obtain ⟨pos, dn, r, a2, n2, c2, HE, HA, hpos, hst⟩ := hrel
          have HP0 := Lib.hid (Rd.pos hst.rd)
          have HPK := Lib.hid (fun W hr => peek_any W g B2 ts pos 0 0 hr hpos)
          cases r with
          | nil =>
            have hk := (at_end HA.out).1
            obtain ⟨t0, ht0⟩ : ∃ t0, pkF ts pos 0 = t0 := ⟨_, rfl⟩
            rw [ht0] at hk HPK
            unfold aggP at HPK
            rw [hk] at HPK
            have hdn : setL dn = S := by have e := HE.out; rw [List.append_nil] at e; rw [← e]; exact HS3.out
            rw [hdn] at hst
            clear ht0 hk HA HE hdn
            have hfd : ∀ v : World, (Instr.field 30 (.agg #[.int .u8 0, .string ⟨t0.text.toArray⟩, .int .i64 t0.n, .int .i64 t0.pos]) 0).run Tryd.prog v = .ok (.int .u8 0) v := fun _ => by kernel_rfl
            go_upto_region 22 with (go_at_call 16; (with_reducible refine (HPK.out _ hst.rd).mono ?_); rintro e w11 ⟨rfl, hb11⟩; have hst := hst.below hb11)
            have q1 := hst.x1; have q2 := hst.x2
            go_wp2_with (go_at_call 20; (with_reducible refine (equal_any _ _ _ _ _ _ _ _ _ hst.s2 hst.s1).mono ?_); rintro e w12 ⟨rfl, hb12⟩)
            go_ret
            exact ⟨rfl, hst.bel.trans (hb12.mono hst.bel.size)⟩
          | cons x r =>
            have hx : x < 4096 := HS1.out x (by rw [HE.out]; simp)
            obtain ⟨hk, hlt, hv, hp, ho, he, hal, hat⟩ := at_num HA.out hx
            have HAN := Lib.hid hat
            have HNU := fun W hr => number_any W g B2 ts pos 0 0 0 4095 hr hpos
            simp only [hv, hp, ho, he] at HNU
            have HNU := Lib.hid HNU
            have HAC := Lib.hid (fun W hr => accept_any W g B2 ts (pos + 1) 0 0 ⟨#[44]⟩ hr hlt)
            have HEN : Hid (S = (dn ++ [x]) ++ r) := by show S = _; rw [HE.out]; simp
            obtain ⟨t0, ht0⟩ : ∃ t0, pkF ts pos 0 = t0 := ⟨_, rfl⟩
            rw [ht0] at hk HPK
            unfold aggP at HPK
            rw [hk] at HPK
            obtain ⟨bb, hbb⟩ : ∃ bb, isB (pkF ts (pos + 1) 0) ⟨#[44]⟩ = bb := ⟨_, rfl⟩
            rw [hbb] at HAC
            obtain ⟨pos2, hpos2⟩ : ∃ pos2, acF ts (pos + 1) 0 ⟨#[44]⟩ = pos2 := ⟨_, rfl⟩
            have hp2 : pos < pos2 := by rw [← hpos2]; unfold acF; split <;> omega
            rw [hpos2] at HAC HAN hal
            have HER := Lib.hid (fun W hr => err_any tokV W g B2 ts pos2 0 0 hr)
            have hfd : ∀ v : World, (Instr.field 30 (.agg #[.int .u8 2, .string ⟨t0.text.toArray⟩, .int .i64 t0.n, .int .i64 t0.pos]) 0).run Tryd.prog v = .ok (.int .u8 2) v := fun _ => by kernel_rfl
            clear ht0 hk hv hp ho he hat HA HE hbb hpos2
            go_upto_region 17 with (go_at_call 16; (with_reducible refine (HPK.out _ hst.rd).mono ?_); rintro e w11 ⟨rfl, hb11⟩; have hst := hst.below hb11)
            have hst := hst.below (RowKit.Below.refl w11.heap.size w11).drew
            have q2 := hst.x2
            have HST := Lib.hid hst
            refine wp_region_noPanic ?_
            refine wp_region_held_drew (S := fun _ => True) (by kernel_rfl) trivial (fun _ => ?_)
            refine' wpAnyH_take (i := 1) (v := _) rfl (by kernel_rfl) (by kernel_rfl) (by kernel_rfl) (fun _ _ _ h => h) (Or.inl ⟨by rfl, fun w' _ => ?_⟩) trivial ?_; rotate_left; (focus (go_simp <;> (with_reducible rfl))); (try simp only [Act.put, List.setIfInBounds_toArray, List.set_cons_zero, List.set_cons_succ])
            refine wpAnyH_ready (rs := [0, 2]) (by kernel_rfl) (by simp) ?_
            refine AllReadyH.cons rfl (fun K hK => ?_) (AllReadyH.cons rfl (fun K hK => ?_) AllReadyH.nil)
            · go_simp; (try go_wp2_with fail); refine hK.out _ _ trivial (fun _ => ?_); clear hK K; (try simp only [Act.put, List.setIfInBounds_toArray, List.set_cons_zero, List.set_cons_succ])
              refine wpAnyH_ready (rs := [2]) (by kernel_rfl) (by simp) ?_
              refine AllReadyH.cons rfl (fun K hK => ?_) AllReadyH.nil
              · go_simp; go_at_call 17; (with_reducible refine (HNU.out _ hst.rd).mono ?_); rintro e w13 ⟨rfl, hg13, hr13⟩; have hst := hst.read hg13 hr13; have q2 := hst.x2; have s13 := hst.s2; have tA := hst.t2; have tB := hst.ord.2.2.2.2.2.2.2; (try go_wp2_with fail); refine hK.out _ _ trivial (fun _ => ?_); clear hK K; (try simp only [Act.put, List.setIfInBounds_toArray, List.set_cons_zero, List.set_cons_succ])
                refine wpAnyH_ready (rs := [3]) (by kernel_rfl) (by simp) ?_
                refine AllReadyH.cons rfl (fun K hK => ?_) AllReadyH.nil
                · go_simp; go_at_call 12; (with_reducible refine (withN_any _ _ _ _ _ _ s13).mono ?_); rintro e w14 ⟨a', n', c', rfl, hs14, hb14, hn14⟩; have hst := hst.below hb14; have q2 := hst.x2; have f2 := hst.f2; (try go_wp2_with fail); refine hK.out _ _ trivial (fun _ => ?_); clear hK K; (try simp only [Act.put, List.setIfInBounds_toArray, List.set_cons_zero, List.set_cons_succ])
                  refine wpAnyH_ready (rs := [4]) (by kernel_rfl) (by simp) ?_
                  refine AllReadyH.cons rfl (fun K hK => ?_) AllReadyH.nil
                  · go_simp; (try go_wp2_with fail); refine hK.out _ _ trivial (fun _ => ?_); clear hK K; (try simp only [Act.put, List.setIfInBounds_toArray, List.set_cons_zero, List.set_cons_succ])
                    refine wpAnyH_done (by kernel_rfl) (NoPanic.normal ?_) _
                    have hst15 := hst.store hs14 (apt_new tA tB hn14)
                    rw [with_setL _ _ hx] at hst15
                    clear hst hs14 hb14 hg13 hr13 hb11 q2 s13 f2 hn14 HST HNU HPK hfd hpos hlt tA tB
                    go_wp2_with (first
                      | (go_at_call 18; (with_reducible refine (HAC.out _ hst15.rd).mono ?_); rintro e w16 ⟨rfl, hg16, hr16⟩; have hst16 := hst15.read hg16 hr16)
                      | (go_at_call 19; (with_reducible refine (HER.out _ hst16.rd).mono ?_); rintro e w17 ⟨rfl, hb17⟩; have hst17 := hst16.below hb17))
                    go_roundw
                    case rel => exact ⟨pos2, dn ++ [x], r, a', n', c', HEN, HAN, hal, hst17⟩
                    case measure => rw [HP0.out, Rd.pos hst17.rd]; omega
            · go_simp; go_at_call 17; (with_reducible refine (HNU.out _ hst.rd).mono ?_); rintro e w13 ⟨rfl, hg13, hr13⟩; have hst := hst.read hg13 hr13; have q2 := hst.x2; have s13 := hst.s2; have tA := hst.t2; have tB := hst.ord.2.2.2.2.2.2.2; (try go_wp2_with fail); refine hK.out _ _ trivial (fun _ => ?_); clear hK K; (try simp only [Act.put, List.setIfInBounds_toArray, List.set_cons_zero, List.set_cons_succ])
              refine wpAnyH_ready (rs := [0]) (by kernel_rfl) (by simp) ?_
              refine AllReadyH.cons rfl (fun K hK => ?_) AllReadyH.nil
              · go_simp; (try go_wp2_with fail); refine hK.out _ _ trivial (fun _ => ?_); clear hK K; (try simp only [Act.put, List.setIfInBounds_toArray, List.set_cons_zero, List.set_cons_succ])
                refine wpAnyH_ready (rs := [3]) (by kernel_rfl) (by simp) ?_
                refine AllReadyH.cons rfl (fun K hK => ?_) AllReadyH.nil
                · go_simp; go_at_call 12; (with_reducible refine (withN_any _ _ _ _ _ _ s13).mono ?_); rintro e w14 ⟨a', n', c', rfl, hs14, hb14, hn14⟩; have hst := hst.below hb14; have q2 := hst.x2; have f2 := hst.f2; (try go_wp2_with fail); refine hK.out _ _ trivial (fun _ => ?_); clear hK K; (try simp only [Act.put, List.setIfInBounds_toArray, List.set_cons_zero, List.set_cons_succ])
                  refine wpAnyH_ready (rs := [4]) (by kernel_rfl) (by simp) ?_
                  refine AllReadyH.cons rfl (fun K hK => ?_) AllReadyH.nil
                  · go_simp; (try go_wp2_with fail); refine hK.out _ _ trivial (fun _ => ?_); clear hK K; (try simp only [Act.put, List.setIfInBounds_toArray, List.set_cons_zero, List.set_cons_succ])
                    refine wpAnyH_done (by kernel_rfl) (NoPanic.normal ?_) _
                    have hst15 := hst.store hs14 (apt_new tA tB hn14)
                    rw [with_setL _ _ hx] at hst15
                    clear hst hs14 hb14 hg13 hr13 hb11 q2 s13 f2 hn14 HST HNU HPK hfd hpos hlt tA tB
                    go_wp2_with (first
                      | (go_at_call 18; (with_reducible refine (HAC.out _ hst15.rd).mono ?_); rintro e w16 ⟨rfl, hg16, hr16⟩; have hst16 := hst15.read hg16 hr16)
                      | (go_at_call 19; (with_reducible refine (HER.out _ hst16.rd).mono ?_); rintro e w17 ⟨rfl, hb17⟩; have hst17 := hst16.below hb17))
                    go_roundw
                    case rel => exact ⟨pos2, dn ++ [x], r, a', n', c', HEN, HAN, hal, hst17⟩
                    case measure => rw [HP0.out, Rd.pos hst17.rd]; omega
  · have HC := Lib.hid hc
    clear hc
    obtain ⟨m, hm⟩ : ∃ m : Nat, m = min n 20 := ⟨_, rfl⟩
    have e1 : max (min (n : Int) 20) 0 = (m : Int) := by omega
    have e2 : (min (n : Int) 20).toNat = m := by omega
    have hmn : m ≤ n := by omega
    have hm20 : m ≤ 20 := by omega
    have HM := Lib.hid hm
    clear hm
    go_upto_block 0 with fail
    go_cut [] (fun wx => ∃ (a : Option Addr) (n1 c : Nat), K1 w wx B a n1 c S)
    case first =>
      go_wp2_with fail
      go_loopw [25] (fun v wr => ∃ (k : Nat) (a : Option Addr) (n1 c : Nat), k ≤ m ∧ v = .int .i64 k ∧ K1 w wr B a n1 c (setL ((vals zs).take k))) (fun v _ => m - (intOf v).toNat)
      case atStart => exact ⟨0, none, 0, 0, Nat.zero_le _, rfl, hK⟩
      case round =>
        obtain ⟨k, a, n1, c, hk, rfl, hKr⟩ := hrel
        have hk0 : (0 : Int) ≤ (k : Int) := Int.natCast_nonneg _
        by_cases hlt : k < m
        · have hk1 : (k : Int) < (m : Int) := by omega
          obtain ⟨x, hx⟩ : ∃ x, zs[k]? = some x := ⟨_, List.getElem?_eq_getElem (by rw [HL.out]; omega)⟩
          obtain ⟨hx1, hx2⟩ := HC.out k x hx
          have cx := (hKr.1.cell (p := ⟨b, o + k, none⟩) hb).trans hx2
          have HTK : Hid (setL ((vals zs).take (k + 1)) = withL (setL ((vals zs).take k)) ((x % 4096 : Nat) : Int)) := by
            show _ = _
            rw [take_get (vals_get hx (by omega)), with_setL _ _ (Nat.mod_lt _ (by decide))]
          obtain ⟨y, hy⟩ : ∃ y, x % 4096 = y := ⟨_, rfl⟩
          have e4 : (x : Int).tmod 4096 = (y : Int) := by rw [Int.tmod_eq_emod_of_nonneg (by omega)]; omega
          rw [hy] at HTK
          clear hy
          have q4 := hKr.2.2.2.1
          have q5 := hKr.2.2.2.2.1
          have HWI := Lib.hid (fun i => withN_any a n1 c _ i wr hKr.2.2.2.2.2)
          clear hx hx2
          go_wp2_with (go_at_call 12; (with_reducible refine (HWI.out _).mono ?_); rintro e w4 ⟨a', n', c', rfl, hs4, hb4, -⟩; have hK4 := hKr.below hb4; have q6 := hK4.2.2.2.1; have q7 := hK4.2.2.2.2.1)
          go_roundw
          case rel =>
            refine ⟨k + 1, a', n', c', by omega, by go_num, ?_⟩
            rw [HTK.out]
            exact hK4.store hs4
          case measure => simp [intOf]; omega
        · obtain rfl : k = m := by omega
          go_wp2_with fail
          go_meet
          refine ⟨a, n1, c, ?_⟩
          have e : (vals zs).take k = vals zs := List.take_of_length_le (by unfold vals; rw [List.length_map, List.length_take, HL.out]; have := HM.out; omega)
          rw [e, HSE.out] at hKr
          exact hKr
    case rest =>
      obtain ⟨a, n1, c, hK⟩ := hcut
      cases comma with
      | false =>
        have hz1 := hK.1
        obtain ⟨tx, htx⟩ : ∃ tx : ByteArray, ⟨(textB S).toArray⟩ = tx := ⟨_, rfl⟩
        obtain ⟨ty, hty⟩ : ∃ ty : ByteArray, ⟨(jn 32 S).toArray⟩ = ty := ⟨_, rfl⟩
        have hx1 : tx.size ≤ 1000 := by rw [← htx]; exact HTS.out.1
        have hy1 : ty.size ≤ 1000 := by rw [← hty]; exact HTS.out.2 32
        obtain ⟨ts, hts1, hts2⟩ := scan_nums false S HS1.out HS2.out
        have hsl : scanP ty.data.toList = (ts, 0, 0) := by rw [← hty]; exact hts1
        have HT := Lib.hid (text_any a n1 c S wc hK.2.2.2.2.2 (HW.out _ hK.1).tz (HW.out _ hK.1).pow)
        rw [htx] at HT
        have HTR := Lib.hid (fun W => trim_c S tx htx (by omega) W)
        rw [hty] at HTR
        have hsc := fun W => scan_any ty W (by omega)
        unfold ScanPost at hsc
        simp only [hsl] at hsc
        have HSC := Lib.hid hsc
        have hat : TokAt ts 0 false S := hts2
        have htl : ts.length ≤ 1000000 := by have h1 := congrArg List.length hts2; have h2 := plain_len false S; have h3 := HS2.out; rw [List.length_map] at h1; omega
        have HAT := Lib.hid hat
        clear htx hty hts1 hts2 hsl hsc hat
        have hK0 := hK.2.2.2.1
        have tk2 : Nat := 0
        go_upto_block 2 with (first
          | (go_at_call 13; (with_reducible refine HT.out.mono ?_); rintro e w4 ⟨rfl, hb4⟩; have hK4 := hK.below hb4)
          | (go_at_call 10; (with_reducible refine (HTR.out _).mono ?_); rintro e w5 ⟨rfl, hb5⟩; have hK5 := hK4.below hb5; have hB5 := hK5.1)
          | (go_at_call 7; (with_reducible refine (HSC.out _).mono ?_); rintro e w7 ⟨v7, rfl, hb7, hown7⟩; have hK7 := hK5.below hb7; have hsl7 := Sl.owned hown7)
          | (go_at_call 15; (with_reducible refine (newreader_any v7 ts.length ts _ hsl7 rfl htl).mono ?_); rintro e w8 ⟨g, rfl, hb8, hg8, hgs, hrd8⟩; have hK8 := hK7.below hb8)
          | (go_at_call 11; (with_reducible refine (of_nil _).mono ?_); rintro e w9 ⟨rfl, hb9⟩; have hK9 := hK8.below hb9))
        have hst : St w (w9.alloc (.cells #[.slice none 0 0] 40)) g B w9.heap.size ts 0 a n1 c S none 0 0 (setL []) := by
          have hz8 := hb8.size
          have hz9 := hb9.size
          have hKA := hK9.below ((RowKit.Below.refl w9.heap.size w9).alloc (Nat.le_refl _) (.cells #[.slice none 0 0] 40))
          obtain ⟨j1, j2, j3, j4, j5, j6⟩ := hKA
          have e7 := hK7.2.2.1; have e7b := hK7.1.size
          exact { bel := j1, rd := ((hrd8 w9.heap.size (.inr hz9)).below hb9).below ((RowKit.Below.refl w9.heap.size w9).alloc (Nat.le_refl _) _), ord := ⟨by omega, by omega, by omega, by omega, by omega, j3, by simp, by simp; omega⟩
                  x1 := j4, x2 := (new1 _ _ _).1, f2 := (new1 _ _ _).2, s1 := j6, s2 := by (rw [setL_nil]; exact Bs.nil _), t1 := bs_apt hK7.2.2.2.2.2 hg8, t2 := fun b o e => by (cases e) }
        generalize w9.heap.size = B2 at hst
        generalize (w9.alloc (.cells #[.slice none 0 0] 40)) = w10 at hst ⊢
        clear hb9 hK9 hK8 hrd8 hb8 hg8 hgs hK7 hsl7 hown7 hb7 hK5 hb5 hK4 hb4 hK hK0 HT HTR HSC
        go_wp2_with fail
        go_loopw [] (fun wr => ∃ (pos : Nat) (dn r : List Nat) (a2 : Option Addr) (n2 c2 : Nat), Hid (S = dn ++ r) ∧ Hid (TokAt ts pos false r) ∧ pos ≤ ts.length ∧ St w wr g B B2 ts pos a n1 c S a2 n2 c2 (setL dn)) (fun wr => ts.length - posOf wr g)
        case atStart => exact ⟨0, [], S, none, 0, 0, rfl, HAT.out, Nat.zero_le _, hst⟩
        case round =>
          obtain ⟨pos, dn, r, a2, n2, c2, HE, HA, hpos, hst⟩ := hrel
          have HP0 := Lib.hid (Rd.pos hst.rd)
          have HPK := Lib.hid (fun W hr => peek_any W g B2 ts pos 0 0 hr hpos)
          cases r with
          | nil =>
            have hk := (at_end HA.out).1
            obtain ⟨t0, ht0⟩ : ∃ t0, pkF ts pos 0 = t0 := ⟨_, rfl⟩
            rw [ht0] at hk HPK
            unfold aggP at HPK
            rw [hk] at HPK
            have hdn : setL dn = S := by have e := HE.out; rw [List.append_nil] at e; rw [← e]; exact HS3.out
            rw [hdn] at hst
            clear ht0 hk HA HE hdn
            have hfd : ∀ v : World, (Instr.field 30 (.agg #[.int .u8 0, .string ⟨t0.text.toArray⟩, .int .i64 t0.n, .int .i64 t0.pos]) 0).run Tryd.prog v = .ok (.int .u8 0) v := fun _ => by kernel_rfl
            go_upto_region 22 with (go_at_call 16; (with_reducible refine (HPK.out _ hst.rd).mono ?_); rintro e w11 ⟨rfl, hb11⟩; have hst := hst.below hb11)
            have q1 := hst.x1; have q2 := hst.x2
            go_wp2_with (go_at_call 20; (with_reducible refine (equal_any _ _ _ _ _ _ _ _ _ hst.s2 hst.s1).mono ?_); rintro e w12 ⟨rfl, hb12⟩)
            go_ret
            exact ⟨rfl, hst.bel.trans (hb12.mono hst.bel.size)⟩
          | cons x r =>
            have hx : x < 4096 := HS1.out x (by rw [HE.out]; simp)
            obtain ⟨hk, hlt, hv, hp, ho, he, hal, hat⟩ := at_num HA.out hx
            have HAN := Lib.hid hat
            have HNU := fun W hr => number_any W g B2 ts pos 0 0 0 4095 hr hpos
            simp only [hv, hp, ho, he] at HNU
            have HNU := Lib.hid HNU
            have HAC := Lib.hid (fun W hr => accept_any W g B2 ts (pos + 1) 0 0 ⟨#[44]⟩ hr hlt)
            have HEN : Hid (S = (dn ++ [x]) ++ r) := by show S = _; rw [HE.out]; simp
            obtain ⟨t0, ht0⟩ : ∃ t0, pkF ts pos 0 = t0 := ⟨_, rfl⟩
            rw [ht0] at hk HPK
            unfold aggP at HPK
            rw [hk] at HPK
            obtain ⟨bb, hbb⟩ : ∃ bb, isB (pkF ts (pos + 1) 0) ⟨#[44]⟩ = bb := ⟨_, rfl⟩
            rw [hbb] at HAC
            obtain ⟨pos2, hpos2⟩ : ∃ pos2, acF ts (pos + 1) 0 ⟨#[44]⟩ = pos2 := ⟨_, rfl⟩
            have hp2 : pos < pos2 := by rw [← hpos2]; unfold acF; split <;> omega
            rw [hpos2] at HAC HAN hal
            have HER := Lib.hid (fun W hr => err_any tokV W g B2 ts pos2 0 0 hr)
            have hfd : ∀ v : World, (Instr.field 30 (.agg #[.int .u8 2, .string ⟨t0.text.toArray⟩, .int .i64 t0.n, .int .i64 t0.pos]) 0).run Tryd.prog v = .ok (.int .u8 2) v := fun _ => by kernel_rfl
            clear ht0 hk hv hp ho he hat HA HE hbb hpos2
            go_upto_region 17 with (go_at_call 16; (with_reducible refine (HPK.out _ hst.rd).mono ?_); rintro e w11 ⟨rfl, hb11⟩; have hst := hst.below hb11)
            have hst := hst.below (RowKit.Below.refl w11.heap.size w11).drew
            have q2 := hst.x2
            have HST := Lib.hid hst
            refine wp_region_noPanic ?_
            refine wp_region_held_drew (S := fun _ => True) (by kernel_rfl) trivial (fun _ => ?_)
            refine' wpAnyH_take (i := 1) (v := _) rfl (by kernel_rfl) (by kernel_rfl) (by kernel_rfl) (fun _ _ _ h => h) (Or.inl ⟨by rfl, fun w' _ => ?_⟩) trivial ?_; rotate_left; (focus (go_simp <;> (with_reducible rfl))); (try simp only [Act.put, List.setIfInBounds_toArray, List.set_cons_zero, List.set_cons_succ])
            refine wpAnyH_ready (rs := [0, 2]) (by kernel_rfl) (by simp) ?_
            refine AllReadyH.cons rfl (fun K hK => ?_) (AllReadyH.cons rfl (fun K hK => ?_) AllReadyH.nil)
            · go_simp; (try go_wp2_with fail); refine hK.out _ _ trivial (fun _ => ?_); clear hK K; (try simp only [Act.put, List.setIfInBounds_toArray, List.set_cons_zero, List.set_cons_succ])
              refine wpAnyH_ready (rs := [2]) (by kernel_rfl) (by simp) ?_
              refine AllReadyH.cons rfl (fun K hK => ?_) AllReadyH.nil
              · go_simp; go_at_call 17; (with_reducible refine (HNU.out _ hst.rd).mono ?_); rintro e w13 ⟨rfl, hg13, hr13⟩; have hst := hst.read hg13 hr13; have q2 := hst.x2; have s13 := hst.s2; have tA := hst.t2; have tB := hst.ord.2.2.2.2.2.2.2; (try go_wp2_with fail); refine hK.out _ _ trivial (fun _ => ?_); clear hK K; (try simp only [Act.put, List.setIfInBounds_toArray, List.set_cons_zero, List.set_cons_succ])
                refine wpAnyH_ready (rs := [3]) (by kernel_rfl) (by simp) ?_
                refine AllReadyH.cons rfl (fun K hK => ?_) AllReadyH.nil
                · go_simp; go_at_call 12; (with_reducible refine (withN_any _ _ _ _ _ _ s13).mono ?_); rintro e w14 ⟨a', n', c', rfl, hs14, hb14, hn14⟩; have hst := hst.below hb14; have q2 := hst.x2; have f2 := hst.f2; (try go_wp2_with fail); refine hK.out _ _ trivial (fun _ => ?_); clear hK K; (try simp only [Act.put, List.setIfInBounds_toArray, List.set_cons_zero, List.set_cons_succ])
                  refine wpAnyH_ready (rs := [4]) (by kernel_rfl) (by simp) ?_
                  refine AllReadyH.cons rfl (fun K hK => ?_) AllReadyH.nil
                  · go_simp; (try go_wp2_with fail); refine hK.out _ _ trivial (fun _ => ?_); clear hK K; (try simp only [Act.put, List.setIfInBounds_toArray, List.set_cons_zero, List.set_cons_succ])
                    refine wpAnyH_done (by kernel_rfl) (NoPanic.normal ?_) _
                    have hst15 := hst.store hs14 (apt_new tA tB hn14)
                    rw [with_setL _ _ hx] at hst15
                    clear hst hs14 hb14 hg13 hr13 hb11 q2 s13 f2 hn14 HST HNU HPK hfd hpos hlt tA tB
                    go_wp2_with (first
                      | (go_at_call 18; (with_reducible refine (HAC.out _ hst15.rd).mono ?_); rintro e w16 ⟨rfl, hg16, hr16⟩; have hst16 := hst15.read hg16 hr16)
                      | (go_at_call 19; (with_reducible refine (HER.out _ hst16.rd).mono ?_); rintro e w17 ⟨rfl, hb17⟩; have hst17 := hst16.below hb17))
                    go_roundw
                    case rel => exact ⟨pos2, dn ++ [x], r, a', n', c', HEN, HAN, hal, hst17⟩
                    case measure => rw [HP0.out, Rd.pos hst17.rd]; omega
            · go_simp; go_at_call 17; (with_reducible refine (HNU.out _ hst.rd).mono ?_); rintro e w13 ⟨rfl, hg13, hr13⟩; have hst := hst.read hg13 hr13; have q2 := hst.x2; have s13 := hst.s2; have tA := hst.t2; have tB := hst.ord.2.2.2.2.2.2.2; (try go_wp2_with fail); refine hK.out _ _ trivial (fun _ => ?_); clear hK K; (try simp only [Act.put, List.setIfInBounds_toArray, List.set_cons_zero, List.set_cons_succ])
              refine wpAnyH_ready (rs := [0]) (by kernel_rfl) (by simp) ?_
              refine AllReadyH.cons rfl (fun K hK => ?_) AllReadyH.nil
              · go_simp; (try go_wp2_with fail); refine hK.out _ _ trivial (fun _ => ?_); clear hK K; (try simp only [Act.put, List.setIfInBounds_toArray, List.set_cons_zero, List.set_cons_succ])
                refine wpAnyH_ready (rs := [3]) (by kernel_rfl) (by simp) ?_
                refine AllReadyH.cons rfl (fun K hK => ?_) AllReadyH.nil
                · go_simp; go_at_call 12; (with_reducible refine (withN_any _ _ _ _ _ _ s13).mono ?_); rintro e w14 ⟨a', n', c', rfl, hs14, hb14, hn14⟩; have hst := hst.below hb14; have q2 := hst.x2; have f2 := hst.f2; (try go_wp2_with fail); refine hK.out _ _ trivial (fun _ => ?_); clear hK K; (try simp only [Act.put, List.setIfInBounds_toArray, List.set_cons_zero, List.set_cons_succ])
                  refine wpAnyH_ready (rs := [4]) (by kernel_rfl) (by simp) ?_
                  refine AllReadyH.cons rfl (fun K hK => ?_) AllReadyH.nil
                  · go_simp; (try go_wp2_with fail); refine hK.out _ _ trivial (fun _ => ?_); clear hK K; (try simp only [Act.put, List.setIfInBounds_toArray, List.set_cons_zero, List.set_cons_succ])
                    refine wpAnyH_done (by kernel_rfl) (NoPanic.normal ?_) _
                    have hst15 := hst.store hs14 (apt_new tA tB hn14)
                    rw [with_setL _ _ hx] at hst15
                    clear hst hs14 hb14 hg13 hr13 hb11 q2 s13 f2 hn14 HST HNU HPK hfd hpos hlt tA tB
                    go_wp2_with (first
                      | (go_at_call 18; (with_reducible refine (HAC.out _ hst15.rd).mono ?_); rintro e w16 ⟨rfl, hg16, hr16⟩; have hst16 := hst15.read hg16 hr16)
                      | (go_at_call 19; (with_reducible refine (HER.out _ hst16.rd).mono ?_); rintro e w17 ⟨rfl, hb17⟩; have hst17 := hst16.below hb17))
                    go_roundw
                    case rel => exact ⟨pos2, dn ++ [x], r, a', n', c', HEN, HAN, hal, hst17⟩
                    case measure => rw [HP0.out, Rd.pos hst17.rd]; omega
      | true =>
        have hz1 := hK.1
        obtain ⟨tx, htx⟩ : ∃ tx : ByteArray, ⟨(textB S).toArray⟩ = tx := ⟨_, rfl⟩
        obtain ⟨ty, hty⟩ : ∃ ty : ByteArray, ⟨(jn 32 S).toArray⟩ = ty := ⟨_, rfl⟩
        obtain ⟨tw, htw⟩ : ∃ tw : ByteArray, ⟨(jn 44 S).toArray⟩ = tw := ⟨_, rfl⟩
        have hx1 : tx.size ≤ 1000 := by rw [← htx]; exact HTS.out.1
        have hy1 : ty.size ≤ 1000 := by rw [← hty]; exact HTS.out.2 32
        have hw1 : tw.size ≤ 1000 := by rw [← htw]; exact HTS.out.2 44
        obtain ⟨ts, hts1, hts2⟩ := scan_nums true S HS1.out HS2.out
        have hsl : scanP tw.data.toList = (ts, 0, 0) := by rw [← htw]; exact hts1
        have HT := Lib.hid (text_any a n1 c S wc hK.2.2.2.2.2 (HW.out _ hK.1).tz (HW.out _ hK.1).pow)
        rw [htx] at HT
        have HTR := Lib.hid (fun W => trim_c S tx htx (by omega) W)
        rw [hty] at HTR
        have HRP := Lib.hid (fun W hW => repl_c S ty hty (by omega) W hW)
        rw [htw] at HRP
        have hsc := fun W => scan_any tw W (by omega)
        unfold ScanPost at hsc
        simp only [hsl] at hsc
        have HSC := Lib.hid hsc
        have hat : TokAt ts 0 true S := hts2
        have htl : ts.length ≤ 1000000 := by have h1 := congrArg List.length hts2; have h2 := plain_len true S; have h3 := HS2.out; rw [List.length_map] at h1; omega
        have HAT := Lib.hid hat
        clear htx hty hts1 hts2 hsl hsc hat htw
        have hK0 := hK.2.2.2.1
        have tk2 : Nat := 0
        go_upto_block 2 with (first
          | (go_at_call 13; (with_reducible refine HT.out.mono ?_); rintro e w4 ⟨rfl, hb4⟩; have hK4 := hK.below hb4)
          | (go_at_call 10; (with_reducible refine (HTR.out _).mono ?_); rintro e w5 ⟨rfl, hb5⟩; have hK5 := hK4.below hb5; have hB5 := hK5.1)
          | (go_at_call 14; go_loud ((with_reducible refine (HRP.out _ (HW.out _ hB5)).mono ?_); rintro e w6 ⟨rfl, hb6⟩; have hK6 := hK5.below hb6))
          | (go_at_call 7; (with_reducible refine (HSC.out _).mono ?_); rintro e w7 ⟨v7, rfl, hb7, hown7⟩; have hK7 := hK6.below hb7; have hsl7 := Sl.owned hown7)
          | (go_at_call 15; (with_reducible refine (newreader_any v7 ts.length ts _ hsl7 rfl htl).mono ?_); rintro e w8 ⟨g, rfl, hb8, hg8, hgs, hrd8⟩; have hK8 := hK7.below hb8)
          | (go_at_call 11; (with_reducible refine (of_nil _).mono ?_); rintro e w9 ⟨rfl, hb9⟩; have hK9 := hK8.below hb9))
        have hst : St w (w9.alloc (.cells #[.slice none 0 0] 40)) g B w9.heap.size ts 0 a n1 c S none 0 0 (setL []) := by
          have hz8 := hb8.size
          have hz9 := hb9.size
          have hKA := hK9.below ((RowKit.Below.refl w9.heap.size w9).alloc (Nat.le_refl _) (.cells #[.slice none 0 0] 40))
          obtain ⟨j1, j2, j3, j4, j5, j6⟩ := hKA
          have e7 := hK7.2.2.1; have e7b := hK7.1.size
          exact { bel := j1, rd := ((hrd8 w9.heap.size (.inr hz9)).below hb9).below ((RowKit.Below.refl w9.heap.size w9).alloc (Nat.le_refl _) _), ord := ⟨by omega, by omega, by omega, by omega, by omega, j3, by simp, by simp; omega⟩
                  x1 := j4, x2 := (new1 _ _ _).1, f2 := (new1 _ _ _).2, s1 := j6, s2 := by (rw [setL_nil]; exact Bs.nil _), t1 := bs_apt hK7.2.2.2.2.2 hg8, t2 := fun b o e => by (cases e) }
        generalize w9.heap.size = B2 at hst
        generalize (w9.alloc (.cells #[.slice none 0 0] 40)) = w10 at hst ⊢
        clear hb9 hK9 hK8 hrd8 hb8 hg8 hgs hK7 hsl7 hown7 hb7 hK5 hb5 hK4 hb4 hK hK0 HT HTR HSC hK6 hb6 HRP
        go_wp2_with fail
        go_loopw [] (fun wr => ∃ (pos : Nat) (dn r : List Nat) (a2 : Option Addr) (n2 c2 : Nat), Hid (S = dn ++ r) ∧ Hid (TokAt ts pos true r) ∧ pos ≤ ts.length ∧ St w wr g B B2 ts pos a n1 c S a2 n2 c2 (setL dn)) (fun wr => ts.length - posOf wr g)
        case atStart => exact ⟨0, [], S, none, 0, 0, rfl, HAT.out, Nat.zero_le _, hst⟩
        case round =>
          obtain ⟨pos, dn, r, a2, n2, c2, HE, HA, hpos, hst⟩ := hrel
          have HP0 := Lib.hid (Rd.pos hst.rd)
          have HPK := Lib.hid (fun W hr => peek_any W g B2 ts pos 0 0 hr hpos)
          cases r with
          | nil =>
            have hk := (at_end HA.out).1
            obtain ⟨t0, ht0⟩ : ∃ t0, pkF ts pos 0 = t0 := ⟨_, rfl⟩
            rw [ht0] at hk HPK
            unfold aggP at HPK
            rw [hk] at HPK
            have hdn : setL dn = S := by have e := HE.out; rw [List.append_nil] at e; rw [← e]; exact HS3.out
            rw [hdn] at hst
            clear ht0 hk HA HE hdn
            have hfd : ∀ v : World, (Instr.field 30 (.agg #[.int .u8 0, .string ⟨t0.text.toArray⟩, .int .i64 t0.n, .int .i64 t0.pos]) 0).run Tryd.prog v = .ok (.int .u8 0) v := fun _ => by kernel_rfl
            go_upto_region 22 with (go_at_call 16; (with_reducible refine (HPK.out _ hst.rd).mono ?_); rintro e w11 ⟨rfl, hb11⟩; have hst := hst.below hb11)
            have q1 := hst.x1; have q2 := hst.x2
            go_wp2_with (go_at_call 20; (with_reducible refine (equal_any _ _ _ _ _ _ _ _ _ hst.s2 hst.s1).mono ?_); rintro e w12 ⟨rfl, hb12⟩)
            go_ret
            exact ⟨rfl, hst.bel.trans (hb12.mono hst.bel.size)⟩
          | cons x r =>
            have hx : x < 4096 := HS1.out x (by rw [HE.out]; simp)
            obtain ⟨hk, hlt, hv, hp, ho, he, hal, hat⟩ := at_num HA.out hx
            have HAN := Lib.hid hat
            have HNU := fun W hr => number_any W g B2 ts pos 0 0 0 4095 hr hpos
            simp only [hv, hp, ho, he] at HNU
            have HNU := Lib.hid HNU
            have HAC := Lib.hid (fun W hr => accept_any W g B2 ts (pos + 1) 0 0 ⟨#[44]⟩ hr hlt)
            have HEN : Hid (S = (dn ++ [x]) ++ r) := by show S = _; rw [HE.out]; simp
            obtain ⟨t0, ht0⟩ : ∃ t0, pkF ts pos 0 = t0 := ⟨_, rfl⟩
            rw [ht0] at hk HPK
            unfold aggP at HPK
            rw [hk] at HPK
            obtain ⟨bb, hbb⟩ : ∃ bb, isB (pkF ts (pos + 1) 0) ⟨#[44]⟩ = bb := ⟨_, rfl⟩
            rw [hbb] at HAC
            obtain ⟨pos2, hpos2⟩ : ∃ pos2, acF ts (pos + 1) 0 ⟨#[44]⟩ = pos2 := ⟨_, rfl⟩
            have hp2 : pos < pos2 := by rw [← hpos2]; unfold acF; split <;> omega
            rw [hpos2] at HAC HAN hal
            have HER := Lib.hid (fun W hr => err_any tokV W g B2 ts pos2 0 0 hr)
            have hfd : ∀ v : World, (Instr.field 30 (.agg #[.int .u8 2, .string ⟨t0.text.toArray⟩, .int .i64 t0.n, .int .i64 t0.pos]) 0).run Tryd.prog v = .ok (.int .u8 2) v := fun _ => by kernel_rfl
            clear ht0 hk hv hp ho he hat HA HE hbb hpos2
            go_upto_region 17 with (go_at_call 16; (with_reducible refine (HPK.out _ hst.rd).mono ?_); rintro e w11 ⟨rfl, hb11⟩; have hst := hst.below hb11)
            have hst := hst.below (RowKit.Below.refl w11.heap.size w11).drew
            have q2 := hst.x2
            have HST := Lib.hid hst
            refine wp_region_noPanic ?_
            refine wp_region_held_drew (S := fun _ => True) (by kernel_rfl) trivial (fun _ => ?_)
            refine' wpAnyH_take (i := 1) (v := _) rfl (by kernel_rfl) (by kernel_rfl) (by kernel_rfl) (fun _ _ _ h => h) (Or.inl ⟨by rfl, fun w' _ => ?_⟩) trivial ?_; rotate_left; (focus (go_simp <;> (with_reducible rfl))); (try simp only [Act.put, List.setIfInBounds_toArray, List.set_cons_zero, List.set_cons_succ])
            refine wpAnyH_ready (rs := [0, 2]) (by kernel_rfl) (by simp) ?_
            refine AllReadyH.cons rfl (fun K hK => ?_) (AllReadyH.cons rfl (fun K hK => ?_) AllReadyH.nil)
            · go_simp; (try go_wp2_with fail); refine hK.out _ _ trivial (fun _ => ?_); clear hK K; (try simp only [Act.put, List.setIfInBounds_toArray, List.set_cons_zero, List.set_cons_succ])
              refine wpAnyH_ready (rs := [2]) (by kernel_rfl) (by simp) ?_
              refine AllReadyH.cons rfl (fun K hK => ?_) AllReadyH.nil
              · go_simp; go_at_call 17; (with_reducible refine (HNU.out _ hst.rd).mono ?_); rintro e w13 ⟨rfl, hg13, hr13⟩; have hst := hst.read hg13 hr13; have q2 := hst.x2; have s13 := hst.s2; have tA := hst.t2; have tB := hst.ord.2.2.2.2.2.2.2; (try go_wp2_with fail); refine hK.out _ _ trivial (fun _ => ?_); clear hK K; (try simp only [Act.put, List.setIfInBounds_toArray, List.set_cons_zero, List.set_cons_succ])
                refine wpAnyH_ready (rs := [3]) (by kernel_rfl) (by simp) ?_
                refine AllReadyH.cons rfl (fun K hK => ?_) AllReadyH.nil
                · go_simp; go_at_call 12; (with_reducible refine (withN_any _ _ _ _ _ _ s13).mono ?_); rintro e w14 ⟨a', n', c', rfl, hs14, hb14, hn14⟩; have hst := hst.below hb14; have q2 := hst.x2; have f2 := hst.f2; (try go_wp2_with fail); refine hK.out _ _ trivial (fun _ => ?_); clear hK K; (try simp only [Act.put, List.setIfInBounds_toArray, List.set_cons_zero, List.set_cons_succ])
                  refine wpAnyH_ready (rs := [4]) (by kernel_rfl) (by simp) ?_
                  refine AllReadyH.cons rfl (fun K hK => ?_) AllReadyH.nil
                  · go_simp; (try go_wp2_with fail); refine hK.out _ _ trivial (fun _ => ?_); clear hK K; (try simp only [Act.put, List.setIfInBounds_toArray, List.set_cons_zero, List.set_cons_succ])
                    refine wpAnyH_done (by kernel_rfl) (NoPanic.normal ?_) _
                    have hst15 := hst.store hs14 (apt_new tA tB hn14)
                    rw [with_setL _ _ hx] at hst15
                    clear hst hs14 hb14 hg13 hr13 hb11 q2 s13 f2 hn14 HST HNU HPK hfd hpos hlt tA tB
                    go_wp2_with (first
                      | (go_at_call 18; (with_reducible refine (HAC.out _ hst15.rd).mono ?_); rintro e w16 ⟨rfl, hg16, hr16⟩; have hst16 := hst15.read hg16 hr16)
                      | (go_at_call 19; (with_reducible refine (HER.out _ hst16.rd).mono ?_); rintro e w17 ⟨rfl, hb17⟩; have hst17 := hst16.below hb17))
                    go_roundw
                    case rel => exact ⟨pos2, dn ++ [x], r, a', n', c', HEN, HAN, hal, hst17⟩
                    case measure => rw [HP0.out, Rd.pos hst17.rd]; omega
            · go_simp; go_at_call 17; (with_reducible refine (HNU.out _ hst.rd).mono ?_); rintro e w13 ⟨rfl, hg13, hr13⟩; have hst := hst.read hg13 hr13; have q2 := hst.x2; have s13 := hst.s2; have tA := hst.t2; have tB := hst.ord.2.2.2.2.2.2.2; (try go_wp2_with fail); refine hK.out _ _ trivial (fun _ => ?_); clear hK K; (try simp only [Act.put, List.setIfInBounds_toArray, List.set_cons_zero, List.set_cons_succ])
              refine wpAnyH_ready (rs := [0]) (by kernel_rfl) (by simp) ?_
              refine AllReadyH.cons rfl (fun K hK => ?_) AllReadyH.nil
              · go_simp; (try go_wp2_with fail); refine hK.out _ _ trivial (fun _ => ?_); clear hK K; (try simp only [Act.put, List.setIfInBounds_toArray, List.set_cons_zero, List.set_cons_succ])
                refine wpAnyH_ready (rs := [3]) (by kernel_rfl) (by simp) ?_
                refine AllReadyH.cons rfl (fun K hK => ?_) AllReadyH.nil
                · go_simp; go_at_call 12; (with_reducible refine (withN_any _ _ _ _ _ _ s13).mono ?_); rintro e w14 ⟨a', n', c', rfl, hs14, hb14, hn14⟩; have hst := hst.below hb14; have q2 := hst.x2; have f2 := hst.f2; (try go_wp2_with fail); refine hK.out _ _ trivial (fun _ => ?_); clear hK K; (try simp only [Act.put, List.setIfInBounds_toArray, List.set_cons_zero, List.set_cons_succ])
                  refine wpAnyH_ready (rs := [4]) (by kernel_rfl) (by simp) ?_
                  refine AllReadyH.cons rfl (fun K hK => ?_) AllReadyH.nil
                  · go_simp; (try go_wp2_with fail); refine hK.out _ _ trivial (fun _ => ?_); clear hK K; (try simp only [Act.put, List.setIfInBounds_toArray, List.set_cons_zero, List.set_cons_succ])
                    refine wpAnyH_done (by kernel_rfl) (NoPanic.normal ?_) _
                    have hst15 := hst.store hs14 (apt_new tA tB hn14)
                    rw [with_setL _ _ hx] at hst15
                    clear hst hs14 hb14 hg13 hr13 hb11 q2 s13 f2 hn14 HST HNU HPK hfd hpos hlt tA tB
                    go_wp2_with (first
                      | (go_at_call 18; (with_reducible refine (HAC.out _ hst15.rd).mono ?_); rintro e w16 ⟨rfl, hg16, hr16⟩; have hst16 := hst15.read hg16 hr16)
                      | (go_at_call 19; (with_reducible refine (HER.out _ hst16.rd).mono ?_); rintro e w17 ⟨rfl, hb17⟩; have hst17 := hst16.below hb17))
                    go_roundw
                    case rel => exact ⟨pos2, dn ++ [x], r, a', n', c', HEN, HAN, hal, hst17⟩
                    case measure => rw [HP0.out, Rd.pos hst17.rd]; omega
end Go.Proofs.YtkmchnggcjmchaaDoor.Ts
