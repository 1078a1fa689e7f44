/- Several of the texts below, joined: RxR RyD RyE. -/
import Derived.Test.YtfjpbkmnlmecgaaGreatDoorRows
import Derived.Test.YtfjpbkmnlmecgaaGreatDoorQgy
import Derived.Test.YtfjpbkmnlmecgaaGreatDoorQha
import Derived.Deep.Slices
import Derived.Lib.SmallJoins
import Derived.Lib.LaidTab
import Derived.Stop.LaidErr
import Derived.Stop.Joined
import Derived.ProofKit
import Derived.LaidMore
import Derived.OpenShut
import Derived.WalkKit
import Derived.ShutString
import Derived.ChangeOld
import Derived.Below
import Derived.Lay
import Derived.LaidOnce
import Derived.Test.YtfjpbkmnlmecgaaGreatDoorQhb
import Derived.Test.YtfjpbkmnlmecgaaGreatDoorQgz
import Derived.Test.YtfjpbkmnlmecgaaGreatDoorQgs
section
/- Bytes and a question that came in, opened. -/
namespace Go.Proofs.YtfjpbkmnlmecgaaGreatDoor.Ru
open Go.ChangeShapes Go.WideShapes Go.ChangeAt Go.RowKit Go.Deep Go.Joins Go.Proofs.YtfjpbkmnlmecgaaGreatDoor Go.Proofs.YtfjpbkmnlmecgaaGreatDoor.Bz
set_option linter.unusedVariables false

theorem cells1_get {w : World} {base : Nat} {a : Addr} {cs : List Value} (h : w.cells? base a 1 = some cs) : ∃ c, cs = [c] ∧ w.cell? (a.add 0) = some c := by
  unfold World.cells? at h
  split at h
  · have hl := mapM_some_length h
    have hg := mapM_some_get h 0 0 (by simp)
    match cs, hl with
    | [c], _ => exact ⟨c, rfl, by simpa using hg⟩
  · cases h
set_option maxRecDepth 100000 in
theorem open_bytes {H : Type} {enc : TypeId × Value → H} {W : World} {base : Nat} {sp : Nat → Bool} {held : Bool} {a : Option Addr} {n cap : Nat} {d : DataW H} {p : List MemPlace}
    (hok : Value.okWide Tryz.prog W .any base 23 (.slice a n cap)) (h : DataW.Trod enc Tryz.prog W 0 sp held 23 (.slice a n cap) d p) : (a = none ∧ n = 0 ∧ cap = 0 ∨ ∃ b o, a = some ⟨b, o, none⟩) ∧ ∃ ps, Bw W a n cap ps := by
  obtain ⟨h1, h2, h3⟩ := ok_addr Tryz.underlying23 hok
  obtain ⟨fuel, hf⟩ := h
  have hf : DataW.trod enc Tryz.prog W 0 sp held fuel 23 [.slice a n cap] = some (d, p) := by simpa [Value.cells] using hf
  have hC : Tryz.prog.cellsOf 5 = 1 := by kernel_rfl
  rcases h3 with ⟨rfl, rfl, rfl⟩ | ⟨b, o, rfl, hb⟩
  · exact ⟨.inl ⟨rfl, rfl, rfl⟩, [], rfl, Nat.le_refl _, by omega, (by simp), .inl rfl⟩
  · refine ⟨.inr ⟨b, o, rfl⟩, ?_⟩
    rcases open_slice Tryz.underlying23 hf with ⟨h0, _⟩ | ⟨ad, len, cp, m, k, D, Pl, h0, _, hle, hcm, hm, _, hel⟩
    · simp at h0
    · simp only [List.cons.injEq, Value.slice.injEq, Option.some.injEq, and_true] at h0
      obtain ⟨rfl, rfl, rfl⟩ := h0
      rw [hC] at hel
      have hnm : n ≤ m := by rw [hm]; split <;> omega
      have helem : ∀ i, i < n → ∃ z : Nat, z < 256 ∧ W.cell? ⟨b, o + i, none⟩ = some (.int .u8 (z : Int)) := by
        intro i hi
        obtain ⟨cs, hc, ht⟩ := hel i (by omega)
        obtain ⟨c, rfl, hg⟩ := cells1_get hc
        obtain ⟨z, hz, _, hw⟩ := DataW.trod_int Tryz.underlying5 ht
        simp only [List.cons.injEq, and_true] at hz
        subst hz
        have hbd := bounds_u8 hw
        rw [addr_add, addr_add] at hg
        exact ⟨z.toNat, by omega, by rw [show ((z.toNat : Nat) : Int) = z by omega]; simpa using hg⟩
      obtain ⟨f, hf⟩ := choose_lt helem
      refine ⟨(List.range n).map f, by simp, h1, h2, fun x hx => ?_, .inr ⟨b, o, rfl, hb, fun j hj => ?_⟩⟩
      · obtain ⟨i, hi, rfl⟩ := List.mem_map.1 hx
        exact (hf i (by simpa using hi)).1
      · rw [(hf j hj).2]
        unfold wd
        rw [List.getD_eq_getElem?_getD, List.getElem?_map, List.getElem?_range hj]; rfl

/-- A question. -/
structure Rask where
  rk : Bool
  tg : Int
  am : Nat
  mm : Nat
  dy : Int
  un : Int
def askV (r : Rask) : Value := .agg #[.bool r.rk, .int .i64 r.tg, .int .u64 (r.am : Nat), .int .u64 (r.mm : Nat), .int .i64 r.dy, .int .i64 r.un]
def AskOk (r : Rask) : Prop := r.am < 18446744073709551616 ∧ r.mm < 18446744073709551616 ∧ -9223372036854775808 ≤ r.dy ∧ r.dy ≤ 9223372036854775807 ∧ -9223372036854775808 ≤ r.un ∧ r.un ≤ 9223372036854775807
theorem bounds_i64 {n : Int} (h : (Lit.int .i64 n).wf = true) : -9223372036854775808 ≤ n ∧ n ≤ 9223372036854775807 := by
  simp [Lit.wf, IntKind.min, IntKind.max, IntKind.signed, IntKind.bits] at h
  omega
set_option maxRecDepth 100000 in
theorem open_ask {H : Type} {enc : TypeId × Value → H} {W : World} {base : Nat} {sp : Nat → Bool} {held : Bool} {v : Value} {d : DataW H} {p : List MemPlace}
    (hok : Value.okWide Tryz.prog W .any base 56 v) (h : DataW.Trod enc Tryz.prog W 0 sp held 56 v d p) : ∃ r : Rask, v = askV r ∧ AskOk r := by
  simp only [Value.okWide, Tryz.underlying56] at hok
  obtain ⟨cs, rfl, -⟩ := hok
  obtain ⟨fuel, hf⟩ := h
  have hf : DataW.trod enc Tryz.prog W 0 sp held fuel 56 cs.toList = some (d, p) := hf
  obtain ⟨xs, n, _, _, hl, hxl, hx⟩ := DataW.trod_struct Tryz.underlying56 hf
  rw [show Tryz.prog.cellsOf 56 = 6 from by kernel_rfl] at hl
  obtain ⟨ls⟩ := cs
  dsimp only at hl hx hf ⊢
  match ls, hl with
  | [a0, a1, a2, a3, a4, a5], _ =>
    have hcb : Tryz.prog.cellsOf 4 = 1 := by kernel_rfl
    have hci : Tryz.prog.cellsOf 3 = 1 := by kernel_rfl
    have hcu : Tryz.prog.cellsOf 29 = 1 := by kernel_rfl
    have h0 : DataW.trod enc Tryz.prog W 0 sp held n 4 (List.take (Tryz.prog.cellsOf 4) (List.drop 0 [a0, a1, a2, a3, a4, a5])) = xs[0]? := hx 0 _ rfl
    have h1 : DataW.trod enc Tryz.prog W 0 sp held n 3 (List.take (Tryz.prog.cellsOf 3) (List.drop 1 [a0, a1, a2, a3, a4, a5])) = xs[1]? := hx 1 _ rfl
    have h2 : DataW.trod enc Tryz.prog W 0 sp held n 29 (List.take (Tryz.prog.cellsOf 29) (List.drop 2 [a0, a1, a2, a3, a4, a5])) = xs[2]? := hx 2 _ rfl
    have h3 : DataW.trod enc Tryz.prog W 0 sp held n 29 (List.take (Tryz.prog.cellsOf 29) (List.drop 3 [a0, a1, a2, a3, a4, a5])) = xs[3]? := hx 3 _ rfl
    have h4 : DataW.trod enc Tryz.prog W 0 sp held n 3 (List.take (Tryz.prog.cellsOf 3) (List.drop 4 [a0, a1, a2, a3, a4, a5])) = xs[4]? := hx 4 _ rfl
    have h5 : DataW.trod enc Tryz.prog W 0 sp held n 3 (List.take (Tryz.prog.cellsOf 3) (List.drop 5 [a0, a1, a2, a3, a4, a5])) = xs[5]? := hx 5 _ rfl
    have hxl : xs.length = 6 := hxl
    rw [hcb] at h0
    rw [hci] at h1 h4 h5
    rw [hcu] at h2 h3
    rw [List.getElem?_eq_getElem (by omega)] at h0 h1 h2 h3 h4 h5
    simp only [List.drop_zero, List.drop_succ_cons, List.take_succ_cons, List.take_zero] at h0 h1 h2 h3 h4 h5
    obtain ⟨z0, hz0, _⟩ := DataW.trod_bool Tryz.underlying4 h0
    obtain ⟨z1, hz1, _, -⟩ := DataW.trod_int Tryz.underlying3 h1
    obtain ⟨z2, hz2, _, hw2⟩ := DataW.trod_int Tryz.underlying29 h2
    obtain ⟨z3, hz3, _, hw3⟩ := DataW.trod_int Tryz.underlying29 h3
    obtain ⟨z4, hz4, _, hw4⟩ := DataW.trod_int Tryz.underlying3 h4
    obtain ⟨z5, hz5, _, hw5⟩ := DataW.trod_int Tryz.underlying3 h5
    simp at hz0 hz1 hz2 hz3 hz4 hz5
    subst hz0 hz1 hz2 hz3 hz4 hz5
    have b2 := bounds_u64 hw2
    have b3 := bounds_u64 hw3
    have b4 := bounds_i64 hw4
    have b5 := bounds_i64 hw5
    refine ⟨⟨z0, z1, z2.toNat, z3.toNat, z4, z5⟩, ?_, by dsimp only; omega, by dsimp only; omega, b4.1, b4.2, b5.1, b5.2⟩
    unfold askV
    dsimp only
    rw [show ((z2.toNat : Nat) : Int) = z2 by omega, show ((z3.toNat : Nat) : Int) = z3 by omega]
end Go.Proofs.YtfjpbkmnlmecgaaGreatDoor.Ru
end

section
/- Make and made of the harness. -/
namespace Go.Proofs.YtfjpbkmnlmecgaaGreatDoor.Ru
open Go.RowKit Go.PlainAid Go.Maps Go.Shelf Go.Proofs.YtfjpbkmnlmecgaaGreatDoor Go.Proofs.YtfjpbkmnlmecgaaGreatDoor.Bz
set_option linter.unusedVariables false
set_option linter.unusedSimpArgs false
set_option maxHeartbeats 4000000
set_option maxRecDepth 20000

theorem hmake_any (pa ra aa : Option Addr) (pn pc rn rc an ac : Nat) (ps : List Nat) (R A : List Int) (w : World) (hp : Bw w pa pn pc ps) (hr : Iw w ra rn rc R) (ha : Iw w aa an ac A) (hR : ∀ x ∈ R, 1 ≤ x ∧ x ≤ 63) (hr0 : 0 < rn) (hr1 : rn ≤ 1000) (ha0 : 0 < an) (ha1 : an ≤ 1000) :
    Calls Tryz.prog 40 #[.slice pa pn pc, .slice ra rn rc, .slice aa an ac] w fun e w' => ∃ a n c b m d l, e = .returned (.tuple #[.slice a n c, .slice b m d]) ∧ Rs 0 w' a n c (l.map toRl) ∧ Fs w' b m d l ∧ (∀ f ∈ l, Val R A f) ∧ l.length ≤ 6 ∧ Below w.heap.size w w' := by
  obtain ⟨i0, hi0, hz0, hz1, hz2⟩ := info_parts infoRule
  have HM := Lib.hid (rmake_any pa ra aa pn pc rn rc an ac ps R A w hp hr ha hR hr0 hr1 ha0 ha1)
  clear hp hr ha hR
  go_enter Tryz.func40, Tryz.ntmps40
  go_wp2_with fail
  (with_reducible refine HM.out.mono ?_)
  rintro e w1 ⟨a, n, c, l, rfl, hfs, hval, hl6, hb1⟩
  obtain ⟨hs, hdk, hall⟩ := hfs
  have hnl : n = l.length := by rw [← hall.1, hdk.1]
  have hn6 : n ≤ 6 := by omega
  have HS := Lib.hid (And.intro hdk (And.intro hall (And.intro hval (And.intro hl6 hnl))))
  clear hdk hall hval hl6 hnl HM
  go_wp2_with fail
  go_loopw [9, 18] (fun v9 v18 wr => ∃ (j : Nat) (gs : List Hr), j ≤ n ∧ v18 = .int .i64 (j : Nat) ∧ gs.length = j ∧ Ok hrE 46 wr w1.heap.size v9 gs ∧ AllR 0 wr gs ((l.take j).map toRl) ∧ Below w1.heap.size w1 wr) (fun _ v _ => n - (intOf v).toNat)
  case atStart => exact ⟨0, [], by omega, rfl, rfl, Ok.nil _ _ _ _, AllR.nil _ _, Below.refl _ _⟩
  case round =>
    obtain ⟨j, gs, hj, rfl, hgs, hown, hallr, hbw⟩ := hrel
    obtain ⟨a9, n9, c9, hv9, hn9, hd9⟩ := Ok.dn (by decide) hown
    subst hv9
    have HGN : Hid (gs.length = j) := hgs
    have hlen7 : gs.length + 1 ≤ 1000000000 := by omega
    have HOWN := Lib.hid hown
    have HALR := Lib.hid hallr
    by_cases hjn : j < n
    · have hj0 : (0 : Int) ≤ ((j : Nat) : Int) := Int.natCast_nonneg _
      have hj1 : ((j : Nat) : Int) < ((n : Nat) : Int) := by omega
      obtain ⟨f, hf⟩ : ∃ f, l[j]? = some f := ⟨_, List.getElem?_eq_getElem (by rw [← HS.out.2.2.2.2]; exact hjn)⟩
      obtain ⟨h, hh⟩ : ∃ h, hs[j]? = some h := ⟨_, List.getElem?_eq_getElem (by rw [HS.out.2.1.1, ← HS.out.2.2.2.2]; exact hjn)⟩
      have hfc := (HS.out.2.1.2 j h f hh hf).below hbw
      obtain ⟨b, o, hab, hbl, hcell⟩ := HS.out.1.at hh
      subst hab
      have hcx := fun (k : Nat) (v : Value) (hk : (hfL h)[k]? = some v) => show wr.cell? ⟨b, o + j * 7 + k, none⟩ = some v from by rw [Nat.add_assoc]; exact (hbw.cell (p := ⟨b, o + (j * 7 + k), none⟩) hbl).trans (hcell k v hk)
      have q0 : wr.cell? ⟨b, o + j * 7, none⟩ = _ := hcx 0 _ rfl
      have q1 := hcx 1 _ rfl
      have q2 := hcx 2 _ rfl
      have q3 := hcx 3 _ rfl
      have q4 := hcx 4 _ rfl
      have q5 := hcx 5 _ rfl
      have q6 := hcx 6 _ rfl
      have HF := Lib.hid hf
      clear hcx hcell hf hh hown hallr hd9 hgs hn9
      obtain ⟨rv, ad, tg, y, z, fa, fn, fc, lg⟩ := h
      dsimp only at q0 q1 q2 q3 q4 q5 q6
      have hv : FrV wr (.agg #[.bool rv, .int .i64 ad, .int .i64 tg, .int .u64 (y : Nat), .int .u64 (z : Nat), .slice fa fn fc, .int .i64 lg]) f := ⟨_, rfl, hfc⟩
      have hb5 : Below wr.heap.size wr (wr.alloc (.cells #[.bool rv, .int .i64 ad, .int .i64 tg, .int .u64 (y : Nat), .int .u64 (z : Nat), .slice fa fn fc, .int .i64 lg] 35)) := (Below.refl _ _).alloc (Nat.le_refl _) _
      have HV := Lib.hid (hv.below hb5)
      clear hv hfc
      go_wp2_with fail
      (with_reducible refine (hrule_v HV.out).mono ?_)
      rintro e w6 ⟨u, rfl, ⟨k, hu, hrw⟩, hb6⟩
      obtain ⟨rv', ad', tg', p1, n1, c1, p2, n2, c2, p3, n3, c3, lg'⟩ := k
      dsimp only [hrL] at hu
      subst hu
      have hb56 := hb5.trans (hb6.mono hb5.size)
      have hoB : Ok hrE 46 w6 w1.heap.size (.slice a9 n9 c9) gs := HOWN.out.below hb56
      have hoA : Ok hrE 46 (w6.alloc (.cells #[.bool rv', .int .i64 ad', .int .i64 tg', .slice p1 n1 c1, .slice p2 n2 c2, .slice p3 n3 c3, .int .i64 lg'] 46)) w1.heap.size (.slice a9 n9 c9) gs := Ok.alloc hoB _
      have hbA : Below w6.heap.size w6 (w6.alloc (.cells #[.bool rv', .int .i64 ad', .int .i64 tg', .slice p1 n1 c1, .slice p2 n2 c2, .slice p3 n3 c3, .int .i64 lg'] 46)) := (Below.refl _ _).alloc (Nat.le_refl _) _
      have hBw6 := hbw.trans (hb56.mono hbw.size)
      have hzt := hBw6.size
      have HALF := Lib.hid (And.intro (HALR.out.below hb56) hrw)
      have HOA := Lib.hid hoA
      clear hoA hoB hrw
      go_wp2_with (at_builtin; refine wpList_append_dk (E := hrE) rfl (.tmp 22) (.tmp 25) 25 46 rfl Tryz.underlying25 w1.heap.size i0 _ 104 hi0 hz0 hz1 hz2 rfl (by decide) (by decide) _ gs rfl HOA.out _ 1 1 [⟨rv', ad', tg', p1, n1, c1, p2, n2, c2, p3, n3, c3, lg'⟩] rfl (Dk.one (E := hrE) w6 ⟨rv', ad', tg', p1, n1, c1, p2, n2, c2, p3, n3, c3, lg'⟩ 46 _ (by simp)) hlen7 (by simp; omega) ?_; intro v8 w8 ho8 hgr8)
      have hfar := own_far HOA.out (by decide) (by decide)
      have hal8 := ((HALF.out.1.below hbA).far hgr8 hfar).snoc ((HALF.out.2.below hbA).far hgr8 hfar)
      have hb8 := (hBw6.trans (hbA.mono hzt)).grown hgr8 (by simp; omega) (fun b hb => (HOWN.out.lt b hb).1)
      have etk : ((l.take (j + 1)).map toRl) = (l.take j).map toRl ++ [toRl f] := by rw [List.take_add_one, HF.out, List.map_append]; rfl
      go_roundw
      case rel => exact ⟨j + 1, gs ++ [⟨rv', ad', tg', p1, n1, c1, p2, n2, c2, p3, n3, c3, lg'⟩], by omega, by go_num, by rw [List.length_append, HGN.out]; rfl, ho8, by rw [etk]; exact hal8, hb8⟩
      case measure => simp [intOf]; omega
    · obtain rfl : j = n := by omega
      have HR : Hid (Rs 0 wr a9 n9 c9 (l.map toRl)) := by
        refine ⟨gs, hd9, ?_⟩
        have h := HALR.out
        rw [List.take_of_length_le (by have := HS.out.2.2.2.2; omega)] at h
        exact h
      have HF : Hid (Fs wr a j c l) := ⟨hs, HS.out.1.below hbw, HS.out.2.1.below hbw⟩
      have HBB := Lib.hid (hb1.trans (hbw.mono hb1.size))
      clear hown hallr hd9
      go_wp2_with fail
      refine bodyPost_ret (v := .tuple #[.slice a9 n9 c9, .slice a j c]) (by simp [results, Tryz.results40, go_sem]) rfl ?_
      exact ⟨a9, n9, c9, a, j, c, l, rfl, HR.out, HF.out, HS.out.2.2.1, HS.out.2.2.2.1, HBB.out⟩
theorem iw_four (w : World) : Iw (w.alloc (.cells #[.int .i64 1, .int .i64 2, .int .i64 3, .int .i64 4] 3)) (some ⟨w.heap.size, 0, none⟩) 4 4 [1, 2, 3, 4] := by
  refine ⟨rfl, Nat.le_refl _, by omega, .inr ⟨_, 0, rfl, by simp, fun j hj => ?_⟩⟩
  match j, hj with
  | 0, _ => simp [go_sem, zg]
  | 1, _ => simp [go_sem, zg]
  | 2, _ => simp [go_sem, zg]
  | 3, _ => simp [go_sem, zg]
  | j + 4, hj => omega
theorem iw_56 (w : World) : Iw (w.alloc (.cells #[.int .i64 5, .int .i64 6] 3)) (some ⟨w.heap.size, 0, none⟩) 2 2 [5, 6] := by
  refine ⟨rfl, Nat.le_refl _, by omega, .inr ⟨_, 0, rfl, by simp, fun j hj => ?_⟩⟩
  match j, hj with
  | 0, _ => simp [go_sem, zg]
  | 1, _ => simp [go_sem, zg]
  | j + 2, hj => omega
/-- The rules made of bytes, about the six roles. -/
def MadeP (w : World) (e : Ending) (w' : World) : Prop := ∃ a n c b m d l, e = .returned (.tuple #[.slice a n c, .slice b m d]) ∧ Rs 0 w' a n c (l.map toRl) ∧ Fs w' b m d l ∧ (∀ f ∈ l, Val [1, 2, 3, 4] [5, 6] f) ∧ l.length ≤ 6 ∧ Below w.heap.size w w'
theorem made_any (pa : Option Addr) (pn pc : Nat) (ps : List Nat) (w : World) (hp : Bw w pa pn pc ps) :
    Calls Tryz.prog 13 #[.slice pa pn pc] w (MadeP w) := by
  have hb1 : Below w.heap.size w (w.alloc (.cells #[.int .i64 1, .int .i64 2, .int .i64 3, .int .i64 4] 3)) := (Below.refl _ _).alloc (Nat.le_refl _) _
  have hb2 : Below (w.alloc (.cells #[.int .i64 1, .int .i64 2, .int .i64 3, .int .i64 4] 3)).heap.size (w.alloc (.cells #[.int .i64 1, .int .i64 2, .int .i64 3, .int .i64 4] 3)) ((w.alloc (.cells #[.int .i64 1, .int .i64 2, .int .i64 3, .int .i64 4] 3)).alloc (.cells #[.int .i64 5, .int .i64 6] 3)) := (Below.refl _ _).alloc (Nat.le_refl _) _
  have hb12 := hb1.trans (hb2.mono hb1.size)
  have h56 := iw_56 (w.alloc (.cells #[.int .i64 1, .int .i64 2, .int .i64 3, .int .i64 4] 3))
  rw [World.size_alloc] at h56
  have HM := Lib.hid (hmake_any pa _ _ pn pc 4 4 2 2 ps [1, 2, 3, 4] [5, 6] _ (hp.below hb12) ((iw_four w).below hb2) h56 (by decide) (by omega) (by omega) (by omega) (by omega))
  have HB := Lib.hid hb12
  clear hp hb1 hb2 hb12 h56
  go_enter Tryz.func13, Tryz.ntmps13
  go_wp2_with fail
  refine HM.out.mono ?_
  rintro e w1 ⟨a, n, c, b, m, d, l, rfl, hr, hf, hv, hl, hb⟩
  have HR := Lib.hid hr
  have HF := Lib.hid hf
  have HV := Lib.hid hv
  have HBB := Lib.hid (HB.out.trans (hb.mono HB.out.size))
  clear hr hf hv hb
  go_wp2_with fail
  refine bodyPost_ret (v := .tuple #[.slice a n c, .slice b m d]) (by simp [results, Tryz.results13, go_sem]) rfl ?_
  exact ⟨a, n, c, b, m, d, l, rfl, HR.out, HF.out, HV.out, hl, HBB.out⟩
end Go.Proofs.YtfjpbkmnlmecgaaGreatDoor.Ru
end

section
/- The plain law of RuleGrows. -/
namespace Go.Proofs.YtfjpbkmnlmecgaaGreatDoor.Ru
open Go.RowKit Go.PlainAid Go.Maps Go.Shelf Go.Proofs.YtfjpbkmnlmecgaaGreatDoor Go.Proofs.YtfjpbkmnlmecgaaGreatDoor.Bz
set_option linter.unusedVariables false
set_option linter.unusedSimpArgs false
set_option maxHeartbeats 8000000
set_option maxRecDepth 20000

theorem perm_iff {r : Rl} {m : List Nat} {d u : Int} : permB r m d u = true ↔ r.revoke = false ∧ Dy.Dm r.days d = true ∧ holdsC (r.yes, r.no) m = true ∧ d ≤ u ∧ u ≤ 30000 ∧ (r.longest = 0 ∨ u - d + 1 ≤ r.longest) := by
  unfold permB
  simp only [Bool.and_eq_true, Bool.not_eq_true', Bool.or_eq_true, decide_eq_true_eq]
theorem grows {r : Rl} {m : List Nat} {d u : Int} (h : permB r m d u = true) : r.revoke = false ∧ holdsC (r.yes, r.no) m = true ∧ permB r m d d = true ∧ d ≤ u ∧ permB r m d (d + (u - d) / 2) = true := by
  obtain ⟨h1, h2, h3, h4, h5, h6⟩ := perm_iff.1 h
  refine ⟨h1, h3, perm_iff.2 ⟨h1, h2, h3, Int.le_refl _, by omega, by omega⟩, h4, perm_iff.2 ⟨h1, h2, h3, by omega, by omega, by omega⟩⟩
theorem grows_more {r : Rl} {m k : List Nat} {d u : Int} (ha : Asc m) (hn : r.no = []) (h : permB r m d u = true) : permB r (orL m k) d u = true := by
  obtain ⟨h1, h2, h3, h4, h5, h6⟩ := perm_iff.1 h
  refine perm_iff.2 ⟨h1, h2, ?_, h4, h5, h6⟩
  unfold holdsC subB meetB at h3 ⊢
  dsimp only at h3 ⊢
  rw [hn] at h3 ⊢
  simp only [Bool.and_eq_true, Bool.not_eq_true', decide_eq_true_eq, decide_eq_false_iff_not] at h3 ⊢
  refine ⟨fun x hx => ?_, fun ⟨x, hx, _⟩ => by cases hx⟩
  have := h3.1 x hx
  unfold orL
  simp only [List.mem_filter, List.mem_range, Bool.or_eq_true, decide_eq_true_eq]
  exact ⟨ha.2 x this, .inl this⟩
theorem Rw.asc {N : Nat} {w : World} {h : Hr} {r : Rl} (k : Rw N w h r) : h.rv = r.revoke := k.1
end Go.Proofs.YtfjpbkmnlmecgaaGreatDoor.Ru
end
