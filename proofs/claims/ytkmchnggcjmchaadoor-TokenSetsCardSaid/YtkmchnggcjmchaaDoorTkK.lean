/- Contract: token.Join, on tokens of which kind and text alone are known. -/
import Derived.Test.YtkmchnggcjmchaaDoorTkJ
import Derived.Test.YtkmchnggcjmchaaDoorShJ
import Derived.Lib.Join
namespace Go.Proofs.YtkmchnggcjmchaaDoor
open Go.RowKit Go.PlainAid
set_option linter.unusedVariables false
set_option maxHeartbeats 400000

/-- The slice value v has tokens with these kinds and texts. -/
def Kt (w : World) (v : Value) (kk : IntKind) (l : List (Nat × List UInt8)) : Prop :=
  ∃ a cap, v = .slice a l.length cap ∧ l.length ≤ cap ∧ cap ≤ maxLen ∧
    (l = [] ∨ ∃ b o, a = some ⟨b, o, none⟩ ∧ b < w.heap.size ∧ ∀ j x, l[j]? = some x → w.cell? ⟨b, o + j * 4, none⟩ = some (.int kk x.1) ∧ w.cell? ⟨b, o + j * 4 + 1, none⟩ = some (.string ⟨x.2.toArray⟩) ∧
      (∃ u, w.cell? ⟨b, o + j * 4 + 2, none⟩ = some (.int .i64 u)) ∧ (∃ u, w.cell? ⟨b, o + j * 4 + 3, none⟩ = some (.int .i64 u)))
def ktOf (l : List Tok) : List (Nat × List UInt8) := l.map fun t => (t.kind, t.text)
theorem Kt.ofP {w : World} {v : Value} {n : Nat} {ts : List Tok} (h : Sl w v n 4 (flatP ts)) (hn : ts.length = n) : Kt w v .u8 (ktOf ts) := by
  obtain ⟨h1, a, cap, rfl, hc, hm, h2⟩ := h
  subst hn
  refine ⟨a, cap, by simp [ktOf], by simpa [ktOf] using hc, hm, ?_⟩
  rcases h2 with h2 | ⟨b, o, rfl, hb, hcell⟩
  · left; simp [ktOf, List.eq_nil_of_length_eq_zero h2]
  · right
    refine ⟨b, o, rfl, hb, fun j x hx => ?_⟩
    simp only [ktOf, List.getElem?_map, Option.map_eq_some_iff] at hx
    obtain ⟨t, ht, rfl⟩ := hx
    obtain ⟨c0, c1, c2, c3⟩ := tokP_cells hcell j t (List.getElem?_eq_some_iff.1 ht).1 ht
    exact ⟨c0, c1, ⟨_, c2⟩, ⟨_, c3⟩⟩
theorem Kt.below {w w' : World} {v : Value} {kk : IntKind} {l : List (Nat × List UInt8)} (h : Kt w v kk l) (hb : Below w.heap.size w w') : Kt w' v kk l := by
  obtain ⟨a, cap, rfl, hc, hm, h2⟩ := h
  refine ⟨a, cap, rfl, hc, hm, ?_⟩
  rcases h2 with h2 | ⟨b, o, rfl, hbl, hcell⟩
  · exact .inl h2
  · refine .inr ⟨b, o, rfl, Nat.lt_of_lt_of_le hbl hb.size, fun j x hx => ?_⟩
    obtain ⟨c0, c1, ⟨u2, c2⟩, ⟨u3, c3⟩⟩ := hcell j x hx
    exact ⟨(hb.cell (p := ⟨b, _, none⟩) hbl).trans c0, (hb.cell (p := ⟨b, _, none⟩) hbl).trans c1, ⟨u2, (hb.cell (p := ⟨b, _, none⟩) hbl).trans c2⟩, ⟨u3, (hb.cell (p := ⟨b, _, none⟩) hbl).trans c3⟩⟩

def kept (l : List (Nat × List UInt8)) : List (List UInt8) := (l.filter fun x => x.1 != 0).map (·.2)
def joinK (l : List (Nat × List UInt8)) : List UInt8 := Lib.join (kept l) [32]
theorem kept_miss {l : List (Nat × List UInt8)} {j : Nat} {x : Nat × List UInt8} (h : l[j]? = some x) (h0 : x.1 = 0) : kept (l.take (j + 1)) = kept (l.take j) := by
  unfold kept; rw [List.take_add_one, h]; simp [h0]
theorem kept_hit {l : List (Nat × List UInt8)} {j : Nat} {x : Nat × List UInt8} (h : l[j]? = some x) (h0 : x.1 ≠ 0) : kept (l.take (j + 1)) = kept (l.take j) ++ [x.2] := by
  unfold kept; rw [List.take_add_one, h]; simp [h0]
theorem kept_len (l : List (Nat × List UInt8)) (j : Nat) : (kept (l.take j)).length ≤ j := by
  unfold kept; rw [List.length_map]; exact Nat.le_trans (List.length_filter_le _ _) (List.length_take_le _ _)
def strV (x : List UInt8) : Value := .string ⟨x.toArray⟩

theorem infoStr : (Tryd.prog.info? 9).map (fun i => (i.zero, i.size, i.bytes)) = some (some (.string ⟨#[]⟩), 1, 16) := by kernel_rfl

/-- strings.Join of a row of strings, with a blank between. -/
theorem join_shelf (g c : Nat) (l : List (List UInt8)) (w : World) (hcells : Hid (∀ (i : Nat) x, (l.map fun x => (⟨x.toArray⟩ : ByteArray))[i]? = some x → w.cell? ⟨g, 0 + i, none⟩ = some (.string x))) (hg : g < w.heap.size) (hN : l.length ≤ 140737488355328) (hcap : l.length ≤ c) (hlen : (Lib.join l [32]).length ≤ 140737488355328) :
    Calls Tryd.prog 52 #[.slice (some ⟨g, 0, none⟩) l.length c, .string ⟨#[32]⟩] w fun e w' => e = .returned (.string ⟨(Lib.join l [32]).toArray⟩) ∧ Below w.heap.size w w' := by
  have h := Tryd.strings_Join g 0 c (l.map fun x => (⟨x.toArray⟩ : ByteArray)) ⟨#[32]⟩ w hcells.out hg (by simpa using hN) (by simpa using hcap)
  have hm : (l.map fun x => (⟨x.toArray⟩ : ByteArray)).map (·.data.toList) = l := by rw [List.map_map]; exact List.map_id' _
  rw [hm, List.length_map] at h
  exact h hlen

set_option maxRecDepth 100000 in
theorem join_any (v : Value) (l : List (Nat × List UInt8)) (w : World) (hv : Kt w v .u8 l) (hlen : l.length ≤ 1000000) (hj : (joinK l).length ≤ 140737488355328) :
    Calls Tryd.prog 21 #[v] w fun e w' => e = .returned (.string ⟨(joinK l).toArray⟩) ∧ Below w.heap.size w w' := by
  obtain ⟨i0, hi, hz0, hz1, hz2⟩ := info_parts infoStr
  obtain ⟨a, cap, rfl, hc, hm, h2⟩ := hv
  unfold maxLen at hm
  by_cases h0 : l = []
  · subst h0
    go_enter Tryd.func21, Tryd.ntmps21
    go_wp2_with fail
    go_loop [3, 8] (fun v3 v => v3 = .slice none 0 0 ∧ v = .int .i64 0) (fun _ _ => 0)
    case atStart => exact ⟨rfl, rfl⟩
    case round =>
      obtain ⟨rfl, rfl⟩ := hrel
      go_wp2_with (go_at_call 52; refine (Tryd.strings_Join_none _ _ _ _).mono ?_; rintro e w' ⟨rfl, hw⟩; obtain rfl := hw.symm)
      go_ret
      exact ⟨rfl, Below.refl _ _⟩
  · rcases h2 with h2 | ⟨b, o, rfl, hb, hcell⟩
    · exact absurd h2 h0
    have HC := Lib.hid hcell
    obtain ⟨n, hn⟩ : ∃ n, n = l.length := ⟨_, rfl⟩
    rw [← hn] at hc hlen ⊢
    have HN := Lib.hid hn
    clear hcell h0 hn
    go_enter Tryd.func21, Tryd.ntmps21
    go_wp2_with fail
    go_loopw [3, 8] (fun v3 v8 wr => ∃ j : Nat, j ≤ n ∧ v8 = .int .i64 j ∧ Below w.heap.size w wr ∧ wr.ownsRow w.heap.size 9 1 v3 (kept (l.take j)).length ((kept (l.take j)).map strV)) (fun _ v8 _ => n - (intOf v8).toNat)
    case atStart => exact ⟨0, by omega, rfl, Below.refl _ _, World.ownsRow_nil _ _ _ _⟩
    case round =>
      obtain ⟨j, hjn, rfl, hbel, hown⟩ := hrel
      have hkl := kept_len l j
      have hsz := hbel.size
      by_cases hlt : j < n
      · obtain ⟨x, hx⟩ : ∃ x, l[j]? = some x := ⟨_, List.getElem?_eq_getElem (by rw [← HN.out]; exact hlt)⟩
        obtain ⟨c0, c1, ⟨u2, c2⟩, ⟨u3, c3⟩⟩ := HC.out j x hx
        have hA : ∀ i, wr.cell? ⟨b, i, none⟩ = w.cell? ⟨b, i, none⟩ := fun i => hbel.cell (p := ⟨b, i, none⟩) hb
        rw [← hA] at c0 c1 c2 c3
        clear hA
        obtain ⟨kd, tx⟩ := x
        dsimp only at c0 c1
        by_cases hkd : kd = 0
        · subst hkd
          have HK := Lib.hid (kept_miss hx rfl)
          clear hx
          go_wp2_with fail
          go_roundw
          case rel => exact ⟨j + 1, by omega, by go_num, by go_grown, by rw [HK.out]; exact hown.alloc _⟩
          case measure => simp [intOf]; omega
        · have HK := Lib.hid (kept_hit hx hkd)
          have hk1 : ((kd : Int) == 0) = false := by simpa using hkd
          have hk2 : ((kd : Int) != 0) = true := by simpa using hkd
          clear hx hkd
          go_wp2_with (at_builtin; refine wpList_append_own _ rfl (.tmp 15) (.tmp 18) 31 rfl w.heap.size 9 i0 (.string ⟨#[]⟩) 1 16 Tryd.underlying31 hi hz0 hz1 hz2 rfl (by decide) _ _ _ rfl ((hown.alloc _).alloc _) ⟨wr.heap.size + 1, 0, none⟩ 1 1 [.string ⟨tx.toArray⟩] rfl rfl ?d1 ?d2 ?d3 ?d4 ?d5 ?_)
          try (case d1 => first | exact cells_new _ #[.string ⟨tx.toArray⟩] _ _ (by simp) | (intro i u hu; match i, hu with | 0, hu => simp at hu; subst hu; simp [Addr.add]))
          try (case d2 => first | rfl | (intro u hu; simp at hu; subst hu; rfl))
          try (case d3 => unfold maxLen; omega)
          try (case d4 => omega)
          try (case d5 => first | omega | (simp; omega))
          intro v' w1 hown' hgrow _
          have hbel' : Below w.heap.size w w1 := ((hbel.alloc hbel.size _).alloc (by simp; omega) _).grown hgrow (by simp; omega) (fun b hb => (hown.lt b hb).1)
          clear hgrow hown hbel
          go_wp2_with fail
          go_roundw
          case rel => exact ⟨j + 1, by omega, by go_num, hbel', by rw [HK.out, List.map_append, List.length_append]; exact hown'⟩
          case measure => simp [intOf]; omega
      · obtain rfl : j = n := by omega
        have hall : l.take j = l := List.take_of_length_le (by have := HN.out; omega)
        rw [hall] at hown hkl
        clear hall
        have hown2 := hown
        obtain ⟨ho1, ho2⟩ := hown2
        rcases ho2 with ⟨rfl, hz⟩ | ⟨g, cp, cur, rfl, hg, hh, hnc, hcm, hcs, htake⟩
        · have hk0 : kept l = [] := List.eq_nil_of_length_eq_zero hz
          have HJ : Hid (joinK l = []) := by show _ = _; unfold joinK; rw [hk0]; rfl
          clear hown ho1 hz hk0
          go_wp2_with (go_at_call 52; refine (Tryd.strings_Join_none _ _ _ _).mono ?_; rintro e w' ⟨rfl, hw⟩; obtain rfl := hw.symm)
          go_ret
          exact ⟨by rw [HJ.out]; rfl, hbel⟩
        · have hcells : Hid (∀ (i : Nat) x, ((kept l).map fun x => (⟨x.toArray⟩ : ByteArray))[i]? = some x → wr.cell? ⟨g, 0 + i, none⟩ = some (.string x)) := by
            intro i x hx
            have h1 := hown.cells (g := g) rfl i (.string x) (by
              simp only [List.getElem?_map, Option.map_eq_some_iff] at hx ⊢
              obtain ⟨y, hy, rfl⟩ := hx
              exact ⟨y, hy, rfl⟩)
            have hadd : (⟨g, 0, none⟩ : Addr).add i = ⟨g, 0 + i, none⟩ := by unfold Addr.add; split <;> simp_all
            rwa [hadd] at h1
          have hgl : g < wr.heap.size := (Array.getElem?_eq_some_iff.1 hh).1
          have HM : Hid (((kept l).map fun x => (⟨x.toArray⟩ : ByteArray)).map (·.data.toList) = kept l) := by show _ = _; rw [List.map_map]; exact List.map_id' _
          have HL : Hid (((kept l).map fun x => (⟨x.toArray⟩ : ByteArray)).length = (kept l).length) := List.length_map _
          have hj' := Lib.hid hj
          clear hown ho1 hh hcs htake hj
          go_wp2_with (go_at_call 52; refine (join_shelf g cp (kept l) _ hcells hgl (by omega) hnc (by have := hj'.out; unfold joinK at this; exact this)).mono ?_; rintro e w' ⟨rfl, hb'⟩)
          go_ret
          exact ⟨rfl, hbel.trans (hb'.mono hsz)⟩

end Go.Proofs.YtkmchnggcjmchaaDoor
