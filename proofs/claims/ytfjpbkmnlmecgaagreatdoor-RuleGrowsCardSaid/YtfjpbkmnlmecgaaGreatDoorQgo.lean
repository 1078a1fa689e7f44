/- Several of the texts below, joined: RuSpec TkK TkM TkNr. -/
import Derived.Test.YtfjpbkmnlmecgaaGreatDoorQgd
import Derived.Test.YtfjpbkmnlmecgaaGreatDoorQgi
import Derived.Test.YtfjpbkmnlmecgaaGreatDoorQgk
import Derived.Test.YtfjpbkmnlmecgaaGreatDoorQgc
import Derived.Test.YtfjpbkmnlmecgaaGreatDoorQgb
import Derived.Lib.Join
import Derived.Deep.QuietTactic
import Derived.BigQuiet
import Derived.Lib.SliceRun
section
/- Plain: rules, read from tokens as the program reads them. -/
namespace Go.Proofs.YtfjpbkmnlmecgaaGreatDoor.Ru
open Go.RowKit Go.PlainAid Go.Proofs.YtfjpbkmnlmecgaaGreatDoor Go.Proofs.YtfjpbkmnlmecgaaGreatDoor.Bz
set_option linter.unusedVariables false
set_option linter.unusedSimpArgs false

/-- Where a reader stands, and what error it keeps. -/
structure RS where
  pos : Nat
  off : Nat
  e : Nat
section
variable (ts : List Tok)
def pk (s : RS) : Tok := pkF ts s.pos s.e
def accB (x : ByteArray) (s : RS) : Bool := isB (pk ts s) x
def accS (x : ByteArray) (s : RS) : RS := ⟨acF ts s.pos s.e x, s.off, s.e⟩
def expS (x : ByteArray) (s : RS) : RS := ⟨acF ts s.pos s.e x, exO ts s.pos s.off s.e x, exE ts s.pos s.e x⟩
def failS (c : Nat) (s : RS) : RS := ⟨s.pos, foF ts s.pos s.off s.e c, feF s.e c⟩
def nameS (s : RS) : RS := ⟨naP ts s.pos s.e, naO ts s.pos s.off s.e, naE ts s.pos s.e⟩
def numV (lo hi : Int) (s : RS) : Nat := nuV (pk ts s) lo hi
def numS (lo hi : Int) (s : RS) : RS := ⟨nuP ts s.pos s.e lo hi, nuO ts s.pos s.off s.e lo hi, nuE ts s.pos s.e lo hi⟩
/-- The reader stands in the tokens. -/
def InT (s : RS) : Prop := s.pos ≤ ts.length
end
theorem ac_le {ts : List Tok} {pos e : Nat} (x : ByteArray) (h : pos ≤ ts.length) : acF ts pos e x ≤ ts.length ∧ pos ≤ acF ts pos e x := by
  unfold acF
  split
  · rename_i hb
    have := (isB_lt hb).1
    omega
  · omega
theorem acc_in {ts : List Tok} {s : RS} {x : ByteArray} (h : InT ts s) : InT ts (accS ts x s) := (ac_le x h).1
theorem exp_in {ts : List Tok} {s : RS} {x : ByteArray} (h : InT ts s) : InT ts (expS ts x s) := (ac_le x h).1
theorem fail_in {ts : List Tok} {s : RS} {c : Nat} (h : InT ts s) : InT ts (failS ts c s) := h
theorem na_le {ts : List Tok} {pos e : Nat} (h : pos ≤ ts.length) : naP ts pos e ≤ ts.length ∧ pos ≤ naP ts pos e := by
  unfold naP
  split
  · rename_i hb
    have hk : (pkF ts pos e).kind ≠ 0 := by
      intro h0
      rw [naC_8 (by omega)] at hb
      omega
    have := (pk_lt hk).1
    omega
  · omega
theorem name_in {ts : List Tok} {s : RS} (h : InT ts s) : InT ts (nameS ts s) := (na_le h).1
theorem nu_le {ts : List Tok} {pos e : Nat} (lo hi : Int) (h : pos ≤ ts.length) : nuP ts pos e lo hi ≤ ts.length ∧ pos ≤ nuP ts pos e lo hi := by
  unfold nuP
  split
  · rename_i hb
    have hk : (pkF ts pos e).kind ≠ 0 := by
      intro h0
      unfold nuB at hb
      rw [h0] at hb
      simp at hb
    have := (pk_lt hk).1
    omega
  · omega
theorem num_in {ts : List Tok} {s : RS} {lo hi : Int} (h : InT ts s) : InT ts (numS ts lo hi s) := (nu_le lo hi h).1
/-- A failure without a code is none. -/
theorem fail_zero (ts : List Tok) (s : RS) : failS ts 0 s = s := by
  unfold failS foF feF
  cases s with
  | mk p o e =>
    dsimp only
    rw [if_neg (fun h => h.2 rfl)]
    by_cases h : e = 0
    · rw [if_pos h, h]
    · rw [if_neg h]
/-- The tables: a name's number; the administrative roles. -/
structure Env where
  numb : ByteArray → Option Nat
  adm : List Nat
def roleC (E : Env) (want : Bool) (used : List Nat) (t : Tok) : Nat × Nat :=
  if t.kind = 1 ∧ validB ⟨t.text.toArray⟩ = true then
    match E.numb ⟨t.text.toArray⟩ with
    | none => (0, 9)
    | some k => (k, if hasB E.adm k ≠ want then 10 else if hasB used k = true then 5 else 0)
  else (0, 0)
def roleV (ts : List Tok) (E : Env) (want : Bool) (used : List Nat) (s : RS) : Nat := (roleC E want used (pk ts s)).1
def roleS (ts : List Tok) (E : Env) (want : Bool) (used : List Nat) (s : RS) : RS := nameS ts (failS ts (roleC E want used (pk ts s)).2 s)
theorem role_in {ts : List Tok} {E : Env} {want : Bool} {used : List Nat} {s : RS} (h : InT ts s) : InT ts (roleS ts E want used s) := name_in (fail_in h)
def wNot : ByteArray := ⟨#[110, 111, 116]⟩
def wAnd : ByteArray := ⟨#[97, 110, 100]⟩
def wAll : ByteArray := ⟨#[97, 108, 108]⟩
def wNone : ByteArray := ⟨#[110, 111, 110, 101]⟩
def wComma : ByteArray := ⟨#[44]⟩
def wDash : ByteArray := ⟨#[45]⟩
def wRevoke : ByteArray := ⟨#[114, 101, 118, 111, 107, 101]⟩
def wAssign : ByteArray := ⟨#[97, 115, 115, 105, 103, 110]⟩
def wBy : ByteArray := ⟨#[98, 121]⟩
def wIf : ByteArray := ⟨#[105, 102]⟩
def wOn : ByteArray := ⟨#[111, 110]⟩
def wFor : ByteArray := ⟨#[102, 111, 114]⟩
def wSemi : ByteArray := ⟨#[59]⟩
/-- The literals of a condition: yes, no. -/
def litY (not : Bool) (yes : List Nat) (k : Nat) : List Nat := if not then yes else withL yes (k : Int)
def litN (not : Bool) (no : List Nat) (k : Nat) : List Nat := if not then withL no (k : Int) else no
def condS (ts : List Tok) (E : Env) : Nat → List Nat → List Nat → RS → (List Nat × List Nat) × RS
  | 0, yes, no, s => ((yes, no), s)
  | f + 1, yes, no, s =>
    let b := accB ts wNot s
    let s1 := accS ts wNot s
    let k := roleV ts E false (orL yes no) s1
    let s2 := roleS ts E false (orL yes no) s1
    let s3 := accS ts wAnd s2
    match accB ts wAnd s2 with
    | true => condS ts E f (litY b yes k) (litN b no k) s3
    | false => ((litY b yes k, litN b no k), s3)
/-- A span: its two days, and where the reader stands behind it. -/
def spanV (ts : List Tok) (s : RS) : Int × Int :=
  let f := numV ts 0 30000 s
  let s1 := numS ts 0 30000 s
  let s2 := accS ts wDash s1
  (f, match accB ts wDash s1 with
    | true => if (pk ts s2).kind = 2 then (numV ts f 30000 s2 : Int) else 30000
    | false => f)
def spanS (ts : List Tok) (s : RS) : RS :=
  let f := numV ts 0 30000 s
  let s1 := numS ts 0 30000 s
  let s2 := accS ts wDash s1
  match accB ts wDash s1 with
  | true => if (pk ts s2).kind = 2 then numS ts f 30000 s2 else s2
  | false => s2
def spansS (ts : List Tok) : Nat → List (Int × Int) → RS → List (Int × Int) × RS
  | 0, l, s => (l, s)
  | f + 1, l, s =>
    let s1 := spanS ts s
    let s2 := accS ts wComma s1
    match accB ts wComma s1 with
    | true => spansS ts f (l ++ [spanV ts s]) s2
    | false => (l ++ [spanV ts s], s2)
/-- The canonical list of the days of some spans. -/
noncomputable def canL (l : List (Int × Int)) : List (Int × Int) := open Classical in if h : ∃ r, Dy.Can r ∧ ∀ d, Dy.Dm r d = Dy.Dm l d then Classical.choose h else []
theorem canL_eq {l r : List (Int × Int)} (hc : Dy.Can r) (hm : ∀ d, Dy.Dm r d = Dy.Dm l d) : canL l = r := by
  unfold canL
  have h : ∃ r, Dy.Can r ∧ ∀ d, Dy.Dm r d = Dy.Dm l d := ⟨r, hc, hm⟩
  rw [dif_pos h]
  exact Dy.can_ext (Classical.choose_spec h).1 hc (fun d => ((Classical.choose_spec h).2 d).trans (hm d).symm)
noncomputable def ofL (l : List (Int × Int)) : List (Int × Int) := if Dy.errL l = 0 then canL l else []
def allD : List (Int × Int) := [(0, 30000)]
theorem acc_no {ts : List Tok} {x : ByteArray} {s : RS} (h : accB ts x s = false) : accS ts x s = s := by
  unfold accB pk at h
  unfold accS acF
  rw [h]; rfl
theorem acc_yes {ts : List Tok} {x : ByteArray} {s : RS} (h : accB ts x s = true) : (accS ts x s).pos = s.pos + 1 ∧ s.pos < ts.length := by
  unfold accB pk at h
  unfold accS acF
  rw [h]
  exact ⟨rfl, (isB_lt h).1⟩
noncomputable def whenS (ts : List Tok) (s : RS) : List (Int × Int) × RS :=
  match accB ts wAll s with
  | true => (allD, accS ts wAll s)
  | false => match accB ts wNone s with
    | true => ([], accS ts wNone s)
    | false => (ofL (spansS ts (ts.length + 2) [] s).1, (spansS ts (ts.length + 2) [] s).2)
/-- A rule. -/
structure Rl where
  revoke : Bool
  admin : Int
  target : Int
  yes : List Nat
  no : List Nat
  days : List (Int × Int)
  longest : Int
def ifS (ts : List Tok) (E : Env) (rv : Bool) (s : RS) : (List Nat × List Nat) × RS :=
  match !rv && accB ts wIf s with
  | true => condS ts E (ts.length + 2) [] [] (accS ts wIf s)
  | false => (([], []), s)
noncomputable def onS (ts : List Tok) (s : RS) : List (Int × Int) × RS :=
  match accB ts wOn s with
  | true => whenS ts (accS ts wOn s)
  | false => (allD, s)
def forS (ts : List Tok) (rv : Bool) (s : RS) : Nat × RS :=
  match !rv && accB ts wFor s with
  | true => (numV ts 1 30000 (accS ts wFor s), numS ts 1 30000 (accS ts wFor s))
  | false => (0, s)
def headS (ts : List Tok) (s : RS) : RS :=
  match accB ts wRevoke s with
  | true => accS ts wRevoke s
  | false => expS ts wAssign s
noncomputable def ruleS (ts : List Tok) (E : Env) (s : RS) : Rl × RS :=
  let rv := accB ts wRevoke s
  let s2 := headS ts s
  let s3 := roleS ts E false [] s2
  let s4 := expS ts wBy s3
  let s5 := roleS ts E true [] s4
  let c := ifS ts E rv s5
  let o := onS ts c.2
  let g := forS ts rv o.2
  (⟨rv, (roleV ts E true [] s4 : Nat), (roleV ts E false [] s2 : Nat), c.1.1, c.1.2, o.1, (g.1 : Nat)⟩, expS ts wSemi g.2)
noncomputable def rulesS (ts : List Tok) (E : Env) : Nat → List Rl → RS → List Rl × RS
  | 0, out, s => (out, s)
  | f + 1, out, s =>
    if (pk ts s).kind = 0 then (out, s)
    else if out.length = 64 then (out, failS ts 3 s)
    else rulesS ts E f (out ++ [(ruleS ts E s).1]) (ruleS ts E s).2
noncomputable def parseT (ts : List Tok) (E : Env) : List Rl × Nat × Nat :=
  let r := rulesS ts E 66 [] ⟨0, 0, 0⟩
  if r.2.e = 0 then (r.1, 0, 0) else ([], r.2.off, r.2.e)
noncomputable def parseR (src : List UInt8) (E : Env) : List Rl × Nat × Nat :=
  if (scanP src).2.2 = 0 then parseT (scanP src).1 E else ([], (scanP src).2.1, (scanP src).2.2)
end Go.Proofs.YtfjpbkmnlmecgaaGreatDoor.Ru
end

section
/- Contract: token.Join, on tokens of which kind and text alone are known. -/
namespace Go.Proofs.YtfjpbkmnlmecgaaGreatDoor
open Go.RowKit Go.PlainAid
set_option linter.unusedVariables false
set_option maxHeartbeats 400000

/-- The slice value v has tokens with these kinds and texts. -/
def Kt (w : World) (v : Value) (kk : IntKind) (l : List (Nat × List UInt8)) : Prop :=
  ∃ a cap, v = .slice a l.length cap ∧ l.length ≤ cap ∧ cap ≤ maxLen ∧
    (l = [] ∨ ∃ b o, a = some ⟨b, o, none⟩ ∧ b < w.heap.size ∧ ∀ j x, l[j]? = some x → w.cell? ⟨b, o + j * 4, none⟩ = some (.int kk x.1) ∧ w.cell? ⟨b, o + j * 4 + 1, none⟩ = some (.string ⟨x.2.toArray⟩) ∧
      (∃ u, w.cell? ⟨b, o + j * 4 + 2, none⟩ = some (.int .i64 u)) ∧ (∃ u, w.cell? ⟨b, o + j * 4 + 3, none⟩ = some (.int .i64 u)))
def ktOf (l : List Tok) : List (Nat × List UInt8) := l.map fun t => (t.kind, t.text)
theorem Kt.ofP {w : World} {v : Value} {n : Nat} {ts : List Tok} (h : Sl w v n 4 (flatP ts)) (hn : ts.length = n) : Kt w v .u8 (ktOf ts) := by
  obtain ⟨h1, a, cap, rfl, hc, hm, h2⟩ := h
  subst hn
  refine ⟨a, cap, by simp [ktOf], by simpa [ktOf] using hc, hm, ?_⟩
  rcases h2 with h2 | ⟨b, o, rfl, hb, hcell⟩
  · left; simp [ktOf, List.eq_nil_of_length_eq_zero h2]
  · right
    refine ⟨b, o, rfl, hb, fun j x hx => ?_⟩
    simp only [ktOf, List.getElem?_map, Option.map_eq_some_iff] at hx
    obtain ⟨t, ht, rfl⟩ := hx
    obtain ⟨c0, c1, c2, c3⟩ := tokP_cells hcell j t (List.getElem?_eq_some_iff.1 ht).1 ht
    exact ⟨c0, c1, ⟨_, c2⟩, ⟨_, c3⟩⟩
theorem Kt.below {w w' : World} {v : Value} {kk : IntKind} {l : List (Nat × List UInt8)} (h : Kt w v kk l) (hb : Below w.heap.size w w') : Kt w' v kk l := by
  obtain ⟨a, cap, rfl, hc, hm, h2⟩ := h
  refine ⟨a, cap, rfl, hc, hm, ?_⟩
  rcases h2 with h2 | ⟨b, o, rfl, hbl, hcell⟩
  · exact .inl h2
  · refine .inr ⟨b, o, rfl, Nat.lt_of_lt_of_le hbl hb.size, fun j x hx => ?_⟩
    obtain ⟨c0, c1, ⟨u2, c2⟩, ⟨u3, c3⟩⟩ := hcell j x hx
    exact ⟨(hb.cell (p := ⟨b, _, none⟩) hbl).trans c0, (hb.cell (p := ⟨b, _, none⟩) hbl).trans c1, ⟨u2, (hb.cell (p := ⟨b, _, none⟩) hbl).trans c2⟩, ⟨u3, (hb.cell (p := ⟨b, _, none⟩) hbl).trans c3⟩⟩

def kept (l : List (Nat × List UInt8)) : List (List UInt8) := (l.filter fun x => x.1 != 0).map (·.2)
def joinK (l : List (Nat × List UInt8)) : List UInt8 := Lib.join (kept l) [32]
theorem kept_miss {l : List (Nat × List UInt8)} {j : Nat} {x : Nat × List UInt8} (h : l[j]? = some x) (h0 : x.1 = 0) : kept (l.take (j + 1)) = kept (l.take j) := by
  unfold kept; rw [List.take_add_one, h]; simp [h0]
theorem kept_hit {l : List (Nat × List UInt8)} {j : Nat} {x : Nat × List UInt8} (h : l[j]? = some x) (h0 : x.1 ≠ 0) : kept (l.take (j + 1)) = kept (l.take j) ++ [x.2] := by
  unfold kept; rw [List.take_add_one, h]; simp [h0]
theorem kept_len (l : List (Nat × List UInt8)) (j : Nat) : (kept (l.take j)).length ≤ j := by
  unfold kept; rw [List.length_map]; exact Nat.le_trans (List.length_filter_le _ _) (List.length_take_le _ _)
def strV (x : List UInt8) : Value := .string ⟨x.toArray⟩

theorem infoStr : (Tryz.prog.info? 9).map (fun i => (i.zero, i.size, i.bytes)) = some (some (.string ⟨#[]⟩), 1, 16) := by kernel_rfl

/-- strings.Join of a row of strings, with a blank between. -/
theorem join_shelf (g c : Nat) (l : List (List UInt8)) (w : World) (hcells : Hid (∀ (i : Nat) x, (l.map fun x => (⟨x.toArray⟩ : ByteArray))[i]? = some x → w.cell? ⟨g, 0 + i, none⟩ = some (.string x))) (hg : g < w.heap.size) (hN : l.length ≤ 140737488355328) (hcap : l.length ≤ c) (hlen : (Lib.join l [32]).length ≤ 140737488355328) :
    Calls Tryz.prog 193 #[.slice (some ⟨g, 0, none⟩) l.length c, .string ⟨#[32]⟩] w fun e w' => e = .returned (.string ⟨(Lib.join l [32]).toArray⟩) ∧ Below w.heap.size w w' := by
  have h := Tryz.strings_Join g 0 c (l.map fun x => (⟨x.toArray⟩ : ByteArray)) ⟨#[32]⟩ w hcells.out hg (by simpa using hN) (by simpa using hcap)
  have hm : (l.map fun x => (⟨x.toArray⟩ : ByteArray)).map (·.data.toList) = l := by rw [List.map_map]; exact List.map_id' _
  rw [hm, List.length_map] at h
  exact h hlen

end Go.Proofs.YtfjpbkmnlmecgaaGreatDoor
end

section
/- Contracts: slices.Clone and slices.Equal of tokens, the law's plain, the reference's Join. -/
namespace Go.Proofs.YtfjpbkmnlmecgaaGreatDoor
open Go.RowKit Go.PlainAid
set_option linter.unusedVariables false
set_option maxHeartbeats 1000000

theorem clone_any (v : Value) (n : Nat) (xs : List Value) (w : World) (hv : Sl w v n 4 xs) (h1 : ∀ u ∈ xs, u.oneCell' = true) (hn : n ≤ 1000000) :
    Calls Tryz.prog 145 #[v] w fun e w' => ∃ v', e = .returned v' ∧ Below w.heap.size w w' ∧ w'.ownsRow w.heap.size 139 4 v' n xs := by
  obtain ⟨i0, hi, hz0, hz1, hz2⟩ := info_parts infoTok
  obtain ⟨hl, a, cap, rfl, hc, hm, h2⟩ := hv
  unfold maxLen at hm
  have hnil := fun (w : World) (a : Option Addr) (n c : Nat) => Lib.run_eql_slice_nil (P := Tryz.prog) w 129 139 a n c 0 0 Tryz.underlying129
  cases a with
  | none =>
    have hn0 : n = 0 := by
      rcases h2 with h2 | ⟨b, o, h2, _⟩
      · exact h2
      · cases h2
    subst hn0
    have hx : xs = [] := List.eq_nil_of_length_eq_zero (by simpa using hl)
    subst hx
    go_enter Tryz.func145, Tryz.ntmps145
    go_wp2_with fail
    go_ret
    exact ⟨_, rfl, Below.refl _ _, World.ownsRow_nil _ _ _ _⟩
  | some ad =>
    have hcells : Hid (∀ j u, xs[j]? = some u → (w.alloc (.cells #[] 139)).cell? (ad.add j) = some u) := by
      intro j u hu
      rcases h2 with h2 | ⟨b, o, h2, hb, hcell⟩
      · subst h2
        have hx : xs = [] := List.eq_nil_of_length_eq_zero (by simpa using hl)
        subst hx; simp at hu
      · cases h2
        have hj : j < n * 4 := by rw [← hl]; exact (List.getElem?_eq_some_iff.1 hu).1
        have hadd : (⟨b, o, none⟩ : Addr).add j = ⟨b, o + j, none⟩ := by unfold Addr.add; split <;> simp_all
        rw [hadd, World.cell?_alloc_lt _ _ _ hb, hcell j hj, List.getD_eq_getElem?_getD, hu]; rfl
    have hown0 : (w.alloc (.cells #[] 139)).ownsRow w.heap.size 139 4 (.slice (some ⟨w.heap.size, 0, none⟩) 0 0) 0 [] := World.ownsRow_made w #[] 0 (Nat.le_refl _) (by decide) rfl
    have H1 := Lib.hid h1
    have HL := Lib.hid hl
    clear h2 h1 hl
    go_enter Tryz.func145, Tryz.ntmps145
    go_wp2_with (at_builtin; refine wpList_append_own _ rfl (.tmp 5) (.tmp 6) 129 rfl w.heap.size 139 i0 (.agg #[.int .u8 0, .string ⟨#[]⟩, .int .i64 0, .int .i64 0]) 4 40 Tryz.underlying129 hi hz0 hz1 hz2 rfl (by decide) _ _ _ rfl hown0 ad n cap xs rfl HL.out hcells.out H1.out (by unfold maxLen; omega) (by omega) (by simp) ?_)
    intro v' w1 hown' hgrow _
    have hbel : Below w.heap.size w w1 := ((Below.refl _ _).alloc (Nat.le_refl _) _).grown hgrow (by simp) (fun b hb => by cases hb; exact Nat.le_refl _)
    try simp only [Nat.zero_add, List.nil_append] at hown'
    clear hgrow hown0
    go_wp2_with fail
    go_ret
    exact ⟨_, rfl, hbel, hown'⟩

end Go.Proofs.YtfjpbkmnlmecgaaGreatDoor
end

section
/- Contract: token.NewReader; a reader of the reference that was just laid. -/
namespace Go.Proofs.YtfjpbkmnlmecgaaGreatDoor
open Go.RowKit Go.PlainAid
set_option linter.unusedVariables false
set_option linter.unusedSimpArgs false
set_option maxHeartbeats 1000000

theorem flatP_one (ts : List Tok) : ∀ u ∈ flatP ts, u.oneCell' = true := by
  intro u hu
  simp only [flatP, List.mem_flatMap] at hu
  obtain ⟨t, _, h⟩ := hu
  simp only [tokV, List.mem_cons, List.mem_nil_iff, or_false] at h
  rcases h with rfl | rfl | rfl | rfl <;> rfl

theorem rd_made {f : Tok → List Value} {w w' : World} {v : Value} {n g z : Nat} {ts : List Tok} (hs : Sl w v n 4 (ts.flatMap f)) (hn : ts.length = n) (hb : Below w.heap.size w w') (hblk : Blk4 w' g v (.int .i64 0) (.int .i64 0) (.int .i64 0))
    (hg : w.heap.size ≤ g) (hz : ∀ b, v.ownBlock = some b → b < z) : Rd f w' g z ts 0 0 0 := by
  obtain ⟨hl, a, cap, rfl, hc, hm, hx⟩ := hs
  subst hn
  refine ⟨a, cap, hblk, hc, by unfold maxLen at hm; omega, ?_⟩
  rcases hx with hx | ⟨b, o, rfl, hbl, hcell⟩
  · exact .inl (List.eq_nil_of_length_eq_zero hx)
  · refine .inr ⟨b, o, rfl, by omega, hz b rfl, Nat.lt_of_lt_of_le hbl hb.size, fun j hj => ?_⟩
    rw [hb.cell (p := ⟨b, o + j, none⟩) hbl]; exact hcell j hj

theorem clone_sl (v : Value) (n : Nat) (ts : List Tok) (w : World) (hv : Sl w v n 4 (flatP ts)) (hn : n ≤ 1000000) :
    Calls Tryz.prog 145 #[v] w fun e w' => ∃ a cap, e = .returned (.slice a n cap) ∧ Below w.heap.size w w' ∧ w'.ownsRow w.heap.size 139 4 (.slice a n cap) n (flatP ts) :=
  (clone_any v n (flatP ts) w hv (flatP_one ts) hn).mono fun e w' ⟨v', h1, h2, h3⟩ => by
    obtain ⟨_, a, cap, h4, _⟩ := Sl.owned h3
    subst h4
    exact ⟨a, cap, h1, h2, h3⟩
theorem newreader_any (v : Value) (n : Nat) (ts : List Tok) (w : World) (hv : Sl w v n 4 (flatP ts)) (ht : ts.length = n) (hn : n ≤ 1000000) :
    Calls Tryz.prog 65 #[v] w fun e w' => ∃ g, e = .returned (.pointer (some ⟨g, 0, none⟩)) ∧ Below w.heap.size w w' ∧ w.heap.size ≤ g ∧ g < w'.heap.size ∧ ∀ z, w'.heap.size ≤ z → Rd tokV w' g z ts 0 0 0 := by
  have hcl := Lib.hid (clone_sl v n ts w hv hn)
  clear hv
  go_enter Tryz.func65, Tryz.ntmps65
  go_wp2_with (go_at_call 145; refine hcl.out.mono ?_; rintro e w2 ⟨a2, c2, rfl, hb2, ho2⟩; replace ho2 := Lib.hid ho2)
  go_returns
  have hz2 := hb2.size
  refine ⟨w2.heap.size, rfl, hb2.alloc hz2 _, hb2.size, by simp, fun z hz => ?_⟩
  refine rd_made (w := w2) (Sl.owned ho2.out) ht ((Below.refl _ _).alloc (Nat.le_refl _) _) (Blk4.new _ _ _ _ _ _) (Nat.le_refl _) (fun b hb => ?_)
  have := ho2.out.lt b hb
  simp at hz; omega

end Go.Proofs.YtfjpbkmnlmecgaaGreatDoor
end
