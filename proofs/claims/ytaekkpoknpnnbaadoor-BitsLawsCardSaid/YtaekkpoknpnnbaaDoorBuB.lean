/- Contract: awake. -/
import Derived.Test.YtaekkpoknpnnbaaDoorBuA
namespace Go.Proofs.YtaekkpoknpnnbaaDoor
open Go.RowKit Go.PlainAid
set_option linter.unusedVariables false
set_option linter.unusedSimpArgs false
set_option maxHeartbeats 4000000

theorem step_call {w w1 w2 : World} (h : Below w.heap.size w w1) (h2 : Below w1.heap.size w1 w2) : Below w.heap.size w w2 := h.trans (h2.mono h.size)
theorem step_lit {w w1 w2 : World} {o : Obj} (h : Below w.heap.size w w1) (h2 : Below (w1.alloc o).heap.size (w1.alloc o) w2) : Below w.heap.size w w2 :=
  (h.alloc h.size _).trans (h2.mono (by rw [World.size_alloc]; have := h.size; omega))
theorem step_box {w w1 : World} {o : Obj} {v : Value} (h : Below w.heap.size w w1) : Below w.heap.size w ((w1.alloc o).setCell ⟨w1.heap.size, 0, none⟩ v) := (h.alloc h.size _).setCell h.size _
theorem iw_lit (w : World) (cells : Array Value) (zs : List Int) (n : Nat) (hc : cells.toList = zs.map fun z => .int .i64 z) (hn : zs.length = n) (hm : n ≤ 1000) :
    Iw (w.alloc (.cells cells 3)) (some ⟨w.heap.size, 0, none⟩) n n zs := by
  have hs : cells.size = n * 1 := by
    have := congrArg List.length hc
    rw [List.length_map, Array.length_toList] at this; omega
  have h := World.ownsRow_lit (base := 0) (size := 1) (e := 3) w cells n (Nat.zero_le _) (by unfold maxLen; omega) hs
  rw [hc] at h
  obtain ⟨a, cap, e, hi⟩ := iw_of_row h hn
  cases e
  exact hi
theorem of_lit (w : World) (cells : Array Value) (zs : List Int) (l : List Nat) (n : Nat) (hc : cells.toList = zs.map fun z => .int .i64 z) (hn : zs.length = n) (hm : n ≤ 1000) (hl : ofL zs = l) :
    Calls Tryd.prog 16 #[.slice (some ⟨w.heap.size, 0, none⟩) n n] (w.alloc (.cells cells 3)) (SetPost (w.alloc (.cells cells 3)) l) := by
  subst hl
  exact of_any _ _ _ _ _ (iw_lit w cells zs n hc hn hm) (by omega)
theorem bw_lit (w : World) (cells : Array Value) (ps : List Nat) (n : Nat) (hc : cells.toList = ps.map u8v) (hn : ps.length = n) (hb : ∀ x ∈ ps, x < 256) (hm : n ≤ 1000) :
    Bw (w.alloc (.cells cells 5)) (some ⟨w.heap.size, 0, none⟩) n n ps := by
  have hs : cells.size = n * 1 := by
    have := congrArg List.length hc
    rw [List.length_map, Array.length_toList] at this; omega
  have h := World.ownsRow_lit (base := 0) (size := 1) (e := 5) w cells n (Nat.zero_le _) (by unfold maxLen; omega) hs
  rw [hc] at h
  subst hn
  obtain ⟨a, cap, e, hi⟩ := RowY.bw h hb
  cases e
  exact hi
theorem ofL_a : ofL [5, 1, 5, -3, 5000] = [1, 5] := asc_ext (asc_ofL _) ⟨by decide, by decide⟩ fun x => by rw [mem_ofL]; simp; omega
theorem ofL_b : ofL [1] = [1] := asc_ext (asc_ofL _) ⟨by decide, by decide⟩ fun x => by rw [mem_ofL]; simp; omega
theorem ofL_c : ofL [1, 9] = [1, 9] := asc_ext (asc_ofL _) ⟨by decide, by decide⟩ fun x => by rw [mem_ofL]; simp; omega
theorem ofL_d : ofL [2] = [2] := asc_ext (asc_ofL _) ⟨by decide, by decide⟩ fun x => by rw [mem_ofL]; simp; omega
theorem below3 : minL (belowL 3) [1] = [0, 2] := by decide
theorem dec1 (x : Nat) (h : x < 10) : Lib.decDigits x = [UInt8.ofNat (48 + x)] := Lib.decDigits_one h
theorem text15 : textB [1, 5] = [123, 49, 32, 53, 125] := by simp [textB, headB, joinB, dig, dec1]
theorem bytes15 : BytesOf [34] [1, 5] := by
  refine ⟨(fun h => by cases h), (fun _ => by decide), fun k hk => ?_⟩
  have : k = 0 := by simpa using hk
  subst this
  show byteOK [1, 5] 0 34
  exact ⟨by decide, by decide⟩
/-- The list that a text would be the text of. -/
def backL (s : List UInt8) : List Nat := (Lib.fieldsD ((s.drop 1).dropLast)).map fun d => match Lib.atoiAll d with | .ok v => v.toNat | _ => 0
theorem back_text {l : List Nat} (hl : ∀ x ∈ l, x < 4096) : backL (textB l) = l := by
  unfold backL textB headB
  rw [List.cons_append, List.drop_succ_cons, List.drop_zero, List.dropLast_concat, fieldsD_join, List.map_map]
  have : ∀ x ∈ l, ((fun d => match Lib.atoiAll d with | .ok v => v.toNat | _ => 0) ∘ Lib.decDigits) x = x := fun x hx => by
    simp only [Function.comp]; rw [atoi_dec x (hl x hx)]; simp
  rw [List.map_congr_left this, List.map_id']
theorem no_text1 : ∀ l, Asc l → ([123, 49, 44, 32, 53, 125] : List UInt8) ≠ textB l := by
  intro l hl e
  have h := back_text hl.2
  rw [← e] at h
  have h2 : backL [123, 49, 44, 32, 53, 125] = [0, 5] := by decide
  rw [h2] at h
  rw [← h] at e
  simp [textB, headB, joinB, dig, dec1] at e
theorem no_text2 : ∀ l, Asc l → ([123, 53, 32, 49, 125] : List UInt8) ≠ textB l := by
  intro l hl e
  have h := back_text hl.2
  rw [← e] at h
  have h2 : backL [123, 53, 32, 49, 125] = [5, 1] := by decide
  rw [h2] at h
  have h3 := hl.1
  rw [← h] at h3
  exact absurd h3 (by decide)
theorem parse_bad (s : ByteArray) (hs : s.size ≤ 100000) (hno : ∀ l, Asc l → s.data.toList ≠ textB l) (w : World) (hW : Wld w) :
    Calls Tryd.prog 24 #[.string s] w fun e w' => e = .returned (.tuple #[.agg #[.slice none 0 0], .int .i64 6]) ∧ Below w.heap.size w w' := by
  refine (parse_any s hs w hW).mono ?_
  rintro e w' ⟨⟨a, n, c, l, rfl, ⟨ws, _, hr⟩, ht⟩ | ⟨rfl, _⟩, hb⟩
  · exact absurd ht (hno l hr.asc)
  · exact ⟨rfl, hb⟩
theorem read_bad (a : Option Addr) (n cap : Nat) (ps : List Nat) (w : World) (h : Bw w a n cap ps) (hn : n ≤ 1000000) (hno : ¬ readOK ps) :
    Calls Tryd.prog 30 #[.slice a n cap] w fun e w' => e = .returned (.tuple #[.agg #[.slice none 0 0], .int .i64 6]) ∧ Below w.heap.size w w' := by
  refine (read_any a n cap ps w h hn).mono ?_
  rintro e w' ⟨⟨hy, _⟩ | ⟨_, rfl⟩, hb⟩
  · exact absurd hy hno
  · exact ⟨rfl, hb⟩
theorem of_a (w : World) : Calls Tryd.prog 16 #[.slice (some ⟨w.heap.size, 0, none⟩) 5 5] (w.alloc (.cells #[.int .i64 5, .int .i64 1, .int .i64 5, .int .i64 (-3), .int .i64 5000] 3)) (SetPost (w.alloc (.cells #[.int .i64 5, .int .i64 1, .int .i64 5, .int .i64 (-3), .int .i64 5000] 3)) [1, 5]) :=
  of_lit w _ [5, 1, 5, -3, 5000] [1, 5] 5 rfl rfl (by omega) ofL_a
theorem of_b (w : World) : Calls Tryd.prog 16 #[.slice (some ⟨w.heap.size, 0, none⟩) 1 1] (w.alloc (.cells #[.int .i64 1] 3)) (SetPost (w.alloc (.cells #[.int .i64 1] 3)) [1]) :=
  of_lit w _ [1] [1] 1 rfl rfl (by omega) ofL_b
theorem of_c (w : World) : Calls Tryd.prog 16 #[.slice (some ⟨w.heap.size, 0, none⟩) 2 2] (w.alloc (.cells #[.int .i64 1, .int .i64 9] 3)) (SetPost (w.alloc (.cells #[.int .i64 1, .int .i64 9] 3)) [1, 9]) :=
  of_lit w _ [1, 9] [1, 9] 2 rfl rfl (by omega) ofL_c
theorem of_d (w : World) : Calls Tryd.prog 16 #[.slice (some ⟨w.heap.size, 0, none⟩) 1 1] (w.alloc (.cells #[.int .i64 2] 3)) (SetPost (w.alloc (.cells #[.int .i64 2] 3)) [2]) :=
  of_lit w _ [2] [2] 1 rfl rfl (by omega) ofL_d
theorem read_a (w : World) (g : Nat) (hg : g = w.heap.size) : Calls Tryd.prog 30 #[.slice (some ⟨g, 0, none⟩) 2 2] (w.alloc (.cells #[.int .u8 1, .int .u8 0] 5)) fun e w' => e = .returned (.tuple #[.agg #[.slice none 0 0], .int .i64 6]) ∧ Below (w.alloc (.cells #[.int .u8 1, .int .u8 0] 5)).heap.size (w.alloc (.cells #[.int .u8 1, .int .u8 0] 5)) w' := by
  subst hg
  exact read_bad _ _ _ [1, 0] _ (bw_lit w _ [1, 0] 2 rfl rfl (by decide) (by omega)) (by omega) (fun h => h.2 (by decide) rfl)
theorem parse_a (w : World) (hW : Wld w) : Calls Tryd.prog 24 #[.string ⟨#[123, 49, 44, 32, 53, 125]⟩] w fun e w' => e = .returned (.tuple #[.agg #[.slice none 0 0], .int .i64 6]) ∧ Below w.heap.size w w' :=
  parse_bad _ (by decide) no_text1 w hW
theorem parse_b (w : World) (hW : Wld w) : Calls Tryd.prog 24 #[.string ⟨#[123, 53, 32, 49, 125]⟩] w fun e w' => e = .returned (.tuple #[.agg #[.slice none 0 0], .int .i64 6]) ∧ Below w.heap.size w w' :=
  parse_bad _ (by decide) no_text2 w hW
theorem Bw.below {w w' : World} {a : Option Addr} {n cap : Nat} {ps : List Nat} (h : Bw w a n cap ps) (hb : Below w.heap.size w w') : Bw w' a n cap ps := by
  obtain ⟨h1, h2, h3, h4, h5⟩ := h
  refine ⟨h1, h2, h3, h4, ?_⟩
  rcases h5 with h5 | ⟨b, o, h5, h6, h7⟩
  · exact .inl h5
  · exact .inr ⟨b, o, h5, Nat.lt_of_lt_of_le h6 hb.size, fun j hj => (hb.cell (p := ⟨b, o + j, none⟩) h6).trans (h7 j hj)⟩
theorem equalB_a (a : Option Addr) (c : Nat) (w : World) (h : Bw w a 1 c [34]) : Calls Tryd.prog 28 #[.slice a 1 c, .slice (some ⟨w.heap.size, 0, none⟩) 1 1] (w.alloc (.cells #[.int .u8 34] 5)) fun e w' => e = .returned (.bool true) ∧ Below (w.alloc (.cells #[.int .u8 34] 5)).heap.size (w.alloc (.cells #[.int .u8 34] 5)) w' :=
  equalB_any _ _ _ _ _ _ [34] [34] _ (h.below ((Below.refl _ _).alloc (Nat.le_refl _) _)) (bw_lit w _ [34] 1 rfl rfl (by decide) (by omega))
theorem equalI_a (a : Option Addr) (c : Nat) (w : World) (h : Iw w a 2 c [0, 2]) : Calls Tryd.prog 21 #[.slice a 2 c, .slice (some ⟨w.heap.size, 0, none⟩) 2 2] (w.alloc (.cells #[.int .i64 0, .int .i64 2] 3)) fun e w' => e = .returned (.bool true) ∧ Below (w.alloc (.cells #[.int .i64 0, .int .i64 2] 3)).heap.size (w.alloc (.cells #[.int .i64 0, .int .i64 2] 3)) w' :=
  equalI_any _ _ _ _ _ _ [0, 2] [0, 2] _ (h.below ((Below.refl _ _).alloc (Nat.le_refl _) _)) (iw_lit w _ [0, 2] 2 rfl rfl (by omega))
theorem text_a (a : Option Addr) (n cap : Nat) (w : World) (h : Bs w a n cap [1, 5]) (hW : Wld w) :
    Calls Tryd.prog 26 #[.agg #[.slice a n cap]] w fun e w' => e = .returned (.string ⟨#[123, 49, 32, 53, 125]⟩) ∧ Below w.heap.size w w' := by
  have := text_any a n cap _ w h hW.tz hW.pow
  rw [text15] at this
  exact this
theorem bytes_a (a : Option Addr) (n cap : Nat) (w : World) (h : Bs w a n cap [1, 5]) :
    Calls Tryd.prog 23 #[.agg #[.slice a n cap]] w fun e w' => ∃ b c, e = .returned (.slice b 1 c) ∧ Bw w' b 1 c [34] ∧ Below w.heap.size w w' := by
  refine (bytes_any a n cap _ w h).mono ?_
  rintro e w' ⟨bs, v, rfl, hbs, hr, hb⟩
  obtain rfl := hbs.uniq bytes15
  obtain ⟨b, c, rfl, hbw⟩ := RowY.bw hr (by decide)
  exact ⟨b, c, rfl, hbw, hb⟩
theorem minus_a (a b : Option Addr) (n m cap dap : Nat) (w : World) (h : Bs w a n cap (belowL 3)) (k : Bs w b m dap [1]) :
    Calls Tryd.prog 38 #[.agg #[.slice a n cap], .agg #[.slice b m dap]] w (SetPost w [0, 2]) := by
  have := minus_any a b n m cap dap _ _ w h k
  rw [below3] at this
  exact this
theorem list_a (a : Option Addr) (n cap : Nat) (w : World) (h : Bs w a n cap [0, 2]) (hT : Tz w) :
    Calls Tryd.prog 22 #[.agg #[.slice a n cap]] w fun e w' => ∃ b c, e = .returned (.slice b 2 c) ∧ Iw w' b 2 c [0, 2] ∧ Below w.heap.size w w' := by
  refine (list_any a n cap _ w h hT).mono ?_
  rintro e w' ⟨v, rfl, hr, hb⟩
  obtain ⟨b, c, rfl, hi⟩ := iw_of_i64 hr rfl
  exact ⟨b, c, rfl, hi, hb⟩
theorem keep_box {w1 w2 : World} {o : Obj} {p : Addr} {v : Value} (h : w1.cell? p = some v) (hp : p.block < w1.heap.size) (h2 : Below (w1.alloc o).heap.size (w1.alloc o) w2) : w2.cell? p = some v := by
  rw [h2.cell (by rw [World.size_alloc]; omega), World.cell?_alloc_lt _ _ _ hp]; exact h
end Go.Proofs.YtaekkpoknpnnbaaDoor
