/-
  No cell of these rows narrows 'for every input' (looked for: loops, veiled, ifaces, maps, wideKeys, modest, calm, conditions, laid).
  DERIVED. THE GIVEN ROWS OF THIS SEAT. 7 by the template 'for every input the law returns true; each argument reads behind the call as it read before'; 0 by the template 'total and deterministic' (their statements: YtnjaflldlhiefaaTotals.lean).
  GIVEN WITH THE SEED: the statements are not yours to turn. If you find one false, say at which input.
  Laid BY PROGRAM, IN A SANDBOX (cutbox-rows.mjs): the forced cells as the released guide's own fill.sh prints them over the translation b54b622892895287… (all of the seat's roots in one cut). By AI agents, Wed Nov 11 2026. No macro, syntax, notation, axiom, sorry.
-/
import Derived.Test.YtnjaflldlhiefaaChecked
import GoSem.Claim
import GoSem.ClaimJoined
import GoSem.ClaimMapViews
import Derived.JoinedTies
import Derived.KernelRfl
namespace Go.Proofs.Ytnjaflldlhiefaa
/- THE CELL 'sum', in the pinned program and in every row, IS THE sha256 OF THE DUMP (.gsa) THAT YtnjaflldlhiefaaProg.lean LOADS. Nothing in Lean hashes anything: it is a label: what it is worth is what the hold of that sum in a sandbox is worth. -/
noncomputable def Try.pinned : Pinned := { name := "ytnjaflldlhiefaa", sum := "b54b622892895287a3dad42a6c25689a61fea72d721ec37d8ae0b9b52ad3d516", checked := Try.checked }
namespace Rows
def none {H : Type} : Left H := { results := [], args := [] }

/-- 'arbaclaw15.TokenScans': WHATEVER THE INPUT: true; the input reads as it did. -/
def tokenScansSpec : ChangeSpec := { name := "tokenScans", fn := fun _ => fun
  | [d] => { results := [.lit (.bool true)], args := [d] }
  | _ => none }
def tokenScansRow : OpenClaim := { program := "ytnjaflldlhiefaa", sum := "b54b622892895287a3dad42a6c25689a61fea72d721ec37d8ae0b9b52ad3d516", func := "arbac/arbaclaw15.TokenScans", spec := "tokenScans", inPlace := ["internal/abi.NoEscape", "internal/bytealg.MakeNoZero"], unfollowed := true, recurses := true, apart := false }
def TokenScansSaid : Prop := tokenScansRow.holds Try.pinned (OpenSpec.ofChange tokenScansSpec)

/-- ITS FALSE NEIGHBOUR: 'it returns false'. Refute it at one input. -/
def tokenScansWrong : ChangeSpec := { name := "tokenScans", fn := fun _ => fun
  | [d] => { results := [.lit (.bool false)], args := [d] }
  | _ => none }
def TokenScansWrongFalsely : Prop := tokenScansRow.holds Try.pinned (OpenSpec.ofChange tokenScansWrong)

/-- 'arbaclaw15.TokenJoins': WHATEVER THE INPUT: true; the input reads as it did. -/
def tokenJoinsSpec : ChangeSpec := { name := "tokenJoins", fn := fun _ => fun
  | [d1, d2] => { results := [.lit (.bool true)], args := [d1, d2] }
  | _ => none }
def tokenJoinsRow : OpenClaim := { program := "ytnjaflldlhiefaa", sum := "b54b622892895287a3dad42a6c25689a61fea72d721ec37d8ae0b9b52ad3d516", func := "arbac/arbaclaw15.TokenJoins", spec := "tokenJoins", inPlace := ["internal/abi.NoEscape", "internal/bytealg.MakeNoZero"], unfollowed := true, recurses := true, apart := false }
def TokenJoinsSaid : Prop := tokenJoinsRow.holds Try.pinned (OpenSpec.ofChange tokenJoinsSpec)

/-- ITS FALSE NEIGHBOUR: 'it returns false'. Refute it at one input. -/
def tokenJoinsWrong : ChangeSpec := { name := "tokenJoins", fn := fun _ => fun
  | [d1, d2] => { results := [.lit (.bool false)], args := [d1, d2] }
  | _ => none }
def TokenJoinsWrongFalsely : Prop := tokenJoinsRow.holds Try.pinned (OpenSpec.ofChange tokenJoinsWrong)

/-- 'arbaclaw15.TokenBlanks': WHATEVER THE INPUT: true; the input reads as it did. -/
def tokenBlanksSpec : ChangeSpec := { name := "tokenBlanks", fn := fun _ => fun
  | [d1, d2] => { results := [.lit (.bool true)], args := [d1, d2] }
  | _ => none }
def tokenBlanksRow : OpenClaim := { program := "ytnjaflldlhiefaa", sum := "b54b622892895287a3dad42a6c25689a61fea72d721ec37d8ae0b9b52ad3d516", func := "arbac/arbaclaw15.TokenBlanks", spec := "tokenBlanks", inPlace := ["internal/abi.NoEscape", "internal/bytealg.MakeNoZero"], unfollowed := true, recurses := true, apart := false }
def TokenBlanksSaid : Prop := tokenBlanksRow.holds Try.pinned (OpenSpec.ofChange tokenBlanksSpec)

/-- ITS FALSE NEIGHBOUR: 'it returns false'. Refute it at one input. -/
def tokenBlanksWrong : ChangeSpec := { name := "tokenBlanks", fn := fun _ => fun
  | [d1, d2] => { results := [.lit (.bool false)], args := [d1, d2] }
  | _ => none }
def TokenBlanksWrongFalsely : Prop := tokenBlanksRow.holds Try.pinned (OpenSpec.ofChange tokenBlanksWrong)

/-- 'arbaclaw15.TokenNames': WHATEVER THE INPUT: true; the input reads as it did. -/
def tokenNamesSpec : ChangeSpec := { name := "tokenNames", fn := fun _ => fun
  | [d1, d2] => { results := [.lit (.bool true)], args := [d1, d2] }
  | _ => none }
def tokenNamesRow : OpenClaim := { program := "ytnjaflldlhiefaa", sum := "b54b622892895287a3dad42a6c25689a61fea72d721ec37d8ae0b9b52ad3d516", func := "arbac/arbaclaw15.TokenNames", spec := "tokenNames", inPlace := ["internal/abi.NoEscape", "internal/bytealg.MakeNoZero"], unfollowed := true, recurses := true, apart := false }
def TokenNamesSaid : Prop := tokenNamesRow.holds Try.pinned (OpenSpec.ofChange tokenNamesSpec)

/-- ITS FALSE NEIGHBOUR: 'it returns false'. Refute it at one input. -/
def tokenNamesWrong : ChangeSpec := { name := "tokenNames", fn := fun _ => fun
  | [d1, d2] => { results := [.lit (.bool false)], args := [d1, d2] }
  | _ => none }
def TokenNamesWrongFalsely : Prop := tokenNamesRow.holds Try.pinned (OpenSpec.ofChange tokenNamesWrong)

/-- 'arbaclaw15.TokenReads': WHATEVER THE INPUT: true; the input reads as it did. -/
def tokenReadsSpec : ChangeSpec := { name := "tokenReads", fn := fun _ => fun
  | [d1, d2, d3] => { results := [.lit (.bool true)], args := [d1, d2, d3] }
  | _ => none }
def tokenReadsRow : OpenClaim := { program := "ytnjaflldlhiefaa", sum := "b54b622892895287a3dad42a6c25689a61fea72d721ec37d8ae0b9b52ad3d516", func := "arbac/arbaclaw15.TokenReads", spec := "tokenReads", inPlace := ["internal/abi.NoEscape", "internal/bytealg.MakeNoZero"], unfollowed := true, recurses := true, apart := false }
def TokenReadsSaid : Prop := tokenReadsRow.holds Try.pinned (OpenSpec.ofChange tokenReadsSpec)

/-- ITS FALSE NEIGHBOUR: 'it returns false'. Refute it at one input. -/
def tokenReadsWrong : ChangeSpec := { name := "tokenReads", fn := fun _ => fun
  | [d1, d2, d3] => { results := [.lit (.bool false)], args := [d1, d2, d3] }
  | _ => none }
def TokenReadsWrongFalsely : Prop := tokenReadsRow.holds Try.pinned (OpenSpec.ofChange tokenReadsWrong)

/-- 'arbaclaw15.TokenNil': WHATEVER THE INPUT: true; the input reads as it did. -/
def tokenNilSpec : ChangeSpec := { name := "tokenNil", fn := fun _ => fun
  | [d] => { results := [.lit (.bool true)], args := [d] }
  | _ => none }
def tokenNilRow : OpenClaim := { program := "ytnjaflldlhiefaa", sum := "b54b622892895287a3dad42a6c25689a61fea72d721ec37d8ae0b9b52ad3d516", func := "arbac/arbaclaw15.TokenNil", spec := "tokenNil", inPlace := ["internal/abi.NoEscape", "internal/bytealg.MakeNoZero"], unfollowed := true, recurses := true, apart := false }
def TokenNilSaid : Prop := tokenNilRow.holds Try.pinned (OpenSpec.ofChange tokenNilSpec)

/-- ITS FALSE NEIGHBOUR: 'it returns false'. Refute it at one input. -/
def tokenNilWrong : ChangeSpec := { name := "tokenNil", fn := fun _ => fun
  | [d] => { results := [.lit (.bool false)], args := [d] }
  | _ => none }
def TokenNilWrongFalsely : Prop := tokenNilRow.holds Try.pinned (OpenSpec.ofChange tokenNilWrong)

/-- 'arbaclaw15.TokenLong': WHATEVER THE INPUT: true; the input reads as it did. -/
def tokenLongSpec : ChangeSpec := { name := "tokenLong", fn := fun _ => fun
  | [d1, d2] => { results := [.lit (.bool true)], args := [d1, d2] }
  | _ => none }
def tokenLongRow : OpenClaim := { program := "ytnjaflldlhiefaa", sum := "b54b622892895287a3dad42a6c25689a61fea72d721ec37d8ae0b9b52ad3d516", func := "arbac/arbaclaw15.TokenLong", spec := "tokenLong", inPlace := ["internal/abi.NoEscape", "internal/bytealg.MakeNoZero"], unfollowed := true, recurses := true, apart := false }
def TokenLongSaid : Prop := tokenLongRow.holds Try.pinned (OpenSpec.ofChange tokenLongSpec)

/-- ITS FALSE NEIGHBOUR: 'it returns false'. Refute it at one input. -/
def tokenLongWrong : ChangeSpec := { name := "tokenLong", fn := fun _ => fun
  | [d1, d2] => { results := [.lit (.bool false)], args := [d1, d2] }
  | _ => none }
def TokenLongWrongFalsely : Prop := tokenLongRow.holds Try.pinned (OpenSpec.ofChange tokenLongWrong)

/- THE SECOND FORM. 'bulk': how many values and letters a reading holds, each counted each time it is reached (what is shared counts as often as it is met; a slice's spare places count too). A statement '..UptoSaid' is the law's where the arguments, and the package variables that the reading takes, are together of bulk at most 1048576: NARROWER than '..Said'. Prove '..Said' where nothing that the law and all that it calls make is longer than what came in: it says more and counts as full. Else prove '..UptoSaid'. A law counts once. -/
mutual
def uptoBulk {H : Type} : DataW H → Nat
  | .lit (.string bytes) => bytes.length + 1
  | .lit _ => 1
  | .nil => 1
  | .ptr d => uptoBulk d + 1
  | .slice elems spare => uptoBulkAll elems + uptoBulkAll spare + 1
  | .agg parts => uptoBulkAll parts + 1
  | .iface _ d => uptoBulk d + 1
  | .map entries => uptoBulkEntries entries + 1
  | .held _ => 1
def uptoBulkAll {H : Type} : List (DataW H) → Nat
  | [] => 0
  | d :: r => uptoBulk d + uptoBulkAll r
def uptoBulkEntries {H : Type} : List (Lit × DataW H) → Nat
  | [] => 0
  | x :: r => uptoBulkEntry x + uptoBulkEntries r
def uptoBulkEntry {H : Type} : Lit × DataW H → Nat
  | (.string bytes, d) => bytes.length + uptoBulk d + 1
  | (_, d) => uptoBulk d + 1
 end
def uptoSmall : (H : Type) → List (DataW H) → Bool := fun _ ds => decide (uptoBulkAll ds ≤ 1048576)
def OpenSpec.upto (s : _root_.Go.ChangeSpec) : _root_.Go.OpenSpec := { _root_.Go.OpenSpec.ofChange s with cond := some uptoSmall }

/-- 'arbaclaw15.TokenScans', WHERE WHAT IT READS IS OF BULK AT MOST 1048576: true; the input reads as it did. -/
def tokenScansUptoRow : OpenClaim := { program := "ytnjaflldlhiefaa", sum := "b54b622892895287a3dad42a6c25689a61fea72d721ec37d8ae0b9b52ad3d516", func := "arbac/arbaclaw15.TokenScans", spec := "tokenScans", inPlace := ["internal/abi.NoEscape", "internal/bytealg.MakeNoZero"], unfollowed := true, recurses := true, apart := false, narrowed := true }
def TokenScansUptoSaid : Prop := tokenScansUptoRow.holds Try.pinned (OpenSpec.upto tokenScansSpec)

/-- 'arbaclaw15.TokenJoins', WHERE WHAT IT READS IS OF BULK AT MOST 1048576: true; the input reads as it did. -/
def tokenJoinsUptoRow : OpenClaim := { program := "ytnjaflldlhiefaa", sum := "b54b622892895287a3dad42a6c25689a61fea72d721ec37d8ae0b9b52ad3d516", func := "arbac/arbaclaw15.TokenJoins", spec := "tokenJoins", inPlace := ["internal/abi.NoEscape", "internal/bytealg.MakeNoZero"], unfollowed := true, recurses := true, apart := false, narrowed := true }
def TokenJoinsUptoSaid : Prop := tokenJoinsUptoRow.holds Try.pinned (OpenSpec.upto tokenJoinsSpec)

/-- 'arbaclaw15.TokenBlanks', WHERE WHAT IT READS IS OF BULK AT MOST 1048576: true; the input reads as it did. -/
def tokenBlanksUptoRow : OpenClaim := { program := "ytnjaflldlhiefaa", sum := "b54b622892895287a3dad42a6c25689a61fea72d721ec37d8ae0b9b52ad3d516", func := "arbac/arbaclaw15.TokenBlanks", spec := "tokenBlanks", inPlace := ["internal/abi.NoEscape", "internal/bytealg.MakeNoZero"], unfollowed := true, recurses := true, apart := false, narrowed := true }
def TokenBlanksUptoSaid : Prop := tokenBlanksUptoRow.holds Try.pinned (OpenSpec.upto tokenBlanksSpec)

/-- 'arbaclaw15.TokenNames', WHERE WHAT IT READS IS OF BULK AT MOST 1048576: true; the input reads as it did. -/
def tokenNamesUptoRow : OpenClaim := { program := "ytnjaflldlhiefaa", sum := "b54b622892895287a3dad42a6c25689a61fea72d721ec37d8ae0b9b52ad3d516", func := "arbac/arbaclaw15.TokenNames", spec := "tokenNames", inPlace := ["internal/abi.NoEscape", "internal/bytealg.MakeNoZero"], unfollowed := true, recurses := true, apart := false, narrowed := true }
def TokenNamesUptoSaid : Prop := tokenNamesUptoRow.holds Try.pinned (OpenSpec.upto tokenNamesSpec)

/-- 'arbaclaw15.TokenReads', WHERE WHAT IT READS IS OF BULK AT MOST 1048576: true; the input reads as it did. -/
def tokenReadsUptoRow : OpenClaim := { program := "ytnjaflldlhiefaa", sum := "b54b622892895287a3dad42a6c25689a61fea72d721ec37d8ae0b9b52ad3d516", func := "arbac/arbaclaw15.TokenReads", spec := "tokenReads", inPlace := ["internal/abi.NoEscape", "internal/bytealg.MakeNoZero"], unfollowed := true, recurses := true, apart := false, narrowed := true }
def TokenReadsUptoSaid : Prop := tokenReadsUptoRow.holds Try.pinned (OpenSpec.upto tokenReadsSpec)

/-- 'arbaclaw15.TokenNil', WHERE WHAT IT READS IS OF BULK AT MOST 1048576: true; the input reads as it did. -/
def tokenNilUptoRow : OpenClaim := { program := "ytnjaflldlhiefaa", sum := "b54b622892895287a3dad42a6c25689a61fea72d721ec37d8ae0b9b52ad3d516", func := "arbac/arbaclaw15.TokenNil", spec := "tokenNil", inPlace := ["internal/abi.NoEscape", "internal/bytealg.MakeNoZero"], unfollowed := true, recurses := true, apart := false, narrowed := true }
def TokenNilUptoSaid : Prop := tokenNilUptoRow.holds Try.pinned (OpenSpec.upto tokenNilSpec)

/-- 'arbaclaw15.TokenLong', WHERE WHAT IT READS IS OF BULK AT MOST 1048576: true; the input reads as it did. -/
def tokenLongUptoRow : OpenClaim := { program := "ytnjaflldlhiefaa", sum := "b54b622892895287a3dad42a6c25689a61fea72d721ec37d8ae0b9b52ad3d516", func := "arbac/arbaclaw15.TokenLong", spec := "tokenLong", inPlace := ["internal/abi.NoEscape", "internal/bytealg.MakeNoZero"], unfollowed := true, recurses := true, apart := false, narrowed := true }
def TokenLongUptoSaid : Prop := tokenLongUptoRow.holds Try.pinned (OpenSpec.upto tokenLongSpec)

end Rows
end Go.Proofs.Ytnjaflldlhiefaa
