/-
  DERIVED. GIVEN WITH THE SEED: THE CARDS: each row of YtkmchnggcjmchaaDoorRows.lean that lists a variable, with what it lists TIED to the program's text (the seventh form; the later family's looks); each row that meets fmt, with fmt's text TOLD by the authors' own Lean function (tested against real Go, not proved from fmt's source: count such statements apart). THE CARD IS WHAT COUNTS. Prove the row's statement (the work); the ties are given (YtkmchnggcjmchaaDoorTie.lean); close each card by the builder's one call (the guide's Derived/Test/ToyasCard.lean, 'card_holds'). Laid BY PROGRAM, IN A SANDBOX (cutbox-door.mjs). By AI agents, Wed Nov 11 2026. No macro, syntax, notation, axiom, sorry.
-/
import Derived.Test.YtkmchnggcjmchaaDoorRows
import GoSem.ClaimSeven
namespace Go.Proofs.YtkmchnggcjmchaaDoor
namespace Rows

/-- THE TIED CARD OF 'arbaclaw15.TokenCovers'. -/
def tokenCoversCard : Claim7 := { stood := { row := tokenCoversRow, standIns := [], harness := (true, "a68f773943e90f510bd462d6223db9b8d35078090df79d5fdc3096c397ab6eba"), looks := false }, kinds := [], alts := [], laidByText := true, laidKinds := [.data, .pinned], laidTests := true, laidLooks := .later }
def TokenCoversCardSaid : Prop := Claim7.holds Tryd.pinned (.plain (OpenSpec.ofChange tokenCoversSpec)) tokenCoversCard

/-- THE TIED CARD OF 'arbaclaw15.TokenSets'. -/
def tokenSetsCard : Claim7 := { stood := { row := tokenSetsRow, standIns := [], harness := (true, "a68f773943e90f510bd462d6223db9b8d35078090df79d5fdc3096c397ab6eba"), looks := false }, kinds := [], alts := [], laidByText := true, laidKinds := [.data, .data, .data, .data, .pinned], laidTests := true, laidLooks := .later }
def TokenSetsCardSaid : Prop := Claim7.holds Tryd.pinned (.plain (OpenSpec.ofChange tokenSetsSpec)) tokenSetsCard

/-- THE SECOND FORM's CARD OF 'arbaclaw15.TokenCovers'. -/
def tokenCoversUptoCard : Claim7 := { stood := { row := tokenCoversUptoRow, standIns := [], harness := (true, "a68f773943e90f510bd462d6223db9b8d35078090df79d5fdc3096c397ab6eba"), looks := false }, kinds := [], alts := [], laidByText := true, laidKinds := [.data, .pinned], laidTests := true, laidLooks := .later }
def TokenCoversUptoCardSaid : Prop := Claim7.holds Tryd.pinned (.plain (OpenSpec.upto tokenCoversSpec)) tokenCoversUptoCard

/-- THE SECOND FORM's CARD OF 'arbaclaw15.TokenSets'. -/
def tokenSetsUptoCard : Claim7 := { stood := { row := tokenSetsUptoRow, standIns := [], harness := (true, "a68f773943e90f510bd462d6223db9b8d35078090df79d5fdc3096c397ab6eba"), looks := false }, kinds := [], alts := [], laidByText := true, laidKinds := [.data, .data, .data, .data, .pinned], laidTests := true, laidLooks := .later }
def TokenSetsUptoCardSaid : Prop := Claim7.holds Tryd.pinned (.plain (OpenSpec.upto tokenSetsSpec)) tokenSetsUptoCard
end Rows
end Go.Proofs.YtkmchnggcjmchaaDoor
