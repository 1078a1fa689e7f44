/-
  DERIVED. GIVEN WITH THE SEED: THE CARDS: each row of YtfjpbkmnlmecgaaGreatDoorRows.lean that lists a variable, with what it lists TIED to the program's text (the seventh form; the later family's looks); each row that meets fmt, with fmt's text TOLD by the authors' own Lean function (tested against real Go, not proved from fmt's source: count such statements apart). THE CARD IS WHAT COUNTS. Prove the row's statement (the work); the ties are given (YtfjpbkmnlmecgaaGreatDoorTie.lean); close each card by the builder's one call (the guide's Derived/Test/ToyasCard.lean, 'card_holds'). Laid BY PROGRAM, IN A SANDBOX (cutbox-door.mjs). By AI agents, Wed Nov 11 2026. No macro, syntax, notation, axiom, sorry.
-/
import Derived.Test.YtfjpbkmnlmecgaaGreatDoorRows
import GoSem.ClaimSeven
namespace Go.Proofs.YtfjpbkmnlmecgaaGreatDoor
namespace Rows

/-- THE TIED CARD OF 'arbaclaw23.RulePrints'. -/
def rulePrintsCard : Claim7 := { stood := { row := rulePrintsRow, standIns := [], harness := (true, "7dd639edb7ff955f0a5ebfd56b812d466d4030e88405472e23c315c91da84fb2"), looks := true }, kinds := [], alts := [], laidByText := true, laidKinds := [.data, .data, .data], laidTests := true, laidLooks := .later }
def RulePrintsCardSaid : Prop := Claim7.holds Tryz.pinned (.plain (OpenSpec.ofChange rulePrintsSpec)) rulePrintsCard

/-- THE TIED CARD OF 'arbaclaw23.RuleGrows'. -/
def ruleGrowsCard : Claim7 := { stood := { row := ruleGrowsRow, standIns := [], harness := (true, "7dd639edb7ff955f0a5ebfd56b812d466d4030e88405472e23c315c91da84fb2"), looks := true }, kinds := [], alts := [], laidByText := true, laidKinds := [.data, .data, .data], laidTests := true, laidLooks := .later }
def RuleGrowsCardSaid : Prop := Claim7.holds Tryz.pinned (.plain (OpenSpec.ofChange ruleGrowsSpec)) ruleGrowsCard

/-- THE TIED CARD OF 'arbaclaw23.RuleParses'. -/
def ruleParsesCard : Claim7 := { stood := { row := ruleParsesRow, standIns := [], harness := (true, "7dd639edb7ff955f0a5ebfd56b812d466d4030e88405472e23c315c91da84fb2"), looks := true }, kinds := [], alts := [], laidByText := true, laidKinds := [.data, .data, .data], laidTests := true, laidLooks := .later }
def RuleParsesCardSaid : Prop := Claim7.holds Tryz.pinned (.plain (OpenSpec.ofChange ruleParsesSpec)) ruleParsesCard

/-- THE TIED CARD OF 'arbaclaw23.RulePermits'. -/
def rulePermitsCard : Claim7 := { stood := { row := rulePermitsRow, standIns := [], harness := (true, "7dd639edb7ff955f0a5ebfd56b812d466d4030e88405472e23c315c91da84fb2"), looks := true }, kinds := [], alts := [], laidByText := true, laidKinds := [.data, .data, .data], laidTests := true, laidLooks := .later }
def RulePermitsCardSaid : Prop := Claim7.holds Tryz.pinned (.plain (OpenSpec.ofChange rulePermitsSpec)) rulePermitsCard

/-- THE TIED CARD OF 'arbaclaw23.RuleChecks'. -/
def ruleChecksCard : Claim7 := { stood := { row := ruleChecksRow, standIns := [], harness := (true, "7dd639edb7ff955f0a5ebfd56b812d466d4030e88405472e23c315c91da84fb2"), looks := true }, kinds := [], alts := [], laidByText := true, laidKinds := [.data, .data, .data], laidTests := true, laidLooks := .later }
def RuleChecksCardSaid : Prop := Claim7.holds Tryz.pinned (.plain (OpenSpec.ofChange ruleChecksSpec)) ruleChecksCard

/-- THE TIED CARD OF 'arbaclaw23.RuleMany'. -/
def ruleManyCard : Claim7 := { stood := { row := ruleManyRow, standIns := [], harness := (true, "7dd639edb7ff955f0a5ebfd56b812d466d4030e88405472e23c315c91da84fb2"), looks := true }, kinds := [], alts := [], laidByText := true, laidKinds := [.data, .data, .data], laidTests := true, laidLooks := .later }
def RuleManyCardSaid : Prop := Claim7.holds Tryz.pinned (.plain (OpenSpec.ofChange ruleManySpec)) ruleManyCard

/-- THE TIED CARD OF 'arbaclaw23.RuleClosed'. -/
def ruleClosedCard : Claim7 := { stood := { row := ruleClosedRow, standIns := [], harness := (true, "7dd639edb7ff955f0a5ebfd56b812d466d4030e88405472e23c315c91da84fb2"), looks := true }, kinds := [], alts := [], laidByText := true, laidKinds := [.data, .data, .data], laidTests := true, laidLooks := .later }
def RuleClosedCardSaid : Prop := Claim7.holds Tryz.pinned (.plain (OpenSpec.ofChange ruleClosedSpec)) ruleClosedCard

/-- THE TIED CARD OF 'arbaclaw23.RuleBack'. -/
def ruleBackCard : Claim7 := { stood := { row := ruleBackRow, standIns := [], harness := (true, "7dd639edb7ff955f0a5ebfd56b812d466d4030e88405472e23c315c91da84fb2"), looks := true }, kinds := [], alts := [], laidByText := true, laidKinds := [.data, .data, .data], laidTests := true, laidLooks := .later }
def RuleBackCardSaid : Prop := Claim7.holds Tryz.pinned (.plain (OpenSpec.ofChange ruleBackSpec)) ruleBackCard

/-- THE TIED CARD OF 'arbaclaw23.RuleBytes'. -/
def ruleBytesCard : Claim7 := { stood := { row := ruleBytesRow, standIns := [], harness := (true, "7dd639edb7ff955f0a5ebfd56b812d466d4030e88405472e23c315c91da84fb2"), looks := true }, kinds := [], alts := [], laidByText := true, laidKinds := [.data, .data, .data, .data, .sentinel, .sentinel, .pinned], laidTests := true, laidLooks := .later }
def RuleBytesCardSaid : Prop := Claim7.holds Tryz.pinned (.plain (OpenSpec.ofChange ruleBytesSpec)) ruleBytesCard

/-- THE SECOND FORM's CARD OF 'arbaclaw23.RulePrints'. -/
def rulePrintsUptoCard : Claim7 := { stood := { row := rulePrintsUptoRow, standIns := [], harness := (true, "7dd639edb7ff955f0a5ebfd56b812d466d4030e88405472e23c315c91da84fb2"), looks := true }, kinds := [], alts := [], laidByText := true, laidKinds := [.data, .data, .data], laidTests := true, laidLooks := .later }
def RulePrintsUptoCardSaid : Prop := Claim7.holds Tryz.pinned (.plain (OpenSpec.upto rulePrintsSpec)) rulePrintsUptoCard

/-- THE SECOND FORM's CARD OF 'arbaclaw23.RuleGrows'. -/
def ruleGrowsUptoCard : Claim7 := { stood := { row := ruleGrowsUptoRow, standIns := [], harness := (true, "7dd639edb7ff955f0a5ebfd56b812d466d4030e88405472e23c315c91da84fb2"), looks := true }, kinds := [], alts := [], laidByText := true, laidKinds := [.data, .data, .data], laidTests := true, laidLooks := .later }
def RuleGrowsUptoCardSaid : Prop := Claim7.holds Tryz.pinned (.plain (OpenSpec.upto ruleGrowsSpec)) ruleGrowsUptoCard

/-- THE SECOND FORM's CARD OF 'arbaclaw23.RuleParses'. -/
def ruleParsesUptoCard : Claim7 := { stood := { row := ruleParsesUptoRow, standIns := [], harness := (true, "7dd639edb7ff955f0a5ebfd56b812d466d4030e88405472e23c315c91da84fb2"), looks := true }, kinds := [], alts := [], laidByText := true, laidKinds := [.data, .data, .data], laidTests := true, laidLooks := .later }
def RuleParsesUptoCardSaid : Prop := Claim7.holds Tryz.pinned (.plain (OpenSpec.upto ruleParsesSpec)) ruleParsesUptoCard

/-- THE SECOND FORM's CARD OF 'arbaclaw23.RulePermits'. -/
def rulePermitsUptoCard : Claim7 := { stood := { row := rulePermitsUptoRow, standIns := [], harness := (true, "7dd639edb7ff955f0a5ebfd56b812d466d4030e88405472e23c315c91da84fb2"), looks := true }, kinds := [], alts := [], laidByText := true, laidKinds := [.data, .data, .data], laidTests := true, laidLooks := .later }
def RulePermitsUptoCardSaid : Prop := Claim7.holds Tryz.pinned (.plain (OpenSpec.upto rulePermitsSpec)) rulePermitsUptoCard

/-- THE SECOND FORM's CARD OF 'arbaclaw23.RuleChecks'. -/
def ruleChecksUptoCard : Claim7 := { stood := { row := ruleChecksUptoRow, standIns := [], harness := (true, "7dd639edb7ff955f0a5ebfd56b812d466d4030e88405472e23c315c91da84fb2"), looks := true }, kinds := [], alts := [], laidByText := true, laidKinds := [.data, .data, .data], laidTests := true, laidLooks := .later }
def RuleChecksUptoCardSaid : Prop := Claim7.holds Tryz.pinned (.plain (OpenSpec.upto ruleChecksSpec)) ruleChecksUptoCard

/-- THE SECOND FORM's CARD OF 'arbaclaw23.RuleMany'. -/
def ruleManyUptoCard : Claim7 := { stood := { row := ruleManyUptoRow, standIns := [], harness := (true, "7dd639edb7ff955f0a5ebfd56b812d466d4030e88405472e23c315c91da84fb2"), looks := true }, kinds := [], alts := [], laidByText := true, laidKinds := [.data, .data, .data], laidTests := true, laidLooks := .later }
def RuleManyUptoCardSaid : Prop := Claim7.holds Tryz.pinned (.plain (OpenSpec.upto ruleManySpec)) ruleManyUptoCard

/-- THE SECOND FORM's CARD OF 'arbaclaw23.RuleClosed'. -/
def ruleClosedUptoCard : Claim7 := { stood := { row := ruleClosedUptoRow, standIns := [], harness := (true, "7dd639edb7ff955f0a5ebfd56b812d466d4030e88405472e23c315c91da84fb2"), looks := true }, kinds := [], alts := [], laidByText := true, laidKinds := [.data, .data, .data], laidTests := true, laidLooks := .later }
def RuleClosedUptoCardSaid : Prop := Claim7.holds Tryz.pinned (.plain (OpenSpec.upto ruleClosedSpec)) ruleClosedUptoCard

/-- THE SECOND FORM's CARD OF 'arbaclaw23.RuleBack'. -/
def ruleBackUptoCard : Claim7 := { stood := { row := ruleBackUptoRow, standIns := [], harness := (true, "7dd639edb7ff955f0a5ebfd56b812d466d4030e88405472e23c315c91da84fb2"), looks := true }, kinds := [], alts := [], laidByText := true, laidKinds := [.data, .data, .data], laidTests := true, laidLooks := .later }
def RuleBackUptoCardSaid : Prop := Claim7.holds Tryz.pinned (.plain (OpenSpec.upto ruleBackSpec)) ruleBackUptoCard

/-- THE SECOND FORM's CARD OF 'arbaclaw23.RuleBytes'. -/
def ruleBytesUptoCard : Claim7 := { stood := { row := ruleBytesUptoRow, standIns := [], harness := (true, "7dd639edb7ff955f0a5ebfd56b812d466d4030e88405472e23c315c91da84fb2"), looks := true }, kinds := [], alts := [], laidByText := true, laidKinds := [.data, .data, .data, .data, .sentinel, .sentinel, .pinned], laidTests := true, laidLooks := .later }
def RuleBytesUptoCardSaid : Prop := Claim7.holds Tryz.pinned (.plain (OpenSpec.upto ruleBytesSpec)) ruleBytesUptoCard
end Rows
end Go.Proofs.YtfjpbkmnlmecgaaGreatDoor
