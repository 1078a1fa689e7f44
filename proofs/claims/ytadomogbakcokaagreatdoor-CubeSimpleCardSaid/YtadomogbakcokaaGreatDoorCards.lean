/-
  DERIVED. GIVEN WITH THE SEED: THE CARDS: each row of YtadomogbakcokaaGreatDoorRows.lean that lists a variable, with what it lists TIED to the program's text (the seventh form; the later family's looks); each row that meets fmt, with fmt's text TOLD by the authors' own Lean function (tested against real Go, not proved from fmt's source: count such statements apart). THE CARD IS WHAT COUNTS. Prove the row's statement (the work); the ties are given (YtadomogbakcokaaGreatDoorTie.lean); close each card by the builder's one call (the guide's Derived/Test/ToyasCard.lean, 'card_holds'). Laid BY PROGRAM, IN A SANDBOX (cutbox-door.mjs). By AI agents, Wed Nov 11 2026. No macro, syntax, notation, axiom, sorry.
-/
import Derived.Test.YtadomogbakcokaaGreatDoorRows
import GoSem.ClaimSeven
namespace Go.Proofs.YtadomogbakcokaaGreatDoor
namespace Rows

/-- THE TIED CARD OF 'arbaclaw14.CubeHolds'. -/
def cubeHoldsCard : Claim7 := { stood := { row := cubeHoldsRow, standIns := [], harness := (true, "ba70f918b900c71c86bba2cc9152becc52243ceaaaa085b10f8883f543a97bb1"), looks := true }, kinds := [], alts := [], laidByText := true, laidKinds := [.data, .data, .data, .sentinel, .sentinel, .listed, .data], laidTests := true, laidLooks := .later }
def CubeHoldsCardSaid : Prop := Claim7.holds Tryz.pinned (.plain (OpenSpec.ofChange cubeHoldsSpec)) cubeHoldsCard

/-- THE TIED CARD OF 'arbaclaw14.CubeOrders'. -/
def cubeOrdersCard : Claim7 := { stood := { row := cubeOrdersRow, standIns := [], harness := (true, "ba70f918b900c71c86bba2cc9152becc52243ceaaaa085b10f8883f543a97bb1"), looks := true }, kinds := [], alts := [], laidByText := true, laidKinds := [.data, .data, .data, .sentinel, .sentinel, .listed, .data], laidTests := true, laidLooks := .later }
def CubeOrdersCardSaid : Prop := Claim7.holds Tryz.pinned (.plain (OpenSpec.ofChange cubeOrdersSpec)) cubeOrdersCard

/-- THE TIED CARD OF 'arbaclaw14.CubeTexts'. -/
def cubeTextsCard : Claim7 := { stood := { row := cubeTextsRow, standIns := [], harness := (true, "ba70f918b900c71c86bba2cc9152becc52243ceaaaa085b10f8883f543a97bb1"), looks := true }, kinds := [], alts := [], laidByText := true, laidKinds := [.data, .data, .data, .sentinel, .sentinel, .listed, .data], laidTests := true, laidLooks := .later }
def CubeTextsCardSaid : Prop := Claim7.holds Tryz.pinned (.plain (OpenSpec.ofChange cubeTextsSpec)) cubeTextsCard

/-- THE TIED CARD OF 'arbaclaw14.CubeCounts'. -/
def cubeCountsCard : Claim7 := { stood := { row := cubeCountsRow, standIns := [], harness := (true, "ba70f918b900c71c86bba2cc9152becc52243ceaaaa085b10f8883f543a97bb1"), looks := true }, kinds := [], alts := [], laidByText := true, laidKinds := [.data, .data, .data, .sentinel, .sentinel, .listed, .data], laidTests := true, laidLooks := .later }
def CubeCountsCardSaid : Prop := Claim7.holds Tryz.pinned (.plain (OpenSpec.ofChange cubeCountsSpec)) cubeCountsCard

/-- THE TIED CARD OF 'arbaclaw14.CubeMeets'. -/
def cubeMeetsCard : Claim7 := { stood := { row := cubeMeetsRow, standIns := [], harness := (true, "ba70f918b900c71c86bba2cc9152becc52243ceaaaa085b10f8883f543a97bb1"), looks := true }, kinds := [], alts := [], laidByText := true, laidKinds := [.data, .data, .data, .sentinel, .sentinel, .listed, .data], laidTests := true, laidLooks := .later }
def CubeMeetsCardSaid : Prop := Claim7.holds Tryz.pinned (.plain (OpenSpec.ofChange cubeMeetsSpec)) cubeMeetsCard

/-- THE TIED CARD OF 'arbaclaw14.CubeMinus'. -/
def cubeMinusCard : Claim7 := { stood := { row := cubeMinusRow, standIns := [], harness := (true, "ba70f918b900c71c86bba2cc9152becc52243ceaaaa085b10f8883f543a97bb1"), looks := true }, kinds := [], alts := [], laidByText := true, laidKinds := [.data, .data, .data, .sentinel, .sentinel, .listed, .data], laidTests := true, laidLooks := .later }
def CubeMinusCardSaid : Prop := Claim7.holds Tryz.pinned (.plain (OpenSpec.ofChange cubeMinusSpec)) cubeMinusCard

/-- THE TIED CARD OF 'arbaclaw14.CubeParts'. -/
def cubePartsCard : Claim7 := { stood := { row := cubePartsRow, standIns := [], harness := (true, "ba70f918b900c71c86bba2cc9152becc52243ceaaaa085b10f8883f543a97bb1"), looks := true }, kinds := [], alts := [], laidByText := true, laidKinds := [.data, .data, .data, .sentinel, .sentinel, .listed, .data], laidTests := true, laidLooks := .later }
def CubePartsCardSaid : Prop := Claim7.holds Tryz.pinned (.plain (OpenSpec.ofChange cubePartsSpec)) cubePartsCard

/-- THE TIED CARD OF 'arbaclaw14.CubeSimple'. -/
def cubeSimpleCard : Claim7 := { stood := { row := cubeSimpleRow, standIns := [], harness := (true, "ba70f918b900c71c86bba2cc9152becc52243ceaaaa085b10f8883f543a97bb1"), looks := true }, kinds := [], alts := [], laidByText := true, laidKinds := [.data, .data, .data, .sentinel, .sentinel, .listed, .data], laidTests := true, laidLooks := .later }
def CubeSimpleCardSaid : Prop := Claim7.holds Tryz.pinned (.plain (OpenSpec.ofChange cubeSimpleSpec)) cubeSimpleCard

/-- THE TIED CARD OF 'arbaclaw14.CubeSplits'. -/
def cubeSplitsCard : Claim7 := { stood := { row := cubeSplitsRow, standIns := [], harness := (true, "ba70f918b900c71c86bba2cc9152becc52243ceaaaa085b10f8883f543a97bb1"), looks := true }, kinds := [], alts := [], laidByText := true, laidKinds := [.data, .data, .data, .sentinel, .sentinel, .listed, .data], laidTests := true, laidLooks := .later }
def CubeSplitsCardSaid : Prop := Claim7.holds Tryz.pinned (.plain (OpenSpec.ofChange cubeSplitsSpec)) cubeSplitsCard

/-- THE TIED CARD OF 'arbaclaw14.CubeCovers'. -/
def cubeCoversCard : Claim7 := { stood := { row := cubeCoversRow, standIns := [], harness := (true, "ba70f918b900c71c86bba2cc9152becc52243ceaaaa085b10f8883f543a97bb1"), looks := true }, kinds := [], alts := [], laidByText := true, laidKinds := [.data, .data, .data, .sentinel, .sentinel, .listed, .data], laidTests := true, laidLooks := .later }
def CubeCoversCardSaid : Prop := Claim7.holds Tryz.pinned (.plain (OpenSpec.ofChange cubeCoversSpec)) cubeCoversCard

/-- THE TIED CARD OF 'arbaclaw14.CubeLimits'. -/
def cubeLimitsCard : Claim7 := { stood := { row := cubeLimitsRow, standIns := [], harness := (true, "ba70f918b900c71c86bba2cc9152becc52243ceaaaa085b10f8883f543a97bb1"), looks := true }, kinds := [], alts := [], laidByText := true, laidKinds := [.data, .data, .data, .sentinel, .sentinel, .listed, .data], laidTests := true, laidLooks := .later }
def CubeLimitsCardSaid : Prop := Claim7.holds Tryz.pinned (.plain (OpenSpec.ofChange cubeLimitsSpec)) cubeLimitsCard

/-- THE TIED CARD OF 'arbaclaw14.CubeBytes'. -/
def cubeBytesCard : Claim7 := { stood := { row := cubeBytesRow, standIns := [], harness := (true, "ba70f918b900c71c86bba2cc9152becc52243ceaaaa085b10f8883f543a97bb1"), looks := true }, kinds := [], alts := [], laidByText := true, laidKinds := [.data, .data, .data, .sentinel, .sentinel, .listed, .data], laidTests := true, laidLooks := .later }
def CubeBytesCardSaid : Prop := Claim7.holds Tryz.pinned (.plain (OpenSpec.ofChange cubeBytesSpec)) cubeBytesCard

/-- THE SECOND FORM's CARD OF 'arbaclaw14.CubeHolds'. -/
def cubeHoldsUptoCard : Claim7 := { stood := { row := cubeHoldsUptoRow, standIns := [], harness := (true, "ba70f918b900c71c86bba2cc9152becc52243ceaaaa085b10f8883f543a97bb1"), looks := true }, kinds := [], alts := [], laidByText := true, laidKinds := [.data, .data, .data, .sentinel, .sentinel, .listed, .data], laidTests := true, laidLooks := .later }
def CubeHoldsUptoCardSaid : Prop := Claim7.holds Tryz.pinned (.plain (OpenSpec.upto cubeHoldsSpec)) cubeHoldsUptoCard

/-- THE SECOND FORM's CARD OF 'arbaclaw14.CubeOrders'. -/
def cubeOrdersUptoCard : Claim7 := { stood := { row := cubeOrdersUptoRow, standIns := [], harness := (true, "ba70f918b900c71c86bba2cc9152becc52243ceaaaa085b10f8883f543a97bb1"), looks := true }, kinds := [], alts := [], laidByText := true, laidKinds := [.data, .data, .data, .sentinel, .sentinel, .listed, .data], laidTests := true, laidLooks := .later }
def CubeOrdersUptoCardSaid : Prop := Claim7.holds Tryz.pinned (.plain (OpenSpec.upto cubeOrdersSpec)) cubeOrdersUptoCard

/-- THE SECOND FORM's CARD OF 'arbaclaw14.CubeTexts'. -/
def cubeTextsUptoCard : Claim7 := { stood := { row := cubeTextsUptoRow, standIns := [], harness := (true, "ba70f918b900c71c86bba2cc9152becc52243ceaaaa085b10f8883f543a97bb1"), looks := true }, kinds := [], alts := [], laidByText := true, laidKinds := [.data, .data, .data, .sentinel, .sentinel, .listed, .data], laidTests := true, laidLooks := .later }
def CubeTextsUptoCardSaid : Prop := Claim7.holds Tryz.pinned (.plain (OpenSpec.upto cubeTextsSpec)) cubeTextsUptoCard

/-- THE SECOND FORM's CARD OF 'arbaclaw14.CubeCounts'. -/
def cubeCountsUptoCard : Claim7 := { stood := { row := cubeCountsUptoRow, standIns := [], harness := (true, "ba70f918b900c71c86bba2cc9152becc52243ceaaaa085b10f8883f543a97bb1"), looks := true }, kinds := [], alts := [], laidByText := true, laidKinds := [.data, .data, .data, .sentinel, .sentinel, .listed, .data], laidTests := true, laidLooks := .later }
def CubeCountsUptoCardSaid : Prop := Claim7.holds Tryz.pinned (.plain (OpenSpec.upto cubeCountsSpec)) cubeCountsUptoCard

/-- THE SECOND FORM's CARD OF 'arbaclaw14.CubeMeets'. -/
def cubeMeetsUptoCard : Claim7 := { stood := { row := cubeMeetsUptoRow, standIns := [], harness := (true, "ba70f918b900c71c86bba2cc9152becc52243ceaaaa085b10f8883f543a97bb1"), looks := true }, kinds := [], alts := [], laidByText := true, laidKinds := [.data, .data, .data, .sentinel, .sentinel, .listed, .data], laidTests := true, laidLooks := .later }
def CubeMeetsUptoCardSaid : Prop := Claim7.holds Tryz.pinned (.plain (OpenSpec.upto cubeMeetsSpec)) cubeMeetsUptoCard

/-- THE SECOND FORM's CARD OF 'arbaclaw14.CubeMinus'. -/
def cubeMinusUptoCard : Claim7 := { stood := { row := cubeMinusUptoRow, standIns := [], harness := (true, "ba70f918b900c71c86bba2cc9152becc52243ceaaaa085b10f8883f543a97bb1"), looks := true }, kinds := [], alts := [], laidByText := true, laidKinds := [.data, .data, .data, .sentinel, .sentinel, .listed, .data], laidTests := true, laidLooks := .later }
def CubeMinusUptoCardSaid : Prop := Claim7.holds Tryz.pinned (.plain (OpenSpec.upto cubeMinusSpec)) cubeMinusUptoCard

/-- THE SECOND FORM's CARD OF 'arbaclaw14.CubeParts'. -/
def cubePartsUptoCard : Claim7 := { stood := { row := cubePartsUptoRow, standIns := [], harness := (true, "ba70f918b900c71c86bba2cc9152becc52243ceaaaa085b10f8883f543a97bb1"), looks := true }, kinds := [], alts := [], laidByText := true, laidKinds := [.data, .data, .data, .sentinel, .sentinel, .listed, .data], laidTests := true, laidLooks := .later }
def CubePartsUptoCardSaid : Prop := Claim7.holds Tryz.pinned (.plain (OpenSpec.upto cubePartsSpec)) cubePartsUptoCard

/-- THE SECOND FORM's CARD OF 'arbaclaw14.CubeSimple'. -/
def cubeSimpleUptoCard : Claim7 := { stood := { row := cubeSimpleUptoRow, standIns := [], harness := (true, "ba70f918b900c71c86bba2cc9152becc52243ceaaaa085b10f8883f543a97bb1"), looks := true }, kinds := [], alts := [], laidByText := true, laidKinds := [.data, .data, .data, .sentinel, .sentinel, .listed, .data], laidTests := true, laidLooks := .later }
def CubeSimpleUptoCardSaid : Prop := Claim7.holds Tryz.pinned (.plain (OpenSpec.upto cubeSimpleSpec)) cubeSimpleUptoCard

/-- THE SECOND FORM's CARD OF 'arbaclaw14.CubeSplits'. -/
def cubeSplitsUptoCard : Claim7 := { stood := { row := cubeSplitsUptoRow, standIns := [], harness := (true, "ba70f918b900c71c86bba2cc9152becc52243ceaaaa085b10f8883f543a97bb1"), looks := true }, kinds := [], alts := [], laidByText := true, laidKinds := [.data, .data, .data, .sentinel, .sentinel, .listed, .data], laidTests := true, laidLooks := .later }
def CubeSplitsUptoCardSaid : Prop := Claim7.holds Tryz.pinned (.plain (OpenSpec.upto cubeSplitsSpec)) cubeSplitsUptoCard

/-- THE SECOND FORM's CARD OF 'arbaclaw14.CubeCovers'. -/
def cubeCoversUptoCard : Claim7 := { stood := { row := cubeCoversUptoRow, standIns := [], harness := (true, "ba70f918b900c71c86bba2cc9152becc52243ceaaaa085b10f8883f543a97bb1"), looks := true }, kinds := [], alts := [], laidByText := true, laidKinds := [.data, .data, .data, .sentinel, .sentinel, .listed, .data], laidTests := true, laidLooks := .later }
def CubeCoversUptoCardSaid : Prop := Claim7.holds Tryz.pinned (.plain (OpenSpec.upto cubeCoversSpec)) cubeCoversUptoCard

/-- THE SECOND FORM's CARD OF 'arbaclaw14.CubeLimits'. -/
def cubeLimitsUptoCard : Claim7 := { stood := { row := cubeLimitsUptoRow, standIns := [], harness := (true, "ba70f918b900c71c86bba2cc9152becc52243ceaaaa085b10f8883f543a97bb1"), looks := true }, kinds := [], alts := [], laidByText := true, laidKinds := [.data, .data, .data, .sentinel, .sentinel, .listed, .data], laidTests := true, laidLooks := .later }
def CubeLimitsUptoCardSaid : Prop := Claim7.holds Tryz.pinned (.plain (OpenSpec.upto cubeLimitsSpec)) cubeLimitsUptoCard

/-- THE SECOND FORM's CARD OF 'arbaclaw14.CubeBytes'. -/
def cubeBytesUptoCard : Claim7 := { stood := { row := cubeBytesUptoRow, standIns := [], harness := (true, "ba70f918b900c71c86bba2cc9152becc52243ceaaaa085b10f8883f543a97bb1"), looks := true }, kinds := [], alts := [], laidByText := true, laidKinds := [.data, .data, .data, .sentinel, .sentinel, .listed, .data], laidTests := true, laidLooks := .later }
def CubeBytesUptoCardSaid : Prop := Claim7.holds Tryz.pinned (.plain (OpenSpec.upto cubeBytesSpec)) cubeBytesUptoCard
end Rows
end Go.Proofs.YtadomogbakcokaaGreatDoor
