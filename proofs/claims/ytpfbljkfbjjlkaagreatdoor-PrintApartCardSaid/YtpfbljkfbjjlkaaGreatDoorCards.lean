/-
  DERIVED. GIVEN WITH THE SEED: THE CARDS: each row of YtpfbljkfbjjlkaaGreatDoorRows.lean that lists a variable, with what it lists TIED to the program's text (the seventh form; the later family's looks); each row that meets fmt, with fmt's text TOLD by the authors' own Lean function (tested against real Go, not proved from fmt's source: count such statements apart). THE CARD IS WHAT COUNTS. Prove the row's statement (the work); the ties are given (YtpfbljkfbjjlkaaGreatDoorTie.lean); close each card by the builder's one call (the guide's Derived/Test/ToyasCard.lean, 'card_holds'). Laid BY PROGRAM, IN A SANDBOX (cutbox-door.mjs). By AI agents, Wed Nov 11 2026. No macro, syntax, notation, axiom, sorry.
-/
import Derived.Test.YtpfbljkfbjjlkaaGreatDoorRows
import GoSem.ClaimSeven
namespace Go.Proofs.YtpfbljkfbjjlkaaGreatDoor
namespace Rows

/-- THE TIED CARD OF 'jacquardlaw3.ParseTurned'. -/
def parseTurnedCard : Claim7 := { stood := { row := parseTurnedRow, standIns := [], harness := (true, "3deb3d99f9a1b19adf9d2e7ffc0ef1f66fb89f67603d7735d893803ab554d2bb"), looks := true }, kinds := [], alts := [], laidByText := true, laidKinds := [.data, .data, .data, .sentinel, .sentinel], laidTests := true, laidLooks := .later }
def ParseTurnedCardSaid : Prop := Claim7.holds Tryz.pinned (.plain (OpenSpec.ofChange parseTurnedSpec)) parseTurnedCard

/-- THE TIED CARD OF 'jacquardlaw5.WellPrints'. -/
def wellPrintsCard : Claim7 := { stood := { row := wellPrintsRow, standIns := [], harness := (true, "3deb3d99f9a1b19adf9d2e7ffc0ef1f66fb89f67603d7735d893803ab554d2bb"), looks := true }, kinds := [], alts := [], laidByText := true, laidKinds := [.data, .data, .data, .sentinel, .sentinel], laidTests := true, laidLooks := .later }
def WellPrintsCardSaid : Prop := Claim7.holds Tryz.pinned (.plain (OpenSpec.ofChange wellPrintsSpec)) wellPrintsCard

/-- THE TIED CARD OF 'jacquardlaw4.PrintBack'. -/
def printBackCard : Claim7 := { stood := { row := printBackRow, standIns := [], harness := (true, "3deb3d99f9a1b19adf9d2e7ffc0ef1f66fb89f67603d7735d893803ab554d2bb"), looks := true }, kinds := [], alts := [], laidByText := true, laidKinds := [.data, .data, .data, .sentinel, .sentinel], laidTests := true, laidLooks := .later }
def PrintBackCardSaid : Prop := Claim7.holds Tryz.pinned (.plain (OpenSpec.ofChange printBackSpec)) printBackCard

/-- THE TIED CARD OF 'jacquardlaw4.PrintApart'. -/
def printApartCard : Claim7 := { stood := { row := printApartRow, standIns := [], harness := (true, "3deb3d99f9a1b19adf9d2e7ffc0ef1f66fb89f67603d7735d893803ab554d2bb"), looks := true }, kinds := [], alts := [], laidByText := true, laidKinds := [.data, .data, .data, .sentinel, .sentinel], laidTests := true, laidLooks := .later }
def PrintApartCardSaid : Prop := Claim7.holds Tryz.pinned (.plain (OpenSpec.ofChange printApartSpec)) printApartCard

/-- THE SECOND FORM's CARD OF 'jacquardlaw3.ParseTurned'. -/
def parseTurnedUptoCard : Claim7 := { stood := { row := parseTurnedUptoRow, standIns := [], harness := (true, "3deb3d99f9a1b19adf9d2e7ffc0ef1f66fb89f67603d7735d893803ab554d2bb"), looks := true }, kinds := [], alts := [], laidByText := true, laidKinds := [.data, .data, .data, .sentinel, .sentinel], laidTests := true, laidLooks := .later }
def ParseTurnedUptoCardSaid : Prop := Claim7.holds Tryz.pinned (.plain (OpenSpec.upto parseTurnedSpec)) parseTurnedUptoCard

/-- THE SECOND FORM's CARD OF 'jacquardlaw5.WellPrints'. -/
def wellPrintsUptoCard : Claim7 := { stood := { row := wellPrintsUptoRow, standIns := [], harness := (true, "3deb3d99f9a1b19adf9d2e7ffc0ef1f66fb89f67603d7735d893803ab554d2bb"), looks := true }, kinds := [], alts := [], laidByText := true, laidKinds := [.data, .data, .data, .sentinel, .sentinel], laidTests := true, laidLooks := .later }
def WellPrintsUptoCardSaid : Prop := Claim7.holds Tryz.pinned (.plain (OpenSpec.upto wellPrintsSpec)) wellPrintsUptoCard

/-- THE SECOND FORM's CARD OF 'jacquardlaw4.PrintBack'. -/
def printBackUptoCard : Claim7 := { stood := { row := printBackUptoRow, standIns := [], harness := (true, "3deb3d99f9a1b19adf9d2e7ffc0ef1f66fb89f67603d7735d893803ab554d2bb"), looks := true }, kinds := [], alts := [], laidByText := true, laidKinds := [.data, .data, .data, .sentinel, .sentinel], laidTests := true, laidLooks := .later }
def PrintBackUptoCardSaid : Prop := Claim7.holds Tryz.pinned (.plain (OpenSpec.upto printBackSpec)) printBackUptoCard

/-- THE SECOND FORM's CARD OF 'jacquardlaw4.PrintApart'. -/
def printApartUptoCard : Claim7 := { stood := { row := printApartUptoRow, standIns := [], harness := (true, "3deb3d99f9a1b19adf9d2e7ffc0ef1f66fb89f67603d7735d893803ab554d2bb"), looks := true }, kinds := [], alts := [], laidByText := true, laidKinds := [.data, .data, .data, .sentinel, .sentinel], laidTests := true, laidLooks := .later }
def PrintApartUptoCardSaid : Prop := Claim7.holds Tryz.pinned (.plain (OpenSpec.upto printApartSpec)) printApartUptoCard
end Rows
end Go.Proofs.YtpfbljkfbjjlkaaGreatDoor
