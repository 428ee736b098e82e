/-
  DERIVED. GIVEN WITH THE SEED: THE CARDS: each row of YtgfkgngpganllaaDoorRows.lean that lists a variable, with what it lists TIED to the program's text (the seventh form; the later family's looks); each row that meets fmt, with fmt's text TOLD by the authors' own Lean function (tested against real Go, not proved from fmt's source: count such statements apart). THE CARD IS WHAT COUNTS. Prove the row's statement (the work); the ties are given (YtgfkgngpganllaaDoorTie.lean); close each card by the builder's one call (the guide's Derived/Test/ToyasCard.lean, 'card_holds'). Laid BY PROGRAM, IN A SANDBOX (cutbox-door.mjs). By AI agents, Wed Nov 11 2026. No macro, syntax, notation, axiom, sorry.
-/
import Derived.Test.YtgfkgngpganllaaDoorRows
import GoSem.ClaimSeven
namespace Go.Proofs.YtgfkgngpganllaaDoor
namespace Rows

/-- THE TIED CARD OF 'jacquardlaw4.PrintOks'. -/
def printOksCard : Claim7 := { stood := { row := printOksRow, standIns := [], harness := (true, "ee263ff82cfaa875ab5f24034aa144e1240b4411ff1a3b6d74b8823c3c8882c8"), looks := false }, kinds := [], alts := [], laidByText := true, laidKinds := [.data, .data, .data], laidTests := true, laidLooks := .later }
def PrintOksCardSaid : Prop := Claim7.holds Tryd.pinned (.plain (OpenSpec.ofChange printOksSpec)) printOksCard

/-- THE TIED CARD OF 'jacquardlaw4.PrintLines'. -/
def printLinesCard : Claim7 := { stood := { row := printLinesRow, standIns := [], harness := (true, "ee263ff82cfaa875ab5f24034aa144e1240b4411ff1a3b6d74b8823c3c8882c8"), looks := false }, kinds := [], alts := [], laidByText := true, laidKinds := [.data, .data, .data], laidTests := true, laidLooks := .later }
def PrintLinesCardSaid : Prop := Claim7.holds Tryd.pinned (.plain (OpenSpec.ofChange printLinesSpec)) printLinesCard

/-- THE TIED CARD OF 'jacquardlaw4.PrintParts'. -/
def printPartsCard : Claim7 := { stood := { row := printPartsRow, standIns := [], harness := (true, "ee263ff82cfaa875ab5f24034aa144e1240b4411ff1a3b6d74b8823c3c8882c8"), looks := false }, kinds := [], alts := [], laidByText := true, laidKinds := [.data, .data, .data], laidTests := true, laidLooks := .later }
def PrintPartsCardSaid : Prop := Claim7.holds Tryd.pinned (.plain (OpenSpec.ofChange printPartsSpec)) printPartsCard

/-- THE TIED CARD OF 'jacquardlaw4.PrintSame'. -/
def printSameCard : Claim7 := { stood := { row := printSameRow, standIns := [], harness := (true, "ee263ff82cfaa875ab5f24034aa144e1240b4411ff1a3b6d74b8823c3c8882c8"), looks := false }, kinds := [], alts := [], laidByText := true, laidKinds := [.data, .data, .data], laidTests := true, laidLooks := .later }
def PrintSameCardSaid : Prop := Claim7.holds Tryd.pinned (.plain (OpenSpec.ofChange printSameSpec)) printSameCard

/-- THE TIED CARD OF 'jacquardlaw4.PrintTells'. -/
def printTellsCard : Claim7 := { stood := { row := printTellsRow, standIns := [], harness := (true, "ee263ff82cfaa875ab5f24034aa144e1240b4411ff1a3b6d74b8823c3c8882c8"), looks := false }, kinds := [], alts := [], laidByText := true, laidKinds := [.data, .data, .data], laidTests := true, laidLooks := .later }
def PrintTellsCardSaid : Prop := Claim7.holds Tryd.pinned (.plain (OpenSpec.ofChange printTellsSpec)) printTellsCard

/-- THE SECOND FORM's CARD OF 'jacquardlaw4.PrintOks'. -/
def printOksUptoCard : Claim7 := { stood := { row := printOksUptoRow, standIns := [], harness := (true, "ee263ff82cfaa875ab5f24034aa144e1240b4411ff1a3b6d74b8823c3c8882c8"), looks := false }, kinds := [], alts := [], laidByText := true, laidKinds := [.data, .data, .data], laidTests := true, laidLooks := .later }
def PrintOksUptoCardSaid : Prop := Claim7.holds Tryd.pinned (.plain (OpenSpec.upto printOksSpec)) printOksUptoCard

/-- THE SECOND FORM's CARD OF 'jacquardlaw4.PrintLines'. -/
def printLinesUptoCard : Claim7 := { stood := { row := printLinesUptoRow, standIns := [], harness := (true, "ee263ff82cfaa875ab5f24034aa144e1240b4411ff1a3b6d74b8823c3c8882c8"), looks := false }, kinds := [], alts := [], laidByText := true, laidKinds := [.data, .data, .data], laidTests := true, laidLooks := .later }
def PrintLinesUptoCardSaid : Prop := Claim7.holds Tryd.pinned (.plain (OpenSpec.upto printLinesSpec)) printLinesUptoCard

/-- THE SECOND FORM's CARD OF 'jacquardlaw4.PrintParts'. -/
def printPartsUptoCard : Claim7 := { stood := { row := printPartsUptoRow, standIns := [], harness := (true, "ee263ff82cfaa875ab5f24034aa144e1240b4411ff1a3b6d74b8823c3c8882c8"), looks := false }, kinds := [], alts := [], laidByText := true, laidKinds := [.data, .data, .data], laidTests := true, laidLooks := .later }
def PrintPartsUptoCardSaid : Prop := Claim7.holds Tryd.pinned (.plain (OpenSpec.upto printPartsSpec)) printPartsUptoCard

/-- THE SECOND FORM's CARD OF 'jacquardlaw4.PrintSame'. -/
def printSameUptoCard : Claim7 := { stood := { row := printSameUptoRow, standIns := [], harness := (true, "ee263ff82cfaa875ab5f24034aa144e1240b4411ff1a3b6d74b8823c3c8882c8"), looks := false }, kinds := [], alts := [], laidByText := true, laidKinds := [.data, .data, .data], laidTests := true, laidLooks := .later }
def PrintSameUptoCardSaid : Prop := Claim7.holds Tryd.pinned (.plain (OpenSpec.upto printSameSpec)) printSameUptoCard

/-- THE SECOND FORM's CARD OF 'jacquardlaw4.PrintTells'. -/
def printTellsUptoCard : Claim7 := { stood := { row := printTellsUptoRow, standIns := [], harness := (true, "ee263ff82cfaa875ab5f24034aa144e1240b4411ff1a3b6d74b8823c3c8882c8"), looks := false }, kinds := [], alts := [], laidByText := true, laidKinds := [.data, .data, .data], laidTests := true, laidLooks := .later }
def PrintTellsUptoCardSaid : Prop := Claim7.holds Tryd.pinned (.plain (OpenSpec.upto printTellsSpec)) printTellsUptoCard
end Rows
end Go.Proofs.YtgfkgngpganllaaDoor
