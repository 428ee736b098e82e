/-
  DERIVED. GIVEN WITH THE SEED: THE CARDS: each row of YtadocofdkdiboaaGreatDoorRows.lean that lists a variable, with what it lists TIED to the program's text (the seventh form; the later family's looks); each row that meets fmt, with fmt's text TOLD by the authors' own Lean function (tested against real Go, not proved from fmt's source: count such statements apart). THE CARD IS WHAT COUNTS. Prove the row's statement (the work); the ties are given (YtadocofdkdiboaaGreatDoorTie.lean); close each card by the builder's one call (the guide's Derived/Test/ToyasCard.lean, 'card_holds'). Laid BY PROGRAM, IN A SANDBOX (cutbox-door.mjs). By AI agents, Wed Nov 11 2026. No macro, syntax, notation, axiom, sorry.
-/
import Derived.Test.YtadocofdkdiboaaGreatDoorRows
import GoSem.ClaimSeven
namespace Go.Proofs.YtadocofdkdiboaaGreatDoor
namespace Rows

/-- THE TIED CARD OF 'jacquardlaw26.CheckPlaces'. -/
def checkPlacesCard : Claim7 := { stood := { row := checkPlacesRow, standIns := [], harness := (true, "826b7942ba3dcce756f52eee9693896edf6b39275ada93a65a82d65b3a76d70a"), looks := true }, kinds := [], alts := [], laidByText := true, laidKinds := [.data, .data, .data, .sentinel, .sentinel], laidTests := true, laidLooks := .later }
def CheckPlacesCardSaid : Prop := Claim7.holds Tryz.pinned (.plain (OpenSpec.ofChange checkPlacesSpec)) checkPlacesCard

/-- THE TIED CARD OF 'jacquardlaw26.CheckBudgets'. -/
def checkBudgetsCard : Claim7 := { stood := { row := checkBudgetsRow, standIns := [], harness := (true, "826b7942ba3dcce756f52eee9693896edf6b39275ada93a65a82d65b3a76d70a"), looks := true }, kinds := [], alts := [], laidByText := true, laidKinds := [.data, .data, .data, .sentinel, .sentinel], laidTests := true, laidLooks := .later }
def CheckBudgetsCardSaid : Prop := Claim7.holds Tryz.pinned (.plain (OpenSpec.ofChange checkBudgetsSpec)) checkBudgetsCard

/-- THE TIED CARD OF 'jacquardlaw26.CheckTexts'. -/
def checkTextsCard : Claim7 := { stood := { row := checkTextsRow, standIns := [], harness := (true, "826b7942ba3dcce756f52eee9693896edf6b39275ada93a65a82d65b3a76d70a"), looks := true }, kinds := [], alts := [], laidByText := true, laidKinds := [.data, .data, .data, .sentinel, .sentinel], laidTests := true, laidLooks := .later }
def CheckTextsCardSaid : Prop := Claim7.holds Tryz.pinned (.plain (OpenSpec.ofChange checkTextsSpec)) checkTextsCard

/-- THE TIED CARD OF 'jacquardlaw26.CheckTests'. -/
def checkTestsCard : Claim7 := { stood := { row := checkTestsRow, standIns := [], harness := (true, "826b7942ba3dcce756f52eee9693896edf6b39275ada93a65a82d65b3a76d70a"), looks := true }, kinds := [], alts := [], laidByText := true, laidKinds := [.data, .data, .data, .sentinel, .sentinel], laidTests := true, laidLooks := .later }
def CheckTestsCardSaid : Prop := Claim7.holds Tryz.pinned (.plain (OpenSpec.ofChange checkTestsSpec)) checkTestsCard

/-- THE SECOND FORM's CARD OF 'jacquardlaw26.CheckPlaces'. -/
def checkPlacesUptoCard : Claim7 := { stood := { row := checkPlacesUptoRow, standIns := [], harness := (true, "826b7942ba3dcce756f52eee9693896edf6b39275ada93a65a82d65b3a76d70a"), looks := true }, kinds := [], alts := [], laidByText := true, laidKinds := [.data, .data, .data, .sentinel, .sentinel], laidTests := true, laidLooks := .later }
def CheckPlacesUptoCardSaid : Prop := Claim7.holds Tryz.pinned (.plain (OpenSpec.upto checkPlacesSpec)) checkPlacesUptoCard

/-- THE SECOND FORM's CARD OF 'jacquardlaw26.CheckBudgets'. -/
def checkBudgetsUptoCard : Claim7 := { stood := { row := checkBudgetsUptoRow, standIns := [], harness := (true, "826b7942ba3dcce756f52eee9693896edf6b39275ada93a65a82d65b3a76d70a"), looks := true }, kinds := [], alts := [], laidByText := true, laidKinds := [.data, .data, .data, .sentinel, .sentinel], laidTests := true, laidLooks := .later }
def CheckBudgetsUptoCardSaid : Prop := Claim7.holds Tryz.pinned (.plain (OpenSpec.upto checkBudgetsSpec)) checkBudgetsUptoCard

/-- THE SECOND FORM's CARD OF 'jacquardlaw26.CheckTexts'. -/
def checkTextsUptoCard : Claim7 := { stood := { row := checkTextsUptoRow, standIns := [], harness := (true, "826b7942ba3dcce756f52eee9693896edf6b39275ada93a65a82d65b3a76d70a"), looks := true }, kinds := [], alts := [], laidByText := true, laidKinds := [.data, .data, .data, .sentinel, .sentinel], laidTests := true, laidLooks := .later }
def CheckTextsUptoCardSaid : Prop := Claim7.holds Tryz.pinned (.plain (OpenSpec.upto checkTextsSpec)) checkTextsUptoCard

/-- THE SECOND FORM's CARD OF 'jacquardlaw26.CheckTests'. -/
def checkTestsUptoCard : Claim7 := { stood := { row := checkTestsUptoRow, standIns := [], harness := (true, "826b7942ba3dcce756f52eee9693896edf6b39275ada93a65a82d65b3a76d70a"), looks := true }, kinds := [], alts := [], laidByText := true, laidKinds := [.data, .data, .data, .sentinel, .sentinel], laidTests := true, laidLooks := .later }
def CheckTestsUptoCardSaid : Prop := Claim7.holds Tryz.pinned (.plain (OpenSpec.upto checkTestsSpec)) checkTestsUptoCard
end Rows
end Go.Proofs.YtadocofdkdiboaaGreatDoor
