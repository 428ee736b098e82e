/-
  DERIVED. GIVEN WITH THE SEED: THE CARDS: each row of YtjfdjkageiemkaaGreatDoorRows.lean that lists a variable, with what it lists TIED to the program's text (the seventh form; the later family's looks); each row that meets fmt, with fmt's text TOLD by the authors' own Lean function (tested against real Go, not proved from fmt's source: count such statements apart). THE CARD IS WHAT COUNTS. Prove the row's statement (the work); the ties are given (YtjfdjkageiemkaaGreatDoorTie.lean); close each card by the builder's one call (the guide's Derived/Test/ToyasCard.lean, 'card_holds'). Laid BY PROGRAM, IN A SANDBOX (cutbox-door.mjs). By AI agents, Wed Nov 11 2026. No macro, syntax, notation, axiom, sorry.
-/
import Derived.Test.YtjfdjkageiemkaaGreatDoorRows
import GoSem.ClaimSeven
namespace Go.Proofs.YtjfdjkageiemkaaGreatDoor
namespace Rows

/-- THE TIED CARD OF 'jacquardlaw27.LitmusAllowed'. -/
def litmusAllowedCard : Claim7 := { stood := { row := litmusAllowedRow, standIns := [], harness := (true, "b574cb43675ac584bc3ae4632dfb5f9b558d8b8e41facc26bc17d74635b674ff"), looks := true }, kinds := [], alts := [], laidByText := true, laidKinds := [.data], laidTests := true, laidLooks := .later }
def LitmusAllowedCardSaid : Prop := Claim7.holds Tryz.pinned (.plain (OpenSpec.ofChange litmusAllowedSpec)) litmusAllowedCard

/-- THE TIED CARD OF 'jacquardlaw27.LitmusRobust'. -/
def litmusRobustCard : Claim7 := { stood := { row := litmusRobustRow, standIns := [], harness := (true, "b574cb43675ac584bc3ae4632dfb5f9b558d8b8e41facc26bc17d74635b674ff"), looks := true }, kinds := [], alts := [], laidByText := true, laidKinds := [.data], laidTests := true, laidLooks := .later }
def LitmusRobustCardSaid : Prop := Claim7.holds Tryz.pinned (.plain (OpenSpec.ofChange litmusRobustSpec)) litmusRobustCard

/-- THE TIED CARD OF 'jacquardlaw27.LitmusTexts'. -/
def litmusTextsCard : Claim7 := { stood := { row := litmusTextsRow, standIns := [], harness := (true, "b574cb43675ac584bc3ae4632dfb5f9b558d8b8e41facc26bc17d74635b674ff"), looks := true }, kinds := [], alts := [], laidByText := true, laidKinds := [.data, .data, .data], laidTests := true, laidLooks := .later }
def LitmusTextsCardSaid : Prop := Claim7.holds Tryz.pinned (.plain (OpenSpec.ofChange litmusTextsSpec)) litmusTextsCard

/-- THE TIED CARD OF 'jacquardlaw27.LitmusKnown'. -/
def litmusKnownCard : Claim7 := { stood := { row := litmusKnownRow, standIns := [], harness := (true, "b574cb43675ac584bc3ae4632dfb5f9b558d8b8e41facc26bc17d74635b674ff"), looks := true }, kinds := [], alts := [], laidByText := true, laidKinds := [.data, .data, .data, .sentinel, .sentinel], laidTests := true, laidLooks := .later }
def LitmusKnownCardSaid : Prop := Claim7.holds Tryz.pinned (.plain (OpenSpec.ofChange litmusKnownSpec)) litmusKnownCard

/-- THE SECOND FORM's CARD OF 'jacquardlaw27.LitmusAllowed'. -/
def litmusAllowedUptoCard : Claim7 := { stood := { row := litmusAllowedUptoRow, standIns := [], harness := (true, "b574cb43675ac584bc3ae4632dfb5f9b558d8b8e41facc26bc17d74635b674ff"), looks := true }, kinds := [], alts := [], laidByText := true, laidKinds := [.data], laidTests := true, laidLooks := .later }
def LitmusAllowedUptoCardSaid : Prop := Claim7.holds Tryz.pinned (.plain (OpenSpec.upto litmusAllowedSpec)) litmusAllowedUptoCard

/-- THE SECOND FORM's CARD OF 'jacquardlaw27.LitmusRobust'. -/
def litmusRobustUptoCard : Claim7 := { stood := { row := litmusRobustUptoRow, standIns := [], harness := (true, "b574cb43675ac584bc3ae4632dfb5f9b558d8b8e41facc26bc17d74635b674ff"), looks := true }, kinds := [], alts := [], laidByText := true, laidKinds := [.data], laidTests := true, laidLooks := .later }
def LitmusRobustUptoCardSaid : Prop := Claim7.holds Tryz.pinned (.plain (OpenSpec.upto litmusRobustSpec)) litmusRobustUptoCard

/-- THE SECOND FORM's CARD OF 'jacquardlaw27.LitmusTexts'. -/
def litmusTextsUptoCard : Claim7 := { stood := { row := litmusTextsUptoRow, standIns := [], harness := (true, "b574cb43675ac584bc3ae4632dfb5f9b558d8b8e41facc26bc17d74635b674ff"), looks := true }, kinds := [], alts := [], laidByText := true, laidKinds := [.data, .data, .data], laidTests := true, laidLooks := .later }
def LitmusTextsUptoCardSaid : Prop := Claim7.holds Tryz.pinned (.plain (OpenSpec.upto litmusTextsSpec)) litmusTextsUptoCard

/-- THE SECOND FORM's CARD OF 'jacquardlaw27.LitmusKnown'. -/
def litmusKnownUptoCard : Claim7 := { stood := { row := litmusKnownUptoRow, standIns := [], harness := (true, "b574cb43675ac584bc3ae4632dfb5f9b558d8b8e41facc26bc17d74635b674ff"), looks := true }, kinds := [], alts := [], laidByText := true, laidKinds := [.data, .data, .data, .sentinel, .sentinel], laidTests := true, laidLooks := .later }
def LitmusKnownUptoCardSaid : Prop := Claim7.holds Tryz.pinned (.plain (OpenSpec.upto litmusKnownSpec)) litmusKnownUptoCard
end Rows
end Go.Proofs.YtjfdjkageiemkaaGreatDoor
