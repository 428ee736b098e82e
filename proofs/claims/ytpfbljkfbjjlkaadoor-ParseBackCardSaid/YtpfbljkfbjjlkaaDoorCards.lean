/-
  DERIVED. GIVEN WITH THE SEED: THE CARDS: each row of YtpfbljkfbjjlkaaDoorRows.lean that lists a variable, with what it lists TIED to the program's text (the seventh form; the later family's looks); each row that meets fmt, with fmt's text TOLD by the authors' own Lean function (tested against real Go, not proved from fmt's source: count such statements apart). THE CARD IS WHAT COUNTS. Prove the row's statement (the work); the ties are given (YtpfbljkfbjjlkaaDoorTie.lean); close each card by the builder's one call (the guide's Derived/Test/ToyasCard.lean, 'card_holds'). Laid BY PROGRAM, IN A SANDBOX (cutbox-door.mjs). By AI agents, Wed Nov 11 2026. No macro, syntax, notation, axiom, sorry.
-/
import Derived.Test.YtpfbljkfbjjlkaaDoorRows
import GoSem.ClaimSeven
namespace Go.Proofs.YtpfbljkfbjjlkaaDoor
namespace Rows

/-- THE TIED CARD OF 'jacquardlaw2.LexOne'. -/
def lexOneCard : Claim7 := { stood := { row := lexOneRow, standIns := [], harness := (true, "32d940b90d19f2b2b135937f54d07e512f98fd89375a65c4ea6c0db10274d709"), looks := true }, kinds := [], alts := [], laidByText := true, laidKinds := [.data, .data, .data, .sentinel, .sentinel], laidTests := true, laidLooks := .later }
def LexOneCardSaid : Prop := Claim7.holds Tryd.pinned (.plain (OpenSpec.ofChange lexOneSpec)) lexOneCard

/-- THE TIED CARD OF 'jacquardlaw2.LexLongest'. -/
def lexLongestCard : Claim7 := { stood := { row := lexLongestRow, standIns := [], harness := (true, "32d940b90d19f2b2b135937f54d07e512f98fd89375a65c4ea6c0db10274d709"), looks := true }, kinds := [], alts := [], laidByText := true, laidKinds := [.data, .data, .data, .sentinel, .sentinel], laidTests := true, laidLooks := .later }
def LexLongestCardSaid : Prop := Claim7.holds Tryd.pinned (.plain (OpenSpec.ofChange lexLongestSpec)) lexLongestCard

/-- THE TIED CARD OF 'jacquardlaw2.LexNumbers'. -/
def lexNumbersCard : Claim7 := { stood := { row := lexNumbersRow, standIns := [], harness := (true, "32d940b90d19f2b2b135937f54d07e512f98fd89375a65c4ea6c0db10274d709"), looks := true }, kinds := [], alts := [], laidByText := true, laidKinds := [.data, .data, .data, .sentinel, .sentinel], laidTests := true, laidLooks := .later }
def LexNumbersCardSaid : Prop := Claim7.holds Tryd.pinned (.plain (OpenSpec.ofChange lexNumbersSpec)) lexNumbersCard

/-- THE TIED CARD OF 'jacquardlaw2.LexStands'. -/
def lexStandsCard : Claim7 := { stood := { row := lexStandsRow, standIns := [], harness := (true, "32d940b90d19f2b2b135937f54d07e512f98fd89375a65c4ea6c0db10274d709"), looks := true }, kinds := [], alts := [], laidByText := true, laidKinds := [.data, .data, .data, .sentinel, .sentinel], laidTests := true, laidLooks := .later }
def LexStandsCardSaid : Prop := Claim7.holds Tryd.pinned (.plain (OpenSpec.ofChange lexStandsSpec)) lexStandsCard

/-- THE TIED CARD OF 'jacquardlaw2.LexJoins'. -/
def lexJoinsCard : Claim7 := { stood := { row := lexJoinsRow, standIns := [], harness := (true, "32d940b90d19f2b2b135937f54d07e512f98fd89375a65c4ea6c0db10274d709"), looks := true }, kinds := [], alts := [], laidByText := true, laidKinds := [.data, .data, .data, .sentinel, .sentinel], laidTests := true, laidLooks := .later }
def LexJoinsCardSaid : Prop := Claim7.holds Tryd.pinned (.plain (OpenSpec.ofChange lexJoinsSpec)) lexJoinsCard

/-- THE TIED CARD OF 'jacquardlaw2.LexBounds'. -/
def lexBoundsCard : Claim7 := { stood := { row := lexBoundsRow, standIns := [], harness := (true, "32d940b90d19f2b2b135937f54d07e512f98fd89375a65c4ea6c0db10274d709"), looks := true }, kinds := [], alts := [], laidByText := true, laidKinds := [.data, .data, .data, .sentinel, .sentinel], laidTests := true, laidLooks := .later }
def LexBoundsCardSaid : Prop := Claim7.holds Tryd.pinned (.plain (OpenSpec.ofChange lexBoundsSpec)) lexBoundsCard

/-- THE TIED CARD OF 'jacquardlaw2.LexReader'. -/
def lexReaderCard : Claim7 := { stood := { row := lexReaderRow, standIns := [], harness := (true, "32d940b90d19f2b2b135937f54d07e512f98fd89375a65c4ea6c0db10274d709"), looks := true }, kinds := [], alts := [], laidByText := true, laidKinds := [.data, .data, .data, .sentinel, .sentinel], laidTests := true, laidLooks := .later }
def LexReaderCardSaid : Prop := Claim7.holds Tryd.pinned (.plain (OpenSpec.ofChange lexReaderSpec)) lexReaderCard

/-- THE TIED CARD OF 'jacquardlaw2.LexAll'. -/
def lexAllCard : Claim7 := { stood := { row := lexAllRow, standIns := [], harness := (true, "32d940b90d19f2b2b135937f54d07e512f98fd89375a65c4ea6c0db10274d709"), looks := true }, kinds := [], alts := [], laidByText := true, laidKinds := [.data, .data, .data, .sentinel, .sentinel], laidTests := true, laidLooks := .later }
def LexAllCardSaid : Prop := Claim7.holds Tryd.pinned (.plain (OpenSpec.ofChange lexAllSpec)) lexAllCard

/-- THE TIED CARD OF 'jacquardlaw3.ParseWords'. -/
def parseWordsCard : Claim7 := { stood := { row := parseWordsRow, standIns := [], harness := (true, "32d940b90d19f2b2b135937f54d07e512f98fd89375a65c4ea6c0db10274d709"), looks := true }, kinds := [], alts := [], laidByText := true, laidKinds := [.data, .data, .data, .sentinel, .sentinel], laidTests := true, laidLooks := .later }
def ParseWordsCardSaid : Prop := Claim7.holds Tryd.pinned (.plain (OpenSpec.ofChange parseWordsSpec)) parseWordsCard

/-- THE TIED CARD OF 'jacquardlaw3.ParseNames'. -/
def parseNamesCard : Claim7 := { stood := { row := parseNamesRow, standIns := [], harness := (true, "32d940b90d19f2b2b135937f54d07e512f98fd89375a65c4ea6c0db10274d709"), looks := true }, kinds := [], alts := [], laidByText := true, laidKinds := [.data, .data, .data, .sentinel, .sentinel], laidTests := true, laidLooks := .later }
def ParseNamesCardSaid : Prop := Claim7.holds Tryd.pinned (.plain (OpenSpec.ofChange parseNamesSpec)) parseNamesCard

/-- THE TIED CARD OF 'jacquardlaw3.ParseConds'. -/
def parseCondsCard : Claim7 := { stood := { row := parseCondsRow, standIns := [], harness := (true, "32d940b90d19f2b2b135937f54d07e512f98fd89375a65c4ea6c0db10274d709"), looks := true }, kinds := [], alts := [], laidByText := true, laidKinds := [.data, .data, .data, .sentinel, .sentinel], laidTests := true, laidLooks := .later }
def ParseCondsCardSaid : Prop := Claim7.holds Tryd.pinned (.plain (OpenSpec.ofChange parseCondsSpec)) parseCondsCard

/-- THE TIED CARD OF 'jacquardlaw3.ParseBack'. -/
def parseBackCard : Claim7 := { stood := { row := parseBackRow, standIns := [], harness := (true, "32d940b90d19f2b2b135937f54d07e512f98fd89375a65c4ea6c0db10274d709"), looks := true }, kinds := [], alts := [], laidByText := true, laidKinds := [.data, .data, .data, .sentinel, .sentinel], laidTests := true, laidLooks := .later }
def ParseBackCardSaid : Prop := Claim7.holds Tryd.pinned (.plain (OpenSpec.ofChange parseBackSpec)) parseBackCard

/-- THE TIED CARD OF 'jacquardlaw3.ParseFirst'. -/
def parseFirstCard : Claim7 := { stood := { row := parseFirstRow, standIns := [], harness := (true, "32d940b90d19f2b2b135937f54d07e512f98fd89375a65c4ea6c0db10274d709"), looks := true }, kinds := [], alts := [], laidByText := true, laidKinds := [.data, .data, .data, .sentinel, .sentinel], laidTests := true, laidLooks := .later }
def ParseFirstCardSaid : Prop := Claim7.holds Tryd.pinned (.plain (OpenSpec.ofChange parseFirstSpec)) parseFirstCard

/-- THE SECOND FORM's CARD OF 'jacquardlaw2.LexOne'. -/
def lexOneUptoCard : Claim7 := { stood := { row := lexOneUptoRow, standIns := [], harness := (true, "32d940b90d19f2b2b135937f54d07e512f98fd89375a65c4ea6c0db10274d709"), looks := true }, kinds := [], alts := [], laidByText := true, laidKinds := [.data, .data, .data, .sentinel, .sentinel], laidTests := true, laidLooks := .later }
def LexOneUptoCardSaid : Prop := Claim7.holds Tryd.pinned (.plain (OpenSpec.upto lexOneSpec)) lexOneUptoCard

/-- THE SECOND FORM's CARD OF 'jacquardlaw2.LexLongest'. -/
def lexLongestUptoCard : Claim7 := { stood := { row := lexLongestUptoRow, standIns := [], harness := (true, "32d940b90d19f2b2b135937f54d07e512f98fd89375a65c4ea6c0db10274d709"), looks := true }, kinds := [], alts := [], laidByText := true, laidKinds := [.data, .data, .data, .sentinel, .sentinel], laidTests := true, laidLooks := .later }
def LexLongestUptoCardSaid : Prop := Claim7.holds Tryd.pinned (.plain (OpenSpec.upto lexLongestSpec)) lexLongestUptoCard

/-- THE SECOND FORM's CARD OF 'jacquardlaw2.LexNumbers'. -/
def lexNumbersUptoCard : Claim7 := { stood := { row := lexNumbersUptoRow, standIns := [], harness := (true, "32d940b90d19f2b2b135937f54d07e512f98fd89375a65c4ea6c0db10274d709"), looks := true }, kinds := [], alts := [], laidByText := true, laidKinds := [.data, .data, .data, .sentinel, .sentinel], laidTests := true, laidLooks := .later }
def LexNumbersUptoCardSaid : Prop := Claim7.holds Tryd.pinned (.plain (OpenSpec.upto lexNumbersSpec)) lexNumbersUptoCard

/-- THE SECOND FORM's CARD OF 'jacquardlaw2.LexStands'. -/
def lexStandsUptoCard : Claim7 := { stood := { row := lexStandsUptoRow, standIns := [], harness := (true, "32d940b90d19f2b2b135937f54d07e512f98fd89375a65c4ea6c0db10274d709"), looks := true }, kinds := [], alts := [], laidByText := true, laidKinds := [.data, .data, .data, .sentinel, .sentinel], laidTests := true, laidLooks := .later }
def LexStandsUptoCardSaid : Prop := Claim7.holds Tryd.pinned (.plain (OpenSpec.upto lexStandsSpec)) lexStandsUptoCard

/-- THE SECOND FORM's CARD OF 'jacquardlaw2.LexJoins'. -/
def lexJoinsUptoCard : Claim7 := { stood := { row := lexJoinsUptoRow, standIns := [], harness := (true, "32d940b90d19f2b2b135937f54d07e512f98fd89375a65c4ea6c0db10274d709"), looks := true }, kinds := [], alts := [], laidByText := true, laidKinds := [.data, .data, .data, .sentinel, .sentinel], laidTests := true, laidLooks := .later }
def LexJoinsUptoCardSaid : Prop := Claim7.holds Tryd.pinned (.plain (OpenSpec.upto lexJoinsSpec)) lexJoinsUptoCard

/-- THE SECOND FORM's CARD OF 'jacquardlaw2.LexBounds'. -/
def lexBoundsUptoCard : Claim7 := { stood := { row := lexBoundsUptoRow, standIns := [], harness := (true, "32d940b90d19f2b2b135937f54d07e512f98fd89375a65c4ea6c0db10274d709"), looks := true }, kinds := [], alts := [], laidByText := true, laidKinds := [.data, .data, .data, .sentinel, .sentinel], laidTests := true, laidLooks := .later }
def LexBoundsUptoCardSaid : Prop := Claim7.holds Tryd.pinned (.plain (OpenSpec.upto lexBoundsSpec)) lexBoundsUptoCard

/-- THE SECOND FORM's CARD OF 'jacquardlaw2.LexReader'. -/
def lexReaderUptoCard : Claim7 := { stood := { row := lexReaderUptoRow, standIns := [], harness := (true, "32d940b90d19f2b2b135937f54d07e512f98fd89375a65c4ea6c0db10274d709"), looks := true }, kinds := [], alts := [], laidByText := true, laidKinds := [.data, .data, .data, .sentinel, .sentinel], laidTests := true, laidLooks := .later }
def LexReaderUptoCardSaid : Prop := Claim7.holds Tryd.pinned (.plain (OpenSpec.upto lexReaderSpec)) lexReaderUptoCard

/-- THE SECOND FORM's CARD OF 'jacquardlaw2.LexAll'. -/
def lexAllUptoCard : Claim7 := { stood := { row := lexAllUptoRow, standIns := [], harness := (true, "32d940b90d19f2b2b135937f54d07e512f98fd89375a65c4ea6c0db10274d709"), looks := true }, kinds := [], alts := [], laidByText := true, laidKinds := [.data, .data, .data, .sentinel, .sentinel], laidTests := true, laidLooks := .later }
def LexAllUptoCardSaid : Prop := Claim7.holds Tryd.pinned (.plain (OpenSpec.upto lexAllSpec)) lexAllUptoCard

/-- THE SECOND FORM's CARD OF 'jacquardlaw3.ParseWords'. -/
def parseWordsUptoCard : Claim7 := { stood := { row := parseWordsUptoRow, standIns := [], harness := (true, "32d940b90d19f2b2b135937f54d07e512f98fd89375a65c4ea6c0db10274d709"), looks := true }, kinds := [], alts := [], laidByText := true, laidKinds := [.data, .data, .data, .sentinel, .sentinel], laidTests := true, laidLooks := .later }
def ParseWordsUptoCardSaid : Prop := Claim7.holds Tryd.pinned (.plain (OpenSpec.upto parseWordsSpec)) parseWordsUptoCard

/-- THE SECOND FORM's CARD OF 'jacquardlaw3.ParseNames'. -/
def parseNamesUptoCard : Claim7 := { stood := { row := parseNamesUptoRow, standIns := [], harness := (true, "32d940b90d19f2b2b135937f54d07e512f98fd89375a65c4ea6c0db10274d709"), looks := true }, kinds := [], alts := [], laidByText := true, laidKinds := [.data, .data, .data, .sentinel, .sentinel], laidTests := true, laidLooks := .later }
def ParseNamesUptoCardSaid : Prop := Claim7.holds Tryd.pinned (.plain (OpenSpec.upto parseNamesSpec)) parseNamesUptoCard

/-- THE SECOND FORM's CARD OF 'jacquardlaw3.ParseConds'. -/
def parseCondsUptoCard : Claim7 := { stood := { row := parseCondsUptoRow, standIns := [], harness := (true, "32d940b90d19f2b2b135937f54d07e512f98fd89375a65c4ea6c0db10274d709"), looks := true }, kinds := [], alts := [], laidByText := true, laidKinds := [.data, .data, .data, .sentinel, .sentinel], laidTests := true, laidLooks := .later }
def ParseCondsUptoCardSaid : Prop := Claim7.holds Tryd.pinned (.plain (OpenSpec.upto parseCondsSpec)) parseCondsUptoCard

/-- THE SECOND FORM's CARD OF 'jacquardlaw3.ParseBack'. -/
def parseBackUptoCard : Claim7 := { stood := { row := parseBackUptoRow, standIns := [], harness := (true, "32d940b90d19f2b2b135937f54d07e512f98fd89375a65c4ea6c0db10274d709"), looks := true }, kinds := [], alts := [], laidByText := true, laidKinds := [.data, .data, .data, .sentinel, .sentinel], laidTests := true, laidLooks := .later }
def ParseBackUptoCardSaid : Prop := Claim7.holds Tryd.pinned (.plain (OpenSpec.upto parseBackSpec)) parseBackUptoCard

/-- THE SECOND FORM's CARD OF 'jacquardlaw3.ParseFirst'. -/
def parseFirstUptoCard : Claim7 := { stood := { row := parseFirstUptoRow, standIns := [], harness := (true, "32d940b90d19f2b2b135937f54d07e512f98fd89375a65c4ea6c0db10274d709"), looks := true }, kinds := [], alts := [], laidByText := true, laidKinds := [.data, .data, .data, .sentinel, .sentinel], laidTests := true, laidLooks := .later }
def ParseFirstUptoCardSaid : Prop := Claim7.holds Tryd.pinned (.plain (OpenSpec.upto parseFirstSpec)) parseFirstUptoCard
end Rows
end Go.Proofs.YtpfbljkfbjjlkaaDoor
