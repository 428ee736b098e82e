/-
  DERIVED. GIVEN WITH THE SEED: THE CARDS: each row of YtcpelgjafifkaaaDoorRows.lean that lists a variable, with what it lists TIED to the program's text (the seventh form; the later family's looks); each row that meets fmt, with fmt's text TOLD by the authors' own Lean function (tested against real Go, not proved from fmt's source: count such statements apart). THE CARD IS WHAT COUNTS. Prove the row's statement (the work); the ties are given (YtcpelgjafifkaaaDoorTie.lean); close each card by the builder's one call (the guide's Derived/Test/ToyasCard.lean, 'card_holds'). Laid BY PROGRAM, IN A SANDBOX (cutbox-door.mjs). By AI agents, Wed Nov 11 2026. No macro, syntax, notation, axiom, sorry.
-/
import Derived.Test.YtcpelgjafifkaaaDoorRows
import GoSem.ClaimSeven
namespace Go.Proofs.YtcpelgjafifkaaaDoor
namespace Rows

/-- THE TIED CARD OF 'jacquardlaw1.NumBits'. -/
def numBitsCard : Claim7 := { stood := { row := numBitsRow, standIns := [], harness := (true, "e396a9bd470990998e6d171707af418676b2e94b5c96b5f5517dbf1a7f9511a6"), looks := true }, kinds := [], alts := [], laidByText := true, laidKinds := [.data, .data, .data, .sentinel, .sentinel], laidTests := true, laidLooks := .later }
def NumBitsCardSaid : Prop := Claim7.holds Tryd.pinned (.plain (OpenSpec.ofChange numBitsSpec)) numBitsCard

/-- THE TIED CARD OF 'jacquardlaw1.NumLess'. -/
def numLessCard : Claim7 := { stood := { row := numLessRow, standIns := [], harness := (true, "e396a9bd470990998e6d171707af418676b2e94b5c96b5f5517dbf1a7f9511a6"), looks := true }, kinds := [], alts := [], laidByText := true, laidKinds := [.data, .data, .data, .sentinel, .sentinel], laidTests := true, laidLooks := .later }
def NumLessCardSaid : Prop := Claim7.holds Tryd.pinned (.plain (OpenSpec.ofChange numLessSpec)) numLessCard

/-- THE TIED CARD OF 'jacquardlaw1.NumDoes'. -/
def numDoesCard : Claim7 := { stood := { row := numDoesRow, standIns := [], harness := (true, "e396a9bd470990998e6d171707af418676b2e94b5c96b5f5517dbf1a7f9511a6"), looks := true }, kinds := [], alts := [], laidByText := true, laidKinds := [.data, .data, .data, .sentinel, .sentinel], laidTests := true, laidLooks := .later }
def NumDoesCardSaid : Prop := Claim7.holds Tryd.pinned (.plain (OpenSpec.ofChange numDoesSpec)) numDoesCard

/-- THE TIED CARD OF 'jacquardlaw1.NumTexts'. -/
def numTextsCard : Claim7 := { stood := { row := numTextsRow, standIns := [], harness := (true, "e396a9bd470990998e6d171707af418676b2e94b5c96b5f5517dbf1a7f9511a6"), looks := true }, kinds := [], alts := [], laidByText := true, laidKinds := [.data, .data, .data, .sentinel, .sentinel], laidTests := true, laidLooks := .later }
def NumTextsCardSaid : Prop := Claim7.holds Tryd.pinned (.plain (OpenSpec.ofChange numTextsSpec)) numTextsCard

/-- THE TIED CARD OF 'jacquardlaw1.NumWraps'. -/
def numWrapsCard : Claim7 := { stood := { row := numWrapsRow, standIns := [], harness := (true, "e396a9bd470990998e6d171707af418676b2e94b5c96b5f5517dbf1a7f9511a6"), looks := true }, kinds := [], alts := [], laidByText := true, laidKinds := [.data, .data, .data, .sentinel, .sentinel], laidTests := true, laidLooks := .later }
def NumWrapsCardSaid : Prop := Claim7.holds Tryd.pinned (.plain (OpenSpec.ofChange numWrapsSpec)) numWrapsCard

/-- THE TIED CARD OF 'jacquardlaw1.NumEnds'. -/
def numEndsCard : Claim7 := { stood := { row := numEndsRow, standIns := [], harness := (true, "e396a9bd470990998e6d171707af418676b2e94b5c96b5f5517dbf1a7f9511a6"), looks := true }, kinds := [], alts := [], laidByText := true, laidKinds := [.data, .data, .data, .sentinel, .sentinel], laidTests := true, laidLooks := .later }
def NumEndsCardSaid : Prop := Claim7.holds Tryd.pinned (.plain (OpenSpec.ofChange numEndsSpec)) numEndsCard

/-- THE TIED CARD OF 'jacquardlaw1.NumShifts'. -/
def numShiftsCard : Claim7 := { stood := { row := numShiftsRow, standIns := [], harness := (true, "e396a9bd470990998e6d171707af418676b2e94b5c96b5f5517dbf1a7f9511a6"), looks := true }, kinds := [], alts := [], laidByText := true, laidKinds := [.data, .data, .data, .sentinel, .sentinel], laidTests := true, laidLooks := .later }
def NumShiftsCardSaid : Prop := Claim7.holds Tryd.pinned (.plain (OpenSpec.ofChange numShiftsSpec)) numShiftsCard

/-- THE TIED CARD OF 'jacquardlaw1.NumNarrow'. -/
def numNarrowCard : Claim7 := { stood := { row := numNarrowRow, standIns := [], harness := (true, "e396a9bd470990998e6d171707af418676b2e94b5c96b5f5517dbf1a7f9511a6"), looks := true }, kinds := [], alts := [], laidByText := true, laidKinds := [.data, .data, .data, .sentinel, .sentinel], laidTests := true, laidLooks := .later }
def NumNarrowCardSaid : Prop := Claim7.holds Tryd.pinned (.plain (OpenSpec.ofChange numNarrowSpec)) numNarrowCard

/-- THE TIED CARD OF 'jacquardlaw1.NumSigns'. -/
def numSignsCard : Claim7 := { stood := { row := numSignsRow, standIns := [], harness := (true, "e396a9bd470990998e6d171707af418676b2e94b5c96b5f5517dbf1a7f9511a6"), looks := true }, kinds := [], alts := [], laidByText := true, laidKinds := [.data, .data, .data, .sentinel, .sentinel], laidTests := true, laidLooks := .later }
def NumSignsCardSaid : Prop := Claim7.holds Tryd.pinned (.plain (OpenSpec.ofChange numSignsSpec)) numSignsCard

/-- THE SECOND FORM's CARD OF 'jacquardlaw1.NumBits'. -/
def numBitsUptoCard : Claim7 := { stood := { row := numBitsUptoRow, standIns := [], harness := (true, "e396a9bd470990998e6d171707af418676b2e94b5c96b5f5517dbf1a7f9511a6"), looks := true }, kinds := [], alts := [], laidByText := true, laidKinds := [.data, .data, .data, .sentinel, .sentinel], laidTests := true, laidLooks := .later }
def NumBitsUptoCardSaid : Prop := Claim7.holds Tryd.pinned (.plain (OpenSpec.upto numBitsSpec)) numBitsUptoCard

/-- THE SECOND FORM's CARD OF 'jacquardlaw1.NumLess'. -/
def numLessUptoCard : Claim7 := { stood := { row := numLessUptoRow, standIns := [], harness := (true, "e396a9bd470990998e6d171707af418676b2e94b5c96b5f5517dbf1a7f9511a6"), looks := true }, kinds := [], alts := [], laidByText := true, laidKinds := [.data, .data, .data, .sentinel, .sentinel], laidTests := true, laidLooks := .later }
def NumLessUptoCardSaid : Prop := Claim7.holds Tryd.pinned (.plain (OpenSpec.upto numLessSpec)) numLessUptoCard

/-- THE SECOND FORM's CARD OF 'jacquardlaw1.NumDoes'. -/
def numDoesUptoCard : Claim7 := { stood := { row := numDoesUptoRow, standIns := [], harness := (true, "e396a9bd470990998e6d171707af418676b2e94b5c96b5f5517dbf1a7f9511a6"), looks := true }, kinds := [], alts := [], laidByText := true, laidKinds := [.data, .data, .data, .sentinel, .sentinel], laidTests := true, laidLooks := .later }
def NumDoesUptoCardSaid : Prop := Claim7.holds Tryd.pinned (.plain (OpenSpec.upto numDoesSpec)) numDoesUptoCard

/-- THE SECOND FORM's CARD OF 'jacquardlaw1.NumTexts'. -/
def numTextsUptoCard : Claim7 := { stood := { row := numTextsUptoRow, standIns := [], harness := (true, "e396a9bd470990998e6d171707af418676b2e94b5c96b5f5517dbf1a7f9511a6"), looks := true }, kinds := [], alts := [], laidByText := true, laidKinds := [.data, .data, .data, .sentinel, .sentinel], laidTests := true, laidLooks := .later }
def NumTextsUptoCardSaid : Prop := Claim7.holds Tryd.pinned (.plain (OpenSpec.upto numTextsSpec)) numTextsUptoCard

/-- THE SECOND FORM's CARD OF 'jacquardlaw1.NumWraps'. -/
def numWrapsUptoCard : Claim7 := { stood := { row := numWrapsUptoRow, standIns := [], harness := (true, "e396a9bd470990998e6d171707af418676b2e94b5c96b5f5517dbf1a7f9511a6"), looks := true }, kinds := [], alts := [], laidByText := true, laidKinds := [.data, .data, .data, .sentinel, .sentinel], laidTests := true, laidLooks := .later }
def NumWrapsUptoCardSaid : Prop := Claim7.holds Tryd.pinned (.plain (OpenSpec.upto numWrapsSpec)) numWrapsUptoCard

/-- THE SECOND FORM's CARD OF 'jacquardlaw1.NumEnds'. -/
def numEndsUptoCard : Claim7 := { stood := { row := numEndsUptoRow, standIns := [], harness := (true, "e396a9bd470990998e6d171707af418676b2e94b5c96b5f5517dbf1a7f9511a6"), looks := true }, kinds := [], alts := [], laidByText := true, laidKinds := [.data, .data, .data, .sentinel, .sentinel], laidTests := true, laidLooks := .later }
def NumEndsUptoCardSaid : Prop := Claim7.holds Tryd.pinned (.plain (OpenSpec.upto numEndsSpec)) numEndsUptoCard

/-- THE SECOND FORM's CARD OF 'jacquardlaw1.NumShifts'. -/
def numShiftsUptoCard : Claim7 := { stood := { row := numShiftsUptoRow, standIns := [], harness := (true, "e396a9bd470990998e6d171707af418676b2e94b5c96b5f5517dbf1a7f9511a6"), looks := true }, kinds := [], alts := [], laidByText := true, laidKinds := [.data, .data, .data, .sentinel, .sentinel], laidTests := true, laidLooks := .later }
def NumShiftsUptoCardSaid : Prop := Claim7.holds Tryd.pinned (.plain (OpenSpec.upto numShiftsSpec)) numShiftsUptoCard

/-- THE SECOND FORM's CARD OF 'jacquardlaw1.NumNarrow'. -/
def numNarrowUptoCard : Claim7 := { stood := { row := numNarrowUptoRow, standIns := [], harness := (true, "e396a9bd470990998e6d171707af418676b2e94b5c96b5f5517dbf1a7f9511a6"), looks := true }, kinds := [], alts := [], laidByText := true, laidKinds := [.data, .data, .data, .sentinel, .sentinel], laidTests := true, laidLooks := .later }
def NumNarrowUptoCardSaid : Prop := Claim7.holds Tryd.pinned (.plain (OpenSpec.upto numNarrowSpec)) numNarrowUptoCard

/-- THE SECOND FORM's CARD OF 'jacquardlaw1.NumSigns'. -/
def numSignsUptoCard : Claim7 := { stood := { row := numSignsUptoRow, standIns := [], harness := (true, "e396a9bd470990998e6d171707af418676b2e94b5c96b5f5517dbf1a7f9511a6"), looks := true }, kinds := [], alts := [], laidByText := true, laidKinds := [.data, .data, .data, .sentinel, .sentinel], laidTests := true, laidLooks := .later }
def NumSignsUptoCardSaid : Prop := Claim7.holds Tryd.pinned (.plain (OpenSpec.upto numSignsSpec)) numSignsUptoCard
end Rows
end Go.Proofs.YtcpelgjafifkaaaDoor
