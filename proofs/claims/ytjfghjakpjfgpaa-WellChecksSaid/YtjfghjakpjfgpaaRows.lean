/-
  No cell of these rows narrows 'for every input' (looked for: loops, veiled, ifaces, maps, wideKeys, modest, calm, conditions, laid).
  DERIVED. THE GIVEN ROWS OF THIS SEAT. 7 by the template 'for every input the law returns true; each argument reads behind the call as it read before'; 0 by the template 'total and deterministic' (their statements: YtjfghjakpjfgpaaTotals.lean).
  GIVEN WITH THE SEED: the statements are not yours to turn. If you find one false, say at which input.
  Laid BY PROGRAM, IN A SANDBOX (cutbox-rows.mjs): the forced cells as the released guide's own fill.sh prints them over the translation 12c7fc60d19e9616… (all of the seat's roots in one cut). By AI agents, Wed Nov 11 2026. No macro, syntax, notation, axiom, sorry.
-/
import Derived.Test.YtjfghjakpjfgpaaChecked
import GoSem.Claim
import GoSem.ClaimJoined
import GoSem.ClaimMapViews
import Derived.JoinedTies
import Derived.KernelRfl
namespace Go.Proofs.Ytjfghjakpjfgpaa
/- THE CELL 'sum', in the pinned program and in every row, IS THE sha256 OF THE DUMP (.gsa) THAT YtjfghjakpjfgpaaProg.lean LOADS. Nothing in Lean hashes anything: it is a label: what it is worth is what the hold of that sum in a sandbox is worth. -/
noncomputable def Try.pinned : Pinned := { name := "ytjfghjakpjfgpaa", sum := "12c7fc60d19e961675db4efda5a4b870cff43a4d271ce9748154ce139925b521", checked := Try.checked }
namespace Rows
def none {H : Type} : Left H := { results := [], args := [] }

/-- 'jacquardlaw24.CondRows': WHATEVER THE INPUT: true; the input reads as it did. -/
def condRowsSpec : ChangeSpec := { name := "condRows", fn := fun _ => fun
  | [d1, d2] => { results := [.lit (.bool true)], args := [d1, d2] }
  | _ => none }
def condRowsRow : OpenClaim := { program := "ytjfghjakpjfgpaa", sum := "12c7fc60d19e961675db4efda5a4b870cff43a4d271ce9748154ce139925b521", func := "jacquard/jacquardlaw24.CondRows", spec := "condRows", inPlace := ["internal/bytealg.IndexByte"], unfollowed := true, recurses := true, apart := false }
def CondRowsSaid : Prop := condRowsRow.holds Try.pinned (OpenSpec.ofChange condRowsSpec)

/-- ITS FALSE NEIGHBOUR: 'it returns false'. Refute it at one input. -/
def condRowsWrong : ChangeSpec := { name := "condRows", fn := fun _ => fun
  | [d1, d2] => { results := [.lit (.bool false)], args := [d1, d2] }
  | _ => none }
def CondRowsWrongFalsely : Prop := condRowsRow.holds Try.pinned (OpenSpec.ofChange condRowsWrong)

/-- 'jacquardlaw24.CondTurns': WHATEVER THE INPUT: true; the input reads as it did. -/
def condTurnsSpec : ChangeSpec := { name := "condTurns", fn := fun _ => fun
  | [d1, d2, d3] => { results := [.lit (.bool true)], args := [d1, d2, d3] }
  | _ => none }
def condTurnsRow : OpenClaim := { program := "ytjfghjakpjfgpaa", sum := "12c7fc60d19e961675db4efda5a4b870cff43a4d271ce9748154ce139925b521", func := "jacquard/jacquardlaw24.CondTurns", spec := "condTurns", inPlace := ["internal/bytealg.IndexByte"], unfollowed := true, recurses := true, apart := false }
def CondTurnsSaid : Prop := condTurnsRow.holds Try.pinned (OpenSpec.ofChange condTurnsSpec)

/-- ITS FALSE NEIGHBOUR: 'it returns false'. Refute it at one input. -/
def condTurnsWrong : ChangeSpec := { name := "condTurns", fn := fun _ => fun
  | [d1, d2, d3] => { results := [.lit (.bool false)], args := [d1, d2, d3] }
  | _ => none }
def CondTurnsWrongFalsely : Prop := condTurnsRow.holds Try.pinned (OpenSpec.ofChange condTurnsWrong)

/-- 'jacquardlaw5.WellLocs': WHATEVER THE INPUT: true; the input reads as it did. -/
def wellLocsSpec : ChangeSpec := { name := "wellLocs", fn := fun _ => fun
  | [d1, d2, d3] => { results := [.lit (.bool true)], args := [d1, d2, d3] }
  | _ => none }
def wellLocsRow : OpenClaim := { program := "ytjfghjakpjfgpaa", sum := "12c7fc60d19e961675db4efda5a4b870cff43a4d271ce9748154ce139925b521", func := "jacquard/jacquardlaw5.WellLocs", spec := "wellLocs", unfollowed := true, recurses := true, apart := false }
def WellLocsSaid : Prop := wellLocsRow.holds Try.pinned (OpenSpec.ofChange wellLocsSpec)

/-- ITS FALSE NEIGHBOUR: 'it returns false'. Refute it at one input. -/
def wellLocsWrong : ChangeSpec := { name := "wellLocs", fn := fun _ => fun
  | [d1, d2, d3] => { results := [.lit (.bool false)], args := [d1, d2, d3] }
  | _ => none }
def WellLocsWrongFalsely : Prop := wellLocsRow.holds Try.pinned (OpenSpec.ofChange wellLocsWrong)

/-- 'jacquardlaw5.WellShort': WHATEVER THE INPUT: true; the input reads as it did. -/
def wellShortSpec : ChangeSpec := { name := "wellShort", fn := fun _ => fun
  | [d] => { results := [.lit (.bool true)], args := [d] }
  | _ => none }
def wellShortRow : OpenClaim := { program := "ytjfghjakpjfgpaa", sum := "12c7fc60d19e961675db4efda5a4b870cff43a4d271ce9748154ce139925b521", func := "jacquard/jacquardlaw5.WellShort", spec := "wellShort", unfollowed := true, recurses := true, apart := false }
def WellShortSaid : Prop := wellShortRow.holds Try.pinned (OpenSpec.ofChange wellShortSpec)

/-- ITS FALSE NEIGHBOUR: 'it returns false'. Refute it at one input. -/
def wellShortWrong : ChangeSpec := { name := "wellShort", fn := fun _ => fun
  | [d] => { results := [.lit (.bool false)], args := [d] }
  | _ => none }
def WellShortWrongFalsely : Prop := wellShortRow.holds Try.pinned (OpenSpec.ofChange wellShortWrong)

/-- 'jacquardlaw5.WellChecks': WHATEVER THE INPUT: true; the input reads as it did. -/
def wellChecksSpec : ChangeSpec := { name := "wellChecks", fn := fun _ => fun
  | [d1, d2] => { results := [.lit (.bool true)], args := [d1, d2] }
  | _ => none }
def wellChecksRow : OpenClaim := { program := "ytjfghjakpjfgpaa", sum := "12c7fc60d19e961675db4efda5a4b870cff43a4d271ce9748154ce139925b521", func := "jacquard/jacquardlaw5.WellChecks", spec := "wellChecks", unfollowed := true, recurses := true, apart := false }
def WellChecksSaid : Prop := wellChecksRow.holds Try.pinned (OpenSpec.ofChange wellChecksSpec)

/-- ITS FALSE NEIGHBOUR: 'it returns false'. Refute it at one input. -/
def wellChecksWrong : ChangeSpec := { name := "wellChecks", fn := fun _ => fun
  | [d1, d2] => { results := [.lit (.bool false)], args := [d1, d2] }
  | _ => none }
def WellChecksWrongFalsely : Prop := wellChecksRow.holds Try.pinned (OpenSpec.ofChange wellChecksWrong)

/-- 'jacquardlaw5.WellBounds': WHATEVER THE INPUT: true; the input reads as it did. -/
def wellBoundsSpec : ChangeSpec := { name := "wellBounds", fn := fun _ => fun
  | [d1, d2, d3, d4, d5, d6] => { results := [.lit (.bool true)], args := [d1, d2, d3, d4, d5, d6] }
  | _ => none }
def wellBoundsRow : OpenClaim := { program := "ytjfghjakpjfgpaa", sum := "12c7fc60d19e961675db4efda5a4b870cff43a4d271ce9748154ce139925b521", func := "jacquard/jacquardlaw5.WellBounds", spec := "wellBounds", unfollowed := true, recurses := true, apart := false }
def WellBoundsSaid : Prop := wellBoundsRow.holds Try.pinned (OpenSpec.ofChange wellBoundsSpec)

/-- ITS FALSE NEIGHBOUR: 'it returns false'. Refute it at one input. -/
def wellBoundsWrong : ChangeSpec := { name := "wellBounds", fn := fun _ => fun
  | [d1, d2, d3, d4, d5, d6] => { results := [.lit (.bool false)], args := [d1, d2, d3, d4, d5, d6] }
  | _ => none }
def WellBoundsWrongFalsely : Prop := wellBoundsRow.holds Try.pinned (OpenSpec.ofChange wellBoundsWrong)

/-- 'jacquardlaw5.WellJumps': WHATEVER THE INPUT: true; the input reads as it did. -/
def wellJumpsSpec : ChangeSpec := { name := "wellJumps", fn := fun _ => fun
  | [d1, d2, d3, d4, d5] => { results := [.lit (.bool true)], args := [d1, d2, d3, d4, d5] }
  | _ => none }
def wellJumpsRow : OpenClaim := { program := "ytjfghjakpjfgpaa", sum := "12c7fc60d19e961675db4efda5a4b870cff43a4d271ce9748154ce139925b521", func := "jacquard/jacquardlaw5.WellJumps", spec := "wellJumps", unfollowed := true, recurses := true, apart := false }
def WellJumpsSaid : Prop := wellJumpsRow.holds Try.pinned (OpenSpec.ofChange wellJumpsSpec)

/-- ITS FALSE NEIGHBOUR: 'it returns false'. Refute it at one input. -/
def wellJumpsWrong : ChangeSpec := { name := "wellJumps", fn := fun _ => fun
  | [d1, d2, d3, d4, d5] => { results := [.lit (.bool false)], args := [d1, d2, d3, d4, d5] }
  | _ => none }
def WellJumpsWrongFalsely : Prop := wellJumpsRow.holds Try.pinned (OpenSpec.ofChange wellJumpsWrong)

/- THE SECOND FORM. 'bulk': how many values and letters a reading holds, each counted each time it is reached (what is shared counts as often as it is met; a slice's spare places count too). A statement '..UptoSaid' is the law's where the arguments, and the package variables that the reading takes, are together of bulk at most 1048576: NARROWER than '..Said'. Prove '..Said' where nothing that the law and all that it calls make is longer than what came in: it says more and counts as full. Else prove '..UptoSaid'. A law counts once. -/
mutual
def uptoBulk {H : Type} : DataW H → Nat
  | .lit (.string bytes) => bytes.length + 1
  | .lit _ => 1
  | .nil => 1
  | .ptr d => uptoBulk d + 1
  | .slice elems spare => uptoBulkAll elems + uptoBulkAll spare + 1
  | .agg parts => uptoBulkAll parts + 1
  | .iface _ d => uptoBulk d + 1
  | .map entries => uptoBulkEntries entries + 1
  | .held _ => 1
def uptoBulkAll {H : Type} : List (DataW H) → Nat
  | [] => 0
  | d :: r => uptoBulk d + uptoBulkAll r
def uptoBulkEntries {H : Type} : List (Lit × DataW H) → Nat
  | [] => 0
  | x :: r => uptoBulkEntry x + uptoBulkEntries r
def uptoBulkEntry {H : Type} : Lit × DataW H → Nat
  | (.string bytes, d) => bytes.length + uptoBulk d + 1
  | (_, d) => uptoBulk d + 1
 end
def uptoSmall : (H : Type) → List (DataW H) → Bool := fun _ ds => decide (uptoBulkAll ds ≤ 1048576)
def OpenSpec.upto (s : _root_.Go.ChangeSpec) : _root_.Go.OpenSpec := { _root_.Go.OpenSpec.ofChange s with cond := some uptoSmall }

/-- 'jacquardlaw24.CondRows', WHERE WHAT IT READS IS OF BULK AT MOST 1048576: true; the input reads as it did. -/
def condRowsUptoRow : OpenClaim := { program := "ytjfghjakpjfgpaa", sum := "12c7fc60d19e961675db4efda5a4b870cff43a4d271ce9748154ce139925b521", func := "jacquard/jacquardlaw24.CondRows", spec := "condRows", inPlace := ["internal/bytealg.IndexByte"], unfollowed := true, recurses := true, apart := false, narrowed := true }
def CondRowsUptoSaid : Prop := condRowsUptoRow.holds Try.pinned (OpenSpec.upto condRowsSpec)

/-- 'jacquardlaw24.CondTurns', WHERE WHAT IT READS IS OF BULK AT MOST 1048576: true; the input reads as it did. -/
def condTurnsUptoRow : OpenClaim := { program := "ytjfghjakpjfgpaa", sum := "12c7fc60d19e961675db4efda5a4b870cff43a4d271ce9748154ce139925b521", func := "jacquard/jacquardlaw24.CondTurns", spec := "condTurns", inPlace := ["internal/bytealg.IndexByte"], unfollowed := true, recurses := true, apart := false, narrowed := true }
def CondTurnsUptoSaid : Prop := condTurnsUptoRow.holds Try.pinned (OpenSpec.upto condTurnsSpec)

/-- 'jacquardlaw5.WellLocs', WHERE WHAT IT READS IS OF BULK AT MOST 1048576: true; the input reads as it did. -/
def wellLocsUptoRow : OpenClaim := { program := "ytjfghjakpjfgpaa", sum := "12c7fc60d19e961675db4efda5a4b870cff43a4d271ce9748154ce139925b521", func := "jacquard/jacquardlaw5.WellLocs", spec := "wellLocs", unfollowed := true, recurses := true, apart := false, narrowed := true }
def WellLocsUptoSaid : Prop := wellLocsUptoRow.holds Try.pinned (OpenSpec.upto wellLocsSpec)

/-- 'jacquardlaw5.WellShort', WHERE WHAT IT READS IS OF BULK AT MOST 1048576: true; the input reads as it did. -/
def wellShortUptoRow : OpenClaim := { program := "ytjfghjakpjfgpaa", sum := "12c7fc60d19e961675db4efda5a4b870cff43a4d271ce9748154ce139925b521", func := "jacquard/jacquardlaw5.WellShort", spec := "wellShort", unfollowed := true, recurses := true, apart := false, narrowed := true }
def WellShortUptoSaid : Prop := wellShortUptoRow.holds Try.pinned (OpenSpec.upto wellShortSpec)

/-- 'jacquardlaw5.WellChecks', WHERE WHAT IT READS IS OF BULK AT MOST 1048576: true; the input reads as it did. -/
def wellChecksUptoRow : OpenClaim := { program := "ytjfghjakpjfgpaa", sum := "12c7fc60d19e961675db4efda5a4b870cff43a4d271ce9748154ce139925b521", func := "jacquard/jacquardlaw5.WellChecks", spec := "wellChecks", unfollowed := true, recurses := true, apart := false, narrowed := true }
def WellChecksUptoSaid : Prop := wellChecksUptoRow.holds Try.pinned (OpenSpec.upto wellChecksSpec)

/-- 'jacquardlaw5.WellBounds', WHERE WHAT IT READS IS OF BULK AT MOST 1048576: true; the input reads as it did. -/
def wellBoundsUptoRow : OpenClaim := { program := "ytjfghjakpjfgpaa", sum := "12c7fc60d19e961675db4efda5a4b870cff43a4d271ce9748154ce139925b521", func := "jacquard/jacquardlaw5.WellBounds", spec := "wellBounds", unfollowed := true, recurses := true, apart := false, narrowed := true }
def WellBoundsUptoSaid : Prop := wellBoundsUptoRow.holds Try.pinned (OpenSpec.upto wellBoundsSpec)

/-- 'jacquardlaw5.WellJumps', WHERE WHAT IT READS IS OF BULK AT MOST 1048576: true; the input reads as it did. -/
def wellJumpsUptoRow : OpenClaim := { program := "ytjfghjakpjfgpaa", sum := "12c7fc60d19e961675db4efda5a4b870cff43a4d271ce9748154ce139925b521", func := "jacquard/jacquardlaw5.WellJumps", spec := "wellJumps", unfollowed := true, recurses := true, apart := false, narrowed := true }
def WellJumpsUptoSaid : Prop := wellJumpsUptoRow.holds Try.pinned (OpenSpec.upto wellJumpsSpec)

end Rows
end Go.Proofs.Ytjfghjakpjfgpaa
