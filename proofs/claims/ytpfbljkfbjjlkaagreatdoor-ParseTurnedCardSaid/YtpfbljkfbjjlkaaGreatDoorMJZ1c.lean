/- What the statement's proof leans on, part 3: the layer, the walks, the plain laws. -/
import Derived.Test.YtpfbljkfbjjlkaaGreatDoorProg
import Derived.Test.YtpfbljkfbjjlkaaGreatDoorMJZ1b
import Derived.KernelRfl
import Derived.Shelf.Strings.Builder1
import Derived.Shelf.Strings.Builder2
import Derived.Shelf.Strings.OnBuilder
import Derived.Shelf.Small.Strs
import Derived.Shelf.Strconv.Itoa0
import Derived.Shelf.Strconv.Itoa1
import Derived.Shelf.LaysM
import Derived.Shelf.Strconv.Itoa2
import Derived.Shelf.Strconv.Itoa3
import Derived.Shelf.Strconv.Itoa4
import Derived.Shelf.Strconv.ParseIntEmpty
import Derived.Shelf.Strconv.Clone
import Derived.Shelf.Strconv.SyntaxError
import Derived.Shelf.LaysC
import Derived.Shelf.Strconv.ToError
import Derived.Shelf.Strconv.Lower
import Derived.Shelf.Strconv.ParseUint10
import Derived.Shelf.Strconv.ParseUint10Empty
import Derived.Shelf.Strconv.ParseUint10Any
import Derived.Shelf.Strconv.ParseInt10
import Derived.Shelf.Strconv.RangeError
import Derived.Shelf.Strconv.ToErrorRange
import Derived.Shelf.Strconv.ParseUintEmpty
import Derived.Shelf.Strconv.ParseUint10b64
import Derived.Shelf.Strconv.ParseUint10b32
import Derived.Shelf.Strconv.ParseUint10b16
import Derived.Shelf.Strconv.ParseUint10b8
import Derived.Shelf.Strconv.ParseUint10At
import Derived.Shelf.Strconv.ParseInt10At64
import Derived.Shelf.Strconv.ParseInt10At32
import Derived.Shelf.Strconv.ParseInt10At16
import Derived.Shelf.Strconv.ParseInt10At8
import Derived.Shelf.Strconv.ParseInt10All
import Derived.Shelf.Strconv.ParseIntPublic10
import Derived.Shelf.Strconv.ErrVarParseInt
import Derived.Shelf.Strings.Search1
import Derived.OpenShut
import Derived.ChangeOld
import Derived.Below
import Derived.ProofKit
import Derived.ChangeShapes
import Derived.Test.YtpfbljkfbjjlkaaGreatDoorRows
import Derived.Test.YtpfbljkfbjjlkaaGreatDoorTie
import Derived.LaidMore
import Derived.Stop.Joined
import Derived.Carry
import Derived.Lib.LaidTab
import Derived.SevenTiedAt
import Derived.SizedLaws
import Derived.RegionTactic
import Derived.Deep.RegionWith
set_option linter.unusedSimpArgs false
set_option linter.unusedVariables false

/- The functions' code with its types resolved, as the layer's 'cCode' gives it. Written by a program of this session's (wip/x/dump.lean). -/
namespace Go.Proofs.YtpfbljkfbjjlkaaGreatDoor
open Go Go.Jq
set_option maxRecDepth 100000
-- 4 jacquard/jacquardlaw5.WellPrints
-- 5 jacquard/jacquardlaw4.PrintBack
-- 6 jacquard/jacquardlaw4.PrintApart
-- 13 jacquard/well.Read
-- 14 jacquard/well.Check
-- 15 jacquard/jacquardlaw5.awake
-- 16 jacquard/jacquardlaw4.Few
-- 17 jacquard/jacquardlaw4.awake
-- 18 jacquard/print.Test
-- 20 jacquard/print.Ok
-- 23 jacquard/jacquardref2.Text
def ac23L0 : ACode := (.seq (.seq (.region false [ oM 14 (.mv (.t 3)), oM 15 (.bin .gtr (.t 14) (.c (.d (.int .u64 9))))] []) (.cond (.t 15) .skip (.exit 0))) (.block 1 (.seq (.region false [ oM 16 (.mv (.t 3)), oM 17 (.bin .rem (.t 16) (.c (.d (.int .u64 10)))), oM 18 (.cvi .i64 (.t 17)), oM 6 (.mv (.t 18))] []) (.seq (.region false [ oM 19 (.mv (.t 6)), oM 20 (.mv (.t 6)), oM 21 (.bin .add (.t 20) (.c (.d (.int .i64 1)))), oM 22 (.slcs (.c (.d (.str [48, 49, 50, 51, 52, 53, 54, 55, 56, 57]))) (some (.t 19)) (some (.t 21))), oM 23 (.mv (.t 5)), oM 24 (.bin .add (.t 22) (.t 23)), oM 5 (.mv (.t 24))] []) (.region false [ oM 25 (.mv (.t 3)), oM 26 (.bin .quo (.t 25) (.c (.d (.int .u64 10)))), oM 3 (.mv (.t 26))] [])))))
def ac23 : ACode := (.seq (.region false [ oM 2 (.mv (.c (.d (.str []))))] []) (.seq (.region false [ oM 8 (.mv (.t 0)), oM 9 (.cvi .u64 (.t 8)), oM 3 (.mv (.t 9))] []) (.seq (.region false [ oM 4 (.mv (.c (.d (.str []))))] []) (.seq (.seq (.region false [ oM 10 (.mv (.t 0)), oM 11 (.bin .lss (.t 10) (.c (.d (.int .i64 0))))] []) (.cond (.t 11) (.seq (.region false [ oM 12 (.mv (.t 3)), oM 13 (.un .neg (.t 12)), oM 3 (.mv (.t 13))] []) (.region false [ oM 4 (.mv (.c (.d (.str [45]))))] [])) .skip)) (.seq (.region false [ oM 5 (.mv (.c (.d (.str []))))] []) (.seq (.block 0 (.loop ac23L0)) (.seq (.region false [ oM 27 (.mv (.t 3)), oM 28 (.cvi .i64 (.t 27)), oM 7 (.mv (.t 28))] []) (.seq (.region false [ oM 29 (.mv (.t 4)), oM 30 (.mv (.t 7)), oM 31 (.mv (.t 7)), oM 32 (.bin .add (.t 31) (.c (.d (.int .i64 1)))), oM 33 (.slcs (.c (.d (.str [48, 49, 50, 51, 52, 53, 54, 55, 56, 57]))) (some (.t 30)) (some (.t 32))), oM 34 (.bin .add (.t 29) (.t 33)), oM 35 (.mv (.t 5)), oM 36 (.bin .add (.t 34) (.t 35)), oM 2 (.mv (.t 36))] []) .ret))))))))
theorem ac23_ok : Tryz.f23.body.bind (cCode Tryz.prog Tryz.f23.ntmps) = some ac23 := by kernel_rfl
-- 27 jacquard/lex.Long
def ac27 : ACode := (.seq (.region false [ oM 2 (.alloc [.d (.int .i64 0), .d (.int .i64 0)])] []) (.seq (.seq (.region false [ oM 3 (.mv (.t 0)), oM 4 (.lens (.t 3)), oM 5 (.bin .gtr (.t 4) (.c (.d (.int .i64 4000))))] []) (.cond (.t 5) (.seq (.region false [ oM 6 (.build [.d (.int .i64 0), .d (.int .i64 0)] [(0, 1, (.c (.d (.int .i64 2)))), (1, 1, (.c (.d (.int .i64 4000))))]), ⟨none, .store 2 (.t 2) (.t 6), none⟩] []) .ret) .skip)) (.seq (.region false [ oM 7 (.build [.d (.int .i64 0), .d (.int .i64 0)] []), ⟨none, .store 2 (.t 2) (.t 7), none⟩] []) .ret)))
theorem ac27_ok : Tryz.f27.body.bind (cCode Tryz.prog Tryz.f27.ntmps) = some ac27 := by kernel_rfl
-- 28 jacquard/lex.New
def ac28 : ACode := (.seq (.region false [ oM 2 (.mv (.c (.d .nptr)))] []) (.seq (.region false [ oM 3 (.mv (.t 0)), oM 4 (.build [.d (.str []), .d (.int .i64 0), .d (.int .i64 0), .d (.int .i64 0), .d (.int .i64 0)] [(0, 1, (.t 3))]), oM 5 (.box (.t 4)), oM 2 (.mv (.t 5))] []) .ret))
theorem ac28_ok : Tryz.f28.body.bind (cCode Tryz.prog Tryz.f28.ntmps) = some ac28 := by kernel_rfl
-- 49 jacquard/well.big
-- 50 jacquard/well.twice
-- 51 slices.ContainsFunc[[][]jacquard/api.Ins,[]jacquard/api.Ins]
-- 52 jacquard/well.Check$1
-- 53 jacquard/well.Jumps
-- 54 slices.ContainsFunc[[]jacquard/api.Atom,jacquard/api.Atom]
-- 55 jacquard/well.Check$2
-- 56 jacquard/well.Locs
-- 57 jacquard/print.Ins
-- 58 jacquard/print.Test$1
-- 59 (*strings.Builder).WriteString
-- 60 jacquard/print.loc
-- 61 jacquard/num.Text
-- 62 jacquard/print.Cond
-- 64 slices.Equal[[]jacquard/api.Init,jacquard/api.Init]
-- 65 slices.EqualFunc[[][]jacquard/api.Ins,[][]jacquard/api.Ins,[]jacquard/api.Ins,[]jacquard/api.Ins]
-- 66 slices.Equal[[]jacquard/api.Ins,jacquard/api.Ins]
-- 67 slices.EqualFunc[[][]jacquard/api.Atom,[][]jacquard/api.Atom,[]jacquard/api.Atom,[]jacquard/api.Atom]
-- 68 slices.Equal[[]jacquard/api.Atom,jacquard/api.Atom]
-- 69 jacquard/print.Ok$1
-- 70 slices.ContainsFunc[[]jacquard/api.Ins,jacquard/api.Ins]
-- 71 jacquard/print.Ok$1$1
-- 72 jacquard/print.okIns
-- 73 jacquard/print.isWord
-- 74 slices.ContainsFunc[[]jacquard/api.Init,jacquard/api.Init]
-- 75 jacquard/print.Ok$2
-- 76 jacquard/print.IsLoc
-- 77 jacquard/print.okCond
-- 85 (*jacquard/lex.Lexer).Next
def ac85 : ACode := (.seq (.region false [ oM 2 (.alloc [.d (.int .i64 0), .d (.str []), .d (.int .i64 0)]), oM 3 (.alloc [.d (.int .i64 0), .d (.int .i64 0)])] []) (.seq (.seq (.region false [ oM 10 (.mv (.t 0)), oM 11 (.nilck (.t 10)), oM 12 (.faddr (.t 11) 3), oM 13 (.faddr (.t 12) 0), oM 14 (.load none (.t 13)), oM 15 (.bin .neq (.t 14) (.c (.d (.int .i64 0))))] []) (.cond (.t 15) (.seq (.region true [ oM 16 (.build [.d (.int .i64 0), .d (.str []), .d (.int .i64 0)] []), oM 17 (.mv (.t 0)), oM 18 (.nilck (.t 17)), oM 19 (.faddr (.t 18) 3), oM 20 (.load (some 2) (.t 19)), ⟨none, .store 3 (.t 2) (.t 16), none⟩, ⟨none, .store 2 (.t 3) (.t 20), none⟩] [0, 0, 2, 4, 8, 1, 63]) .ret) .skip)) (.seq (.region false [ oM 21 (.mv (.t 0)), oM 22 (.callf 118 [(.t 21)])] []) (.seq (.seq (.region false [ oM 23 (.mv (.t 0)), oM 24 (.mv (.t 0)), oM 25 (.nilck (.t 24)), oM 26 (.faddr (.t 25) 1), oM 27 (.load none (.t 26)), oM 28 (.callf 119 [(.t 23), (.t 27)]), oM 29 (.un .not (.t 28))] []) (.cond (.t 29) (.seq (.region false [ oM 30 (.mv (.t 0)), oM 31 (.nilck (.t 30)), oM 32 (.faddr (.t 31) 1), oM 33 (.load none (.t 32)), oM 34 (.build [.d (.int .i64 0), .d (.str []), .d (.int .i64 0)] [(0, 1, (.c (.d (.int .i64 4)))), (2, 1, (.t 33))]), oM 35 (.build [.d (.int .i64 0), .d (.int .i64 0)] []), ⟨none, .store 3 (.t 2) (.t 34), none⟩, ⟨none, .store 2 (.t 3) (.t 35), none⟩] []) .ret) .skip)) (.seq (.region false [ oM 36 (.mv (.t 0)), oM 37 (.mv (.t 0)), oM 38 (.nilck (.t 37)), oM 39 (.faddr (.t 38) 1), oM 40 (.load none (.t 39)), oM 41 (.callf 120 [(.t 36), (.t 40)]), oM 4 (.mv (.t 41))] []) (.seq (.region false [ oM 42 (.mv (.t 0)), oM 43 (.nilck (.t 42)), oM 44 (.faddr (.t 43) 1), oM 45 (.load none (.t 44)), oM 46 (.build [.d (.int .i64 0), .d (.str []), .d (.int .i64 0)] [(2, 1, (.t 45))]), oM 5 (.alloc [.d (.int .i64 0), .d (.str []), .d (.int .i64 0)]), ⟨none, .store 3 (.t 5) (.t 46), none⟩] []) (.seq (.region false [ oM 47 (.mv (.t 0)), oM 48 (.nilck (.t 47)), oM 49 (.faddr (.t 48) 1), oM 50 (.load none (.t 49)), oM 6 (.mv (.t 50))] []) (.seq (.block 0 (.seq (.region false [ oM 68 (.mv (.t 4)), oM 69 (.callf 121 [(.t 68)]), oM 70 (.bin .eql (.t 69) (.c (.d (.int .i64 2)))), oM 67 (.mv (.t 70))] []) (.cond (.t 67) (.region false [ oM 71 (.mv (.t 0)), oM 72 (.mv (.t 0)), oM 73 (.nilck (.t 72)), oM 74 (.faddr (.t 73) 1), oM 75 (.load none (.t 74)), oM 76 (.callf 122 [(.t 71), (.t 75)]), oM 77 (.faddr (.t 5) 0), ⟨none, .store 1 (.t 77) (.c (.d (.int .i64 1))), none⟩, oM 6 (.mv (.t 76))] []) (.seq (.region false [ oM 79 (.mv (.t 4)), oM 80 (.callf 121 [(.t 79)]), oM 81 (.bin .eql (.t 80) (.c (.d (.int .i64 3)))), oM 82 (.mv (.t 81)), oG 83 (.mv (.t 4)) 82 false, oG 84 (.bin .eql (.t 83) (.c (.d (.int .u8 45)))) 82 false, oG 85 (.mv (.t 84)) 82 false, oG 86 (.mv (.t 0)) 85 true, oG 87 (.mv (.t 0)) 85 true, oG 88 (.nilck (.t 87)) 85 true, oG 89 (.faddr (.t 88) 1) 85 true, oG 90 (.load none (.t 89)) 85 true, oG 91 (.bin .add (.t 90) (.c (.d (.int .i64 1)))) 85 true, oG 92 (.callf 120 [(.t 86), (.t 91)]) 85 true, oG 93 (.callf 121 [(.t 92)]) 85 true, oG 94 (.bin .eql (.t 93) (.c (.d (.int .i64 3)))) 85 true, oG 95 (.pick (.t 85) (.t 94) (.c (.d (.bool false)))) 82 false, oM 96 (.pick (.t 82) (.c (.d (.bool true))) (.t 95)), oM 78 (.mv (.t 96))] []) (.cond (.t 78) (.seq (.region false [ oM 97 (.mv (.t 0)), oM 98 (.mv (.t 0)), oM 99 (.nilck (.t 98)), oM 100 (.faddr (.t 99) 1), oM 101 (.load none (.t 100)), oM 102 (.bin .add (.t 101) (.c (.d (.int .i64 1)))), oM 103 (.callf 122 [(.t 97), (.t 102)]), oM 104 (.faddr (.t 5) 0), ⟨none, .store 1 (.t 104) (.c (.d (.int .i64 2))), none⟩, oM 6 (.mv (.t 103))] []) (.seq (.region true [ oM 106 (.mv (.t 0)), oM 107 (.nilck (.t 106)), oM 108 (.faddr (.t 107) 0), oM 109 (.load none (.t 108)), oM 110 (.mv (.t 0)), oM 111 (.nilck (.t 110)), oM 112 (.faddr (.t 111) 1), oM 113 (.load none (.t 112)), oM 114 (.mv (.t 6)), oM 115 (.slcs (.t 109) (some (.t 113)) (some (.t 114))), oM 116 (.callf 123 [(.t 115)]), oM 105 (.mv (.t 116)), oM 117 (.ext (.t 105) 0), oM 118 (.ext (.t 105) 1), oM 7 (.mv (.t 117)), oM 8 (.mv (.t 118))] [0, 1, 2, 4, 0, 16, 32, 64, 0, 392, 512, 1024, 2048, 2048, 8191, 32767]) (.seq (.region false [ oM 119 (.mv (.t 8)), oM 120 (.un .not (.t 119))] []) (.cond (.t 120) (.seq (.region false [ oM 121 (.mv (.t 0)), oM 122 (.callf 124 [(.t 121), (.c (.d (.int .i64 5)))]), oM 123 (.ext (.t 122) 0), oM 124 (.ext (.t 122) 1), ⟨none, .store 3 (.t 2) (.t 123), none⟩, ⟨none, .store 2 (.t 3) (.t 124), none⟩] []) .ret) .skip)))) (.seq (.region false [ oM 51 (.mv (.t 0)), oM 52 (.callf 125 [(.t 51)]), oM 9 (.mv (.t 52))] []) (.seq (.seq (.region false [ oM 53 (.mv (.t 9)), oM 54 (.bin .eql (.t 53) (.c (.d (.str []))))] []) (.cond (.t 54) (.seq (.region false [ oM 55 (.mv (.t 0)), oM 56 (.callf 124 [(.t 55), (.c (.d (.int .i64 4)))]), oM 57 (.ext (.t 56) 0), oM 58 (.ext (.t 56) 1), ⟨none, .store 3 (.t 2) (.t 57), none⟩, ⟨none, .store 2 (.t 3) (.t 58), none⟩] []) .ret) .skip)) (.region true [ oM 59 (.mv (.t 0)), oM 60 (.nilck (.t 59)), oM 61 (.faddr (.t 60) 1), oM 62 (.load none (.t 61)), oM 63 (.mv (.t 9)), oM 64 (.lens (.t 63)), oM 65 (.bin .add (.t 62) (.t 64)), oM 66 (.faddr (.t 5) 0), ⟨none, .store 1 (.t 66) (.c (.d (.int .i64 3))), none⟩, oM 6 (.mv (.t 65))] [0, 1, 2, 4, 0, 16, 40, 0, 128, 511])))))))) (.seq (.region true [ oM 125 (.mv (.t 0)), oM 126 (.mv (.t 0)), oM 127 (.nilck (.t 126)), oM 128 (.faddr (.t 127) 0), oM 129 (.load none (.t 128)), oM 130 (.mv (.t 0)), oM 131 (.nilck (.t 130)), oM 132 (.faddr (.t 131) 1), oM 133 (.load none (.t 132)), oM 134 (.mv (.t 6)), oM 135 (.slcs (.t 129) (some (.t 133)) (some (.t 134))), oM 136 (.mv (.t 6)), oM 137 (.faddr (.t 5) 1), ⟨none, .store 1 (.t 137) (.t 135), none⟩, oM 138 (.nilck (.t 125)), oM 139 (.faddr (.t 138) 1), ⟨none, .store 1 (.t 139) (.t 136), none⟩] [0, 0, 2, 4, 8, 0, 32, 64, 128, 0, 784, 0, 2046, 6142, 16383, 32767, 49151]) (.seq (.region false [ oM 140 (.load (some 3) (.t 5)), oM 141 (.build [.d (.int .i64 0), .d (.int .i64 0)] []), ⟨none, .store 3 (.t 2) (.t 140), none⟩, ⟨none, .store 2 (.t 3) (.t 141), none⟩] []) .ret))))))))))
theorem ac85_ok : Tryz.f85.body.bind (cCode Tryz.prog Tryz.f85.ntmps) = some ac85 := by kernel_rfl
-- 92 jacquard/jacquardref2.Parse
def ac92L0 : ACode := (.seq (.seq (.region false [ oM 40 (.mv (.t 7)), oM 41 (.mv (.t 5)), oM 42 (.lens (.t 41)), oM 43 (.bin .lss (.t 40) (.t 42))] []) (.cond (.t 43) .skip (.exit 0))) (.seq (.block 1 (.seq (.seq (.region false [ oM 46 (.mv (.t 5)), oM 47 (.mv (.t 7)), oM 48 (.idxs (.t 46) (.t 47)), oM 49 (.bin .lss (.t 48) (.c (.d (.int .u8 48)))), oM 50 (.mv (.t 49)), oG 51 (.mv (.t 5)) 50 false, oG 52 (.mv (.t 7)) 50 false, oG 53 (.idxs (.t 51) (.t 52)) 50 false, oG 54 (.bin .gtr (.t 53) (.c (.d (.int .u8 57)))) 50 false, oM 55 (.pick (.t 50) (.c (.d (.bool true))) (.t 54))] []) (.cond (.t 55) (.seq (.region false [ oM 2 (.mv (.c (.d (.int .i64 0)))), oM 3 (.mv (.c (.d (.bool false))))] []) .ret) .skip)) (.region false [ oM 56 (.mv (.t 6)), oM 57 (.bin .mul (.c (.d (.int .u64 10))) (.t 56)), oM 58 (.mv (.t 5)), oM 59 (.mv (.t 7)), oM 60 (.idxs (.t 58) (.t 59)), oM 61 (.bin .sub (.t 60) (.c (.d (.int .u8 48)))), oM 62 (.cvi .u64 (.t 61)), oM 63 (.bin .add (.t 57) (.t 62)), oM 6 (.mv (.t 63))] []))) (.region false [ oM 44 (.mv (.t 7)), oM 45 (.bin .add (.t 44) (.c (.d (.int .i64 1)))), oM 7 (.mv (.t 45))] [])))
def ac92 : ACode := (.seq (.region false [ oM 2 (.mv (.c (.d (.int .i64 0)))), oM 3 (.mv (.c (.d (.bool false))))] []) (.seq (.region false [ oM 8 (.mv (.t 0)), oM 9 (.lens (.t 8)), oM 10 (.bin .gtr (.t 9) (.c (.d (.int .i64 0)))), oM 11 (.mv (.t 10)), oG 12 (.mv (.t 0)) 11 true, oG 13 (.idxs (.t 12) (.c (.d (.int .i64 0)))) 11 true, oG 14 (.bin .eql (.t 13) (.c (.d (.int .u8 45)))) 11 true, oM 15 (.pick (.t 11) (.t 14) (.c (.d (.bool false)))), oM 4 (.mv (.t 15))] []) (.seq (.region false [ oM 16 (.mv (.t 0)), oM 5 (.mv (.t 16))] []) (.seq (.seq (.region false [ oM 17 (.mv (.t 4))] []) (.cond (.t 17) (.region false [ oM 18 (.mv (.t 0)), oM 19 (.slcs (.t 18) (some (.c (.d (.int .i64 1)))) none), oM 5 (.mv (.t 19))] []) .skip)) (.seq (.seq (.region false [ oM 20 (.mv (.t 5)), oM 21 (.bin .eql (.t 20) (.c (.d (.str [])))), oM 22 (.mv (.t 21)), oG 23 (.mv (.t 5)) 22 false, oG 24 (.lens (.t 23)) 22 false, oG 25 (.bin .gtr (.t 24) (.c (.d (.int .i64 19)))) 22 false, oM 26 (.pick (.t 22) (.c (.d (.bool true))) (.t 25)), oM 27 (.mv (.t 26)), oG 28 (.mv (.t 5)) 27 false, oG 29 (.idxs (.t 28) (.c (.d (.int .i64 0)))) 27 false, oG 30 (.bin .eql (.t 29) (.c (.d (.int .u8 48)))) 27 false, oG 31 (.mv (.t 30)) 27 false, oG 32 (.mv (.t 5)) 31 true, oG 33 (.lens (.t 32)) 31 true, oG 34 (.bin .gtr (.t 33) (.c (.d (.int .i64 1)))) 31 true, oG 35 (.mv (.t 34)) 31 true, oG 36 (.mv (.t 4)) 35 false, oG 37 (.pick (.t 35) (.c (.d (.bool true))) (.t 36)) 31 true, oG 38 (.pick (.t 31) (.t 37) (.c (.d (.bool false)))) 27 false, oM 39 (.pick (.t 27) (.c (.d (.bool true))) (.t 38))] []) (.cond (.t 39) (.seq (.region false [ oM 2 (.mv (.c (.d (.int .i64 0)))), oM 3 (.mv (.c (.d (.bool false))))] []) .ret) .skip)) (.seq (.region false [ oM 6 (.mv (.c (.d (.int .u64 0))))] []) (.seq (.seq (.region false [ oM 7 (.mv (.c (.d (.int .i64 0))))] []) (.block 0 (.loop ac92L0))) (.seq (.seq (.region false [ oM 64 (.mv (.t 4))] []) (.cond (.t 64) (.seq (.region false [ oM 65 (.mv (.t 6)), oM 66 (.un .neg (.t 65)), oM 67 (.cvi .i64 (.t 66)), oM 68 (.mv (.t 6)), oM 69 (.bin .leq (.t 68) (.c (.d (.int .u64 9223372036854775808)))), oM 2 (.mv (.t 67)), oM 3 (.mv (.t 69))] []) .ret) .skip)) (.seq (.region false [ oM 70 (.mv (.t 6)), oM 71 (.cvi .i64 (.t 70)), oM 72 (.mv (.t 6)), oM 73 (.bin .lss (.t 72) (.c (.d (.int .u64 9223372036854775808)))), oM 2 (.mv (.t 71)), oM 3 (.mv (.t 73))] []) .ret)))))))))
theorem ac92_ok : Tryz.f92.body.bind (cCode Tryz.prog Tryz.f92.ntmps) = some ac92 := by kernel_rfl
-- 96 jacquard/jacquardref2.Next
def ac96L0 : ACode := (.seq (.seq (.region false [ oM 34 (.mv (.t 9)), oM 35 (.mv (.t 0)), oM 36 (.lens (.t 35)), oM 37 (.bin .lss (.t 34) (.t 36)), oM 38 (.mv (.t 37)), oG 39 (.mv (.t 0)) 38 true, oG 40 (.mv (.t 9)) 38 true, oG 41 (.idxs (.t 39) (.t 40)) 38 true, oG 42 (.callf 114 [(.t 41)]) 38 true, oG 43 (.mv (.t 42)) 38 true, oG 44 (.mv (.t 0)) 43 false, oG 45 (.mv (.t 9)) 43 false, oG 46 (.idxs (.t 44) (.t 45)) 43 false, oG 47 (.callf 115 [(.t 46)]) 43 false, oG 48 (.pick (.t 43) (.c (.d (.bool true))) (.t 47)) 38 true, oM 49 (.pick (.t 38) (.t 48) (.c (.d (.bool false))))] []) (.cond (.t 49) .skip (.exit 0))) (.block 1 (.region false [ oM 50 (.mv (.t 9)), oM 51 (.bin .add (.t 50) (.c (.d (.int .i64 1)))), oM 9 (.mv (.t 51))] [])))
def ac96L1 : ACode := (.seq (.seq (.region false [ oM 78 (.mv (.t 9)), oM 79 (.mv (.t 0)), oM 80 (.lens (.t 79)), oM 81 (.bin .lss (.t 78) (.t 80)), oM 82 (.mv (.t 81)), oG 83 (.mv (.t 0)) 82 true, oG 84 (.mv (.t 9)) 82 true, oG 85 (.idxs (.t 83) (.t 84)) 82 true, oG 86 (.callf 114 [(.t 85)]) 82 true, oG 87 (.mv (.t 86)) 82 true, oG 88 (.mv (.t 0)) 87 false, oG 89 (.mv (.t 9)) 87 false, oG 90 (.idxs (.t 88) (.t 89)) 87 false, oG 91 (.callf 115 [(.t 90)]) 87 false, oG 92 (.pick (.t 87) (.c (.d (.bool true))) (.t 91)) 82 true, oM 93 (.pick (.t 82) (.t 92) (.c (.d (.bool false))))] []) (.cond (.t 93) .skip (.exit 2))) (.block 3 (.region false [ oM 94 (.mv (.t 9)), oM 95 (.bin .add (.t 94) (.c (.d (.int .i64 1)))), oM 9 (.mv (.t 95))] [])))
def ac96L2 : ACode := (.seq (.seq (.region false [ oM 119 (.mv (.t 13)), oM 120 (.mv (.t 12)), oM 121 (.lenl (.t 120)), oM 122 (.bin .lss (.t 119) (.t 121)), oM 123 (.mv (.t 122)), oG 124 (.mv (.t 9)) 123 true, oG 125 (.mv (.t 0)) 123 true, oG 126 (.lens (.t 125)) 123 true, oG 127 (.bin .lss (.t 124) (.t 126)) 123 true, oM 128 (.pick (.t 123) (.t 127) (.c (.d (.bool false))))] []) (.cond (.t 128) .skip (.exit 4))) (.seq (.block 5 (.seq (.region true [ oM 131 (.mv (.t 0)), oM 132 (.mv (.t 7)), oM 133 (.mv (.t 9)), oM 134 (.bin .add (.t 133) (.c (.d (.int .i64 1)))), oM 135 (.slcs (.t 131) (some (.t 132)) (some (.t 134))), oM 136 (.mv (.t 12)), oM 137 (.mv (.t 13)), oM 138 (.iaddr 1 none (.t 136) (.t 137)), oM 139 (.load none (.t 138)), oM 140 (.bin .eql (.t 135) (.t 139))] [0, 0, 0, 4, 11, 0, 0, 96, 128, 272]) (.cond (.t 140) (.seq (.region false [ oM 141 (.mv (.t 12)), oM 142 (.mv (.t 13)), oM 143 (.iaddr 1 none (.t 141) (.t 142)), oM 144 (.load none (.t 143)), oM 145 (.mv (.t 7)), oM 146 (.build [.d (.int .i64 0), .d (.str []), .d (.int .i64 0)] [(0, 1, (.c (.d (.int .i64 3)))), (1, 1, (.t 144)), (2, 1, (.t 145))]), oM 147 (.mv (.t 9)), oM 148 (.bin .add (.t 147) (.c (.d (.int .i64 1)))), oM 149 (.build [.d (.int .i64 0), .d (.int .i64 0)] []), ⟨none, .store 3 (.t 4) (.t 146), none⟩, oM 5 (.mv (.t 148)), ⟨none, .store 2 (.t 6) (.t 149), none⟩] []) .ret) .skip))) (.region false [ oM 129 (.mv (.t 13)), oM 130 (.bin .add (.t 129) (.c (.d (.int .i64 1)))), oM 13 (.mv (.t 130))] [])))
def ac96L3 : ACode := (.seq (.seq (.region false [ oM 150 (.mv (.t 15)), oM 151 (.mv (.t 14)), oM 152 (.lens (.t 151)), oM 153 (.bin .lss (.t 150) (.t 152))] []) (.cond (.t 153) .skip (.exit 6))) (.seq (.block 7 (.seq (.region false [ oM 156 (.mv (.t 14)), oM 157 (.mv (.t 15)), oM 158 (.idxs (.t 156) (.t 157)), oM 159 (.mv (.t 8)), oM 160 (.bin .eql (.t 158) (.t 159))] []) (.cond (.t 160) (.seq (.region false [ oM 161 (.mv (.t 14)), oM 162 (.mv (.t 15)), oM 163 (.mv (.t 15)), oM 164 (.bin .add (.t 163) (.c (.d (.int .i64 1)))), oM 165 (.slcs (.t 161) (some (.t 162)) (some (.t 164))), oM 166 (.mv (.t 7)), oM 167 (.build [.d (.int .i64 0), .d (.str []), .d (.int .i64 0)] [(0, 1, (.c (.d (.int .i64 3)))), (1, 1, (.t 165)), (2, 1, (.t 166))]), oM 168 (.mv (.t 9)), oM 169 (.build [.d (.int .i64 0), .d (.int .i64 0)] []), ⟨none, .store 3 (.t 4) (.t 167), none⟩, oM 5 (.mv (.t 168)), ⟨none, .store 2 (.t 6) (.t 169), none⟩] []) .ret) .skip))) (.region false [ oM 154 (.mv (.t 15)), oM 155 (.bin .add (.t 154) (.c (.d (.int .i64 1)))), oM 15 (.mv (.t 155))] [])))
def ac96 : ACode := (.seq (.region false [ oM 4 (.alloc [.d (.int .i64 0), .d (.str []), .d (.int .i64 0)]), oM 5 (.mv (.c (.d (.int .i64 0)))), oM 6 (.alloc [.d (.int .i64 0), .d (.int .i64 0)])] []) (.seq (.region false [ oM 16 (.mv (.t 0)), oM 17 (.mv (.t 1)), oM 18 (.callf 130 [(.t 16), (.t 17)]), oM 7 (.mv (.t 18))] []) (.seq (.seq (.region false [ oM 19 (.mv (.t 7)), oM 20 (.mv (.t 0)), oM 21 (.lens (.t 20)), oM 22 (.bin .eql (.t 19) (.t 21))] []) (.cond (.t 22) (.seq (.region false [ oM 23 (.mv (.t 7)), oM 24 (.build [.d (.int .i64 0), .d (.str []), .d (.int .i64 0)] [(0, 1, (.c (.d (.int .i64 4)))), (2, 1, (.t 23))]), oM 25 (.mv (.t 7)), oM 26 (.build [.d (.int .i64 0), .d (.int .i64 0)] []), ⟨none, .store 3 (.t 4) (.t 24), none⟩, oM 5 (.mv (.t 25)), ⟨none, .store 2 (.t 6) (.t 26), none⟩] []) .ret) .skip)) (.seq (.region false [ oM 27 (.mv (.t 0)), oM 28 (.mv (.t 7)), oM 29 (.idxs (.t 27) (.t 28)), oM 8 (.mv (.t 29))] []) (.seq (.region false [ oM 30 (.mv (.t 7)), oM 31 (.bin .add (.t 30) (.c (.d (.int .i64 1)))), oM 9 (.mv (.t 31))] []) (.seq (.seq (.region false [ oM 32 (.mv (.t 8)), oM 33 (.callf 114 [(.t 32)])] []) (.cond (.t 33) (.seq (.block 0 (.loop ac96L0)) (.seq (.region false [ oM 52 (.mv (.t 0)), oM 53 (.mv (.t 7)), oM 54 (.mv (.t 9)), oM 55 (.slcs (.t 52) (some (.t 53)) (some (.t 54))), oM 56 (.mv (.t 7)), oM 57 (.build [.d (.int .i64 0), .d (.str []), .d (.int .i64 0)] [(0, 1, (.c (.d (.int .i64 1)))), (1, 1, (.t 55)), (2, 1, (.t 56))]), oM 58 (.mv (.t 9)), oM 59 (.build [.d (.int .i64 0), .d (.int .i64 0)] []), ⟨none, .store 3 (.t 4) (.t 57), none⟩, oM 5 (.mv (.t 58)), ⟨none, .store 2 (.t 6) (.t 59), none⟩] []) .ret)) .skip)) (.seq (.seq (.region false [ oM 60 (.mv (.t 8)), oM 61 (.callf 115 [(.t 60)]), oM 62 (.mv (.t 61)), oG 63 (.mv (.t 8)) 62 false, oG 64 (.bin .eql (.t 63) (.c (.d (.int .u8 45)))) 62 false, oG 65 (.mv (.t 64)) 62 false, oG 66 (.mv (.t 9)) 65 true, oG 67 (.mv (.t 0)) 65 true, oG 68 (.lens (.t 67)) 65 true, oG 69 (.bin .lss (.t 66) (.t 68)) 65 true, oG 70 (.pick (.t 65) (.t 69) (.c (.d (.bool false)))) 62 false, oG 71 (.mv (.t 70)) 62 false, oG 72 (.mv (.t 0)) 71 true, oG 73 (.mv (.t 9)) 71 true, oG 74 (.idxs (.t 72) (.t 73)) 71 true, oG 75 (.callf 115 [(.t 74)]) 71 true, oG 76 (.pick (.t 71) (.t 75) (.c (.d (.bool false)))) 62 false, oM 77 (.pick (.t 62) (.c (.d (.bool true))) (.t 76))] []) (.cond (.t 77) (.seq (.block 2 (.loop ac96L1)) (.seq (.seq (.region false [ oM 97 (.mv (.t 0)), oM 98 (.mv (.t 7)), oM 99 (.mv (.t 9)), oM 100 (.slcs (.t 97) (some (.t 98)) (some (.t 99))), oM 101 (.callf 92 [(.t 100)]), oM 96 (.mv (.t 101)), oM 102 (.ext (.t 96) 0), oM 103 (.ext (.t 96) 1), oM 10 (.mv (.t 102)), oM 11 (.mv (.t 103))] []) (.seq (.region false [ oM 104 (.mv (.t 11)), oM 105 (.un .not (.t 104))] []) (.cond (.t 105) (.seq (.region false [ oM 106 (.build [.d (.int .i64 0), .d (.str []), .d (.int .i64 0)] []), oM 107 (.mv (.t 7)), oM 108 (.mv (.t 7)), oM 109 (.build [.d (.int .i64 0), .d (.int .i64 0)] [(0, 1, (.c (.d (.int .i64 5)))), (1, 1, (.t 108))]), ⟨none, .store 3 (.t 4) (.t 106), none⟩, oM 5 (.mv (.t 107)), ⟨none, .store 2 (.t 6) (.t 109), none⟩] []) .ret) .skip))) (.seq (.region false [ oM 110 (.mv (.t 0)), oM 111 (.mv (.t 7)), oM 112 (.mv (.t 9)), oM 113 (.slcs (.t 110) (some (.t 111)) (some (.t 112))), oM 114 (.mv (.t 7)), oM 115 (.build [.d (.int .i64 0), .d (.str []), .d (.int .i64 0)] [(0, 1, (.c (.d (.int .i64 2)))), (1, 1, (.t 113)), (2, 1, (.t 114))]), oM 116 (.mv (.t 9)), oM 117 (.build [.d (.int .i64 0), .d (.int .i64 0)] []), ⟨none, .store 3 (.t 4) (.t 115), none⟩, oM 5 (.mv (.t 116)), ⟨none, .store 2 (.t 6) (.t 117), none⟩] []) .ret))) .skip)) (.seq (.region false [ oM 118 (.bslice 1 4 [.d (.str []), .d (.str []), .d (.str []), .d (.str [])] [(0, 1, (.c (.d (.str [60, 60])))), (1, 1, (.c (.d (.str [62, 62])))), (2, 1, (.c (.d (.str [61, 61])))), (3, 1, (.c (.d (.str [33, 61]))))]), oM 12 (.mv (.t 118))] []) (.seq (.seq (.region false [ oM 13 (.mv (.c (.d (.int .i64 0))))] []) (.block 4 (.loop ac96L2))) (.seq (.region false [ oM 14 (.mv (.c (.d (.str [123, 125, 59, 58, 61, 43, 45, 42, 38, 124, 94, 60]))))] []) (.seq (.seq (.region false [ oM 15 (.mv (.c (.d (.int .i64 0))))] []) (.block 6 (.loop ac96L3))) (.seq (.region false [ oM 170 (.build [.d (.int .i64 0), .d (.str []), .d (.int .i64 0)] []), oM 171 (.mv (.t 7)), oM 172 (.mv (.t 7)), oM 173 (.build [.d (.int .i64 0), .d (.int .i64 0)] [(0, 1, (.c (.d (.int .i64 4)))), (1, 1, (.t 172))]), ⟨none, .store 3 (.t 4) (.t 170), none⟩, oM 5 (.mv (.t 171)), ⟨none, .store 2 (.t 6) (.t 173), none⟩] []) .ret))))))))))))
theorem ac96_ok : Tryz.f96.body.bind (cCode Tryz.prog Tryz.f96.ntmps) = some ac96 := by kernel_rfl
-- 97 jacquard/well.big$1
-- 98 slices.ContainsFunc[[][]jacquard/api.Atom,[]jacquard/api.Atom]
-- 99 slices.IndexFunc[[][]jacquard/api.Ins,[]jacquard/api.Ins]
-- 100 slices.IndexFunc[[]jacquard/api.Atom,jacquard/api.Atom]
-- 101 jacquard/well.letters
-- 102 jacquard/print.operand
-- 103 jacquard/print.reg
-- 104 jacquard/num.Sign
-- 108 slices.IndexFunc[[]jacquard/api.Ins,jacquard/api.Ins]
-- 109 jacquard/print.Fields
-- 110 slices.IndexFunc[[]jacquard/api.Init,jacquard/api.Init]
-- 111 jacquard/print.okCond$1
-- 112 jacquard/print.okCond$1$1
-- 113 jacquard/print.okAtom
-- 114 jacquard/jacquardref2.letter
def ac114 : ACode := (.seq (.region false [ oM 2 (.mv (.c (.d (.bool false))))] []) (.seq (.region false [ oM 3 (.mv (.t 0)), oM 4 (.bin .geq (.t 3) (.c (.d (.int .u8 97)))), oM 5 (.mv (.t 4)), oG 6 (.mv (.t 0)) 5 true, oG 7 (.bin .leq (.t 6) (.c (.d (.int .u8 122)))) 5 true, oM 8 (.pick (.t 5) (.t 7) (.c (.d (.bool false)))), oM 2 (.mv (.t 8))] []) .ret))
theorem ac114_ok : Tryz.f114.body.bind (cCode Tryz.prog Tryz.f114.ntmps) = some ac114 := by kernel_rfl
-- 115 jacquard/jacquardref2.digit
def ac115 : ACode := (.seq (.region false [ oM 2 (.mv (.c (.d (.bool false))))] []) (.seq (.region false [ oM 3 (.mv (.t 0)), oM 4 (.bin .geq (.t 3) (.c (.d (.int .u8 48)))), oM 5 (.mv (.t 4)), oG 6 (.mv (.t 0)) 5 true, oG 7 (.bin .leq (.t 6) (.c (.d (.int .u8 57)))) 5 true, oM 8 (.pick (.t 5) (.t 7) (.c (.d (.bool false)))), oM 2 (.mv (.t 8))] []) .ret))
theorem ac115_ok : Tryz.f115.body.bind (cCode Tryz.prog Tryz.f115.ntmps) = some ac115 := by kernel_rfl
-- 118 (*jacquard/lex.Lexer).skip
def ac118L0 : ACode := (.seq (.seq (.region false [ oM 18 (.mv (.t 0)), oM 19 (.mv (.t 0)), oM 20 (.nilck (.t 19)), oM 21 (.faddr (.t 20) 1), oM 22 (.load none (.t 21)), oM 23 (.callf 119 [(.t 18), (.t 22)]), oM 24 (.mv (.t 23)), oG 25 (.mv (.t 0)) 24 true, oG 26 (.mv (.t 0)) 24 true, oG 27 (.nilck (.t 26)) 24 true, oG 28 (.faddr (.t 27) 1) 24 true, oG 29 (.load none (.t 28)) 24 true, oG 30 (.callf 120 [(.t 25), (.t 29)]) 24 true, oG 31 (.bin .neq (.t 30) (.c (.d (.int .u8 10)))) 24 true, oM 32 (.pick (.t 24) (.t 31) (.c (.d (.bool false))))] []) (.cond (.t 32) .skip (.exit 3))) (.block 4 (.region false [ oM 33 (.mv (.t 0)), oM 34 (.nilck (.t 33)), oM 35 (.faddr (.t 34) 1), oM 36 (.load none (.t 35)), oM 37 (.bin .add (.t 36) (.c (.d (.int .i64 1)))), oM 38 (.nilck (.t 33)), oM 39 (.faddr (.t 38) 1), ⟨none, .store 1 (.t 39) (.t 37), none⟩] [])))
def ac118L1 : ACode := (.seq (.seq (.region false [ oM 3 (.mv (.t 0)), oM 4 (.mv (.t 0)), oM 5 (.nilck (.t 4)), oM 6 (.faddr (.t 5) 1), oM 7 (.load none (.t 6)), oM 8 (.callf 119 [(.t 3), (.t 7)])] []) (.cond (.t 8) .skip (.exit 0))) (.block 1 (.seq (.region false [ oM 9 (.mv (.t 0)), oM 10 (.mv (.t 0)), oM 11 (.nilck (.t 10)), oM 12 (.faddr (.t 11) 1), oM 13 (.load none (.t 12)), oM 14 (.callf 120 [(.t 9), (.t 13)]), oM 2 (.mv (.t 14))] []) (.block 2 (.seq (.region false [ oM 16 (.mv (.t 2)), oM 17 (.bin .eql (.t 16) (.c (.d (.int .u8 35)))), oM 15 (.mv (.t 17))] []) (.cond (.t 15) (.block 3 (.loop ac118L0)) (.seq (.region false [ oM 41 (.mv (.t 2)), oM 42 (.callf 121 [(.t 41)]), oM 43 (.bin .eql (.t 42) (.c (.d (.int .i64 1)))), oM 40 (.mv (.t 43))] []) (.cond (.t 40) (.region false [ oM 44 (.mv (.t 0)), oM 45 (.nilck (.t 44)), oM 46 (.faddr (.t 45) 1), oM 47 (.load none (.t 46)), oM 48 (.bin .add (.t 47) (.c (.d (.int .i64 1)))), oM 49 (.nilck (.t 44)), oM 50 (.faddr (.t 49) 1), ⟨none, .store 1 (.t 50) (.t 48), none⟩] []) .ret))))))))
def ac118 : ACode := (.block 0 (.loop ac118L1))
theorem ac118_ok : Tryz.f118.body.bind (cCode Tryz.prog Tryz.f118.ntmps) = some ac118 := by kernel_rfl
-- 119 (*jacquard/lex.Lexer).has
def ac119 : ACode := (.seq (.region false [ oM 4 (.mv (.c (.d (.bool false))))] []) (.seq (.region false [ oM 5 (.mv (.t 1)), oM 6 (.mv (.t 0)), oM 7 (.nilck (.t 6)), oM 8 (.faddr (.t 7) 0), oM 9 (.load none (.t 8)), oM 10 (.lens (.t 9)), oM 11 (.bin .lss (.t 5) (.t 10)), oM 4 (.mv (.t 11))] []) .ret))
theorem ac119_ok : Tryz.f119.body.bind (cCode Tryz.prog Tryz.f119.ntmps) = some ac119 := by kernel_rfl
-- 120 (*jacquard/lex.Lexer).peek
def ac120 : ACode := (.seq (.region false [ oM 4 (.mv (.c (.d (.int .u8 0))))] []) (.seq (.seq (.region false [ oM 5 (.mv (.t 1)), oM 6 (.mv (.t 0)), oM 7 (.nilck (.t 6)), oM 8 (.faddr (.t 7) 0), oM 9 (.load none (.t 8)), oM 10 (.lens (.t 9)), oM 11 (.bin .geq (.t 5) (.t 10))] []) (.cond (.t 11) (.seq (.region false [ oM 4 (.mv (.c (.d (.int .u8 0))))] []) .ret) .skip)) (.seq (.region false [ oM 12 (.mv (.t 0)), oM 13 (.mv (.t 0)), oM 14 (.nilck (.t 13)), oM 15 (.faddr (.t 14) 2), oM 16 (.load none (.t 15)), oM 17 (.mv (.t 1)), oM 18 (.bin .add (.t 17) (.c (.d (.int .i64 1)))), oM 19 (.maxI (.t 16) (.t 18)), oM 20 (.nilck (.t 12)), oM 21 (.faddr (.t 20) 2), ⟨none, .store 1 (.t 21) (.t 19), none⟩] []) (.seq (.region false [ oM 22 (.mv (.t 0)), oM 23 (.nilck (.t 22)), oM 24 (.faddr (.t 23) 0), oM 25 (.load none (.t 24)), oM 26 (.mv (.t 1)), oM 27 (.idxs (.t 25) (.t 26)), oM 4 (.mv (.t 27))] []) .ret))))
theorem ac120_ok : Tryz.f120.body.bind (cCode Tryz.prog Tryz.f120.ntmps) = some ac120 := by kernel_rfl
-- 121 jacquard/lex.kind
def ac121 : ACode := (.seq (.region false [ oM 2 (.mv (.c (.d (.int .i64 0))))] []) (.seq (.block 0 (.seq (.region false [ oM 4 (.mv (.t 0)), oM 5 (.bin .eql (.t 4) (.c (.d (.int .u8 32)))), oM 6 (.mv (.t 5)), oG 7 (.mv (.t 0)) 6 false, oG 8 (.bin .eql (.t 7) (.c (.d (.int .u8 9)))) 6 false, oM 9 (.pick (.t 6) (.c (.d (.bool true))) (.t 8)), oM 10 (.mv (.t 9)), oG 11 (.mv (.t 0)) 10 false, oG 12 (.bin .eql (.t 11) (.c (.d (.int .u8 10)))) 10 false, oM 13 (.pick (.t 10) (.c (.d (.bool true))) (.t 12)), oM 3 (.mv (.t 13))] []) (.cond (.t 3) (.seq (.region false [ oM 2 (.mv (.c (.d (.int .i64 1))))] []) .ret) (.seq (.region false [ oM 15 (.mv (.t 0)), oM 16 (.bin .geq (.t 15) (.c (.d (.int .u8 97)))), oM 17 (.mv (.t 16)), oG 18 (.mv (.t 0)) 17 true, oG 19 (.bin .leq (.t 18) (.c (.d (.int .u8 122)))) 17 true, oM 20 (.pick (.t 17) (.t 19) (.c (.d (.bool false)))), oM 14 (.mv (.t 20))] []) (.cond (.t 14) (.seq (.region false [ oM 2 (.mv (.c (.d (.int .i64 2))))] []) .ret) (.seq (.region false [ oM 22 (.mv (.t 0)), oM 23 (.bin .geq (.t 22) (.c (.d (.int .u8 48)))), oM 24 (.mv (.t 23)), oG 25 (.mv (.t 0)) 24 true, oG 26 (.bin .leq (.t 25) (.c (.d (.int .u8 57)))) 24 true, oM 27 (.pick (.t 24) (.t 26) (.c (.d (.bool false)))), oM 21 (.mv (.t 27))] []) (.cond (.t 21) (.seq (.region false [ oM 2 (.mv (.c (.d (.int .i64 3))))] []) .ret) .skip))))))) (.seq (.region false [ oM 2 (.mv (.c (.d (.int .i64 0))))] []) .ret)))
theorem ac121_ok : Tryz.f121.body.bind (cCode Tryz.prog Tryz.f121.ntmps) = some ac121 := by kernel_rfl
-- 122 (*jacquard/lex.Lexer).run
def ac122L0 : ACode := (.seq (.seq (.region false [ oM 5 (.mv (.t 0)), oM 6 (.mv (.t 1)), oM 7 (.callf 119 [(.t 5), (.t 6)]), oM 8 (.mv (.t 7)), oG 9 (.mv (.t 0)) 8 true, oG 10 (.mv (.t 1)) 8 true, oG 11 (.callf 120 [(.t 9), (.t 10)]) 8 true, oG 12 (.callf 121 [(.t 11)]) 8 true, oG 13 (.bin .geq (.t 12) (.c (.d (.int .i64 2)))) 8 true, oM 14 (.pick (.t 8) (.t 13) (.c (.d (.bool false))))] []) (.cond (.t 14) .skip (.exit 0))) (.block 1 (.region false [ oM 15 (.mv (.t 1)), oM 16 (.bin .add (.t 15) (.c (.d (.int .i64 1)))), oM 1 (.mv (.t 16))] [])))
def ac122 : ACode := (.seq (.region false [ oM 4 (.mv (.c (.d (.int .i64 0))))] []) (.seq (.block 0 (.loop ac122L0)) (.seq (.region false [ oM 17 (.mv (.t 1)), oM 4 (.mv (.t 17))] []) .ret)))
theorem ac122_ok : Tryz.f122.body.bind (cCode Tryz.prog Tryz.f122.ntmps) = some ac122 := by kernel_rfl
-- 124 (*jacquard/lex.Lexer).fail
def ac124 : ACode := (.seq (.region false [ oM 4 (.alloc [.d (.int .i64 0), .d (.str []), .d (.int .i64 0)]), oM 5 (.alloc [.d (.int .i64 0), .d (.int .i64 0)])] []) (.seq (.region false [ oM 6 (.mv (.t 0)), oM 7 (.mv (.t 1)), oM 8 (.mv (.t 0)), oM 9 (.nilck (.t 8)), oM 10 (.faddr (.t 9) 1), oM 11 (.load none (.t 10)), oM 12 (.build [.d (.int .i64 0), .d (.int .i64 0)] [(0, 1, (.t 7)), (1, 1, (.t 11))]), oM 13 (.nilck (.t 6)), oM 14 (.faddr (.t 13) 3), ⟨none, .store 2 (.t 14) (.t 12), none⟩] []) (.seq (.region true [ oM 15 (.build [.d (.int .i64 0), .d (.str []), .d (.int .i64 0)] []), oM 16 (.mv (.t 0)), oM 17 (.nilck (.t 16)), oM 18 (.faddr (.t 17) 3), oM 19 (.load (some 2) (.t 18)), ⟨none, .store 3 (.t 4) (.t 15), none⟩, ⟨none, .store 2 (.t 5) (.t 19), none⟩] [0, 0, 2, 4, 8, 1, 63]) .ret)))
theorem ac124_ok : Tryz.f124.body.bind (cCode Tryz.prog Tryz.f124.ntmps) = some ac124 := by kernel_rfl
-- 125 (*jacquard/lex.Lexer).sign
def ac125 : ACode := (.seq (.region false [ oM 2 (.mv (.c (.d (.str []))))] []) (.seq (.region false [ oM 6 (.mv (.t 0)), oM 7 (.mv (.t 0)), oM 8 (.nilck (.t 7)), oM 9 (.faddr (.t 8) 1), oM 10 (.load none (.t 9)), oM 11 (.callf 120 [(.t 6), (.t 10)]), oM 3 (.mv (.t 11))] []) (.seq (.seq (.region false [ oM 12 (.mv (.t 3))] []) (.block 0 (.seq (.seq (.region false [ oM 14 (.bin .eql (.t 12) (.c (.d (.int .u8 60)))), oM 13 (.mv (.t 14))] []) (.cond (.t 13) .skip (.seq (.region false [ oM 15 (.bin .eql (.t 12) (.c (.d (.int .u8 62)))), oM 13 (.mv (.t 15))] []) (.cond (.t 13) .skip (.seq (.region false [ oM 16 (.bin .eql (.t 12) (.c (.d (.int .u8 61)))), oM 13 (.mv (.t 16))] []) (.cond (.t 13) .skip (.region false [ oM 17 (.bin .eql (.t 12) (.c (.d (.int .u8 33)))), oM 13 (.mv (.t 17))] []))))))) (.cond (.t 13) (.seq (.region false [ oM 18 (.mv (.t 0)), oM 19 (.mv (.t 0)), oM 20 (.nilck (.t 19)), oM 21 (.faddr (.t 20) 1), oM 22 (.load none (.t 21)), oM 23 (.bin .add (.t 22) (.c (.d (.int .i64 1)))), oM 24 (.callf 120 [(.t 18), (.t 23)]), oM 4 (.mv (.t 24))] []) (.seq (.region false [ oM 25 (.mv (.t 3)), oM 26 (.bin .eql (.t 25) (.c (.d (.int .u8 60)))), oM 27 (.mv (.t 26)), oG 28 (.mv (.t 4)) 27 true, oG 29 (.bin .eql (.t 28) (.c (.d (.int .u8 60)))) 27 true, oM 30 (.pick (.t 27) (.t 29) (.c (.d (.bool false)))), oM 31 (.mv (.t 30)), oG 32 (.mv (.t 3)) 31 false, oG 33 (.bin .eql (.t 32) (.c (.d (.int .u8 62)))) 31 false, oG 34 (.mv (.t 33)) 31 false, oG 35 (.mv (.t 4)) 34 true, oG 36 (.bin .eql (.t 35) (.c (.d (.int .u8 62)))) 34 true, oG 37 (.pick (.t 34) (.t 36) (.c (.d (.bool false)))) 31 false, oM 38 (.pick (.t 31) (.c (.d (.bool true))) (.t 37)), oM 39 (.mv (.t 38)), oG 40 (.mv (.t 3)) 39 false, oG 41 (.bin .eql (.t 40) (.c (.d (.int .u8 61)))) 39 false, oG 42 (.mv (.t 41)) 39 false, oG 43 (.mv (.t 3)) 42 false, oG 44 (.bin .eql (.t 43) (.c (.d (.int .u8 33)))) 42 false, oG 45 (.pick (.t 42) (.c (.d (.bool true))) (.t 44)) 39 false, oG 46 (.mv (.t 45)) 39 false, oG 47 (.mv (.t 4)) 46 true, oG 48 (.bin .eql (.t 47) (.c (.d (.int .u8 61)))) 46 true, oG 49 (.pick (.t 46) (.t 48) (.c (.d (.bool false)))) 39 false, oM 50 (.pick (.t 39) (.c (.d (.bool true))) (.t 49)), oM 5 (.mv (.t 50))] []) (.seq (.block 1 (.seq (.region false [ oM 52 (.mv (.t 5)), oM 51 (.mv (.t 52))] []) (.cond (.t 51) (.seq (.region true [ oM 53 (.mv (.t 0)), oM 54 (.nilck (.t 53)), oM 55 (.faddr (.t 54) 0), oM 56 (.load none (.t 55)), oM 57 (.mv (.t 0)), oM 58 (.nilck (.t 57)), oM 59 (.faddr (.t 58) 1), oM 60 (.load none (.t 59)), oM 61 (.mv (.t 0)), oM 62 (.nilck (.t 61)), oM 63 (.faddr (.t 62) 1), oM 64 (.load none (.t 63)), oM 65 (.bin .add (.t 64) (.c (.d (.int .i64 2)))), oM 66 (.slcs (.t 56) (some (.t 60)) (some (.t 65))), oM 2 (.mv (.t 66))] [0, 1, 2, 4, 0, 16, 32, 64, 0, 256, 512, 1024, 2048, 4232, 16383]) .ret) (.seq (.region false [ oM 68 (.mv (.t 3)), oM 69 (.bin .eql (.t 68) (.c (.d (.int .u8 62)))), oM 70 (.mv (.t 69)), oG 71 (.mv (.t 3)) 70 false, oG 72 (.bin .eql (.t 71) (.c (.d (.int .u8 33)))) 70 false, oM 73 (.pick (.t 70) (.c (.d (.bool true))) (.t 72)), oM 67 (.mv (.t 73))] []) (.cond (.t 67) (.seq (.region false [ oM 2 (.mv (.c (.d (.str []))))] []) .ret) .skip))))) (.seq (.region false [ oM 74 (.mv (.t 3)), oM 75 (.cvrune (.t 74)), oM 2 (.mv (.t 75))] []) .ret)))) .skip)))) (.seq (.seq (.region false [ oM 76 (.mv (.t 3)), oM 77 (.bin .neq (.t 76) (.c (.d (.int .u8 0)))), oM 78 (.mv (.t 77)), oG 79 (.mv (.t 3)) 78 true, oG 80 (.callf 140 [(.c (.d (.str [123, 125, 59, 58, 43, 45, 42, 38, 124, 94]))), (.t 79)]) 78 true, oG 81 (.bin .geq (.t 80) (.c (.d (.int .i64 0)))) 78 true, oM 82 (.pick (.t 78) (.t 81) (.c (.d (.bool false))))] []) (.cond (.t 82) (.seq (.region false [ oM 83 (.mv (.t 3)), oM 84 (.cvrune (.t 83)), oM 2 (.mv (.t 84))] []) .ret) .skip)) (.seq (.region false [ oM 2 (.mv (.c (.d (.str []))))] []) .ret)))))
theorem ac125_ok : Tryz.f125.body.bind (cCode Tryz.prog Tryz.f125.ntmps) = some ac125 := by kernel_rfl
-- 130 jacquard/jacquardref2.skip
def ac130L0 : ACode := (.seq (.seq (.region false [ oM 30 (.mv (.t 1)), oM 31 (.mv (.t 0)), oM 32 (.lens (.t 31)), oM 33 (.bin .lss (.t 30) (.t 32)), oM 34 (.mv (.t 33)), oG 35 (.mv (.t 0)) 34 true, oG 36 (.mv (.t 1)) 34 true, oG 37 (.idxs (.t 35) (.t 36)) 34 true, oG 38 (.bin .neq (.t 37) (.c (.d (.int .u8 10)))) 34 true, oM 39 (.pick (.t 34) (.t 38) (.c (.d (.bool false))))] []) (.cond (.t 39) .skip (.exit 3))) (.block 4 (.region false [ oM 40 (.mv (.t 1)), oM 41 (.bin .add (.t 40) (.c (.d (.int .i64 1)))), oM 1 (.mv (.t 41))] [])))
def ac130L1 : ACode := (.seq (.seq (.region false [ oM 6 (.mv (.t 1)), oM 7 (.mv (.t 0)), oM 8 (.lens (.t 7)), oM 9 (.bin .lss (.t 6) (.t 8))] []) (.cond (.t 9) .skip (.exit 0))) (.block 1 (.seq (.region false [ oM 10 (.mv (.t 0)), oM 11 (.mv (.t 1)), oM 12 (.idxs (.t 10) (.t 11)), oM 5 (.mv (.t 12))] []) (.block 2 (.seq (.region false [ oM 15 (.mv (.t 5)), oM 16 (.bin .eql (.t 15) (.c (.d (.int .u8 32)))), oM 17 (.mv (.t 16)), oG 18 (.mv (.t 5)) 17 false, oG 19 (.bin .eql (.t 18) (.c (.d (.int .u8 9)))) 17 false, oM 20 (.pick (.t 17) (.c (.d (.bool true))) (.t 19)), oM 21 (.mv (.t 20)), oG 22 (.mv (.t 5)) 21 false, oG 23 (.bin .eql (.t 22) (.c (.d (.int .u8 10)))) 21 false, oM 24 (.pick (.t 21) (.c (.d (.bool true))) (.t 23)), oM 14 (.mv (.t 24))] []) (.cond (.t 14) (.region false [ oM 25 (.mv (.t 1)), oM 26 (.bin .add (.t 25) (.c (.d (.int .i64 1)))), oM 1 (.mv (.t 26))] []) (.seq (.region false [ oM 28 (.mv (.t 5)), oM 29 (.bin .eql (.t 28) (.c (.d (.int .u8 35)))), oM 27 (.mv (.t 29))] []) (.cond (.t 27) (.block 3 (.loop ac130L0)) (.seq (.region false [ oM 13 (.mv (.t 1)), oM 4 (.mv (.t 13))] []) .ret)))))))))
def ac130 : ACode := (.seq (.region false [ oM 4 (.mv (.c (.d (.int .i64 0))))] []) (.seq (.block 0 (.loop ac130L1)) (.seq (.region false [ oM 42 (.mv (.t 1)), oM 4 (.mv (.t 42))] []) .ret)))
theorem ac130_ok : Tryz.f130.body.bind (cCode Tryz.prog Tryz.f130.ntmps) = some ac130 := by kernel_rfl
-- 131 slices.IndexFunc[[][]jacquard/api.Atom,[]jacquard/api.Atom]
-- 132 jacquard/well.letters$1
-- 133 jacquard/num.signs
def ac133 : ACode := (.seq (.region false [ oM 0 (.alloc [.d (.str []), .d (.str []), .d (.str []), .d (.str []), .d (.str []), .d (.str []), .d (.str []), .d (.str []), .d (.str []), .d (.str []), .d (.str []), .d (.str [])])] []) (.seq (.region false [ oM 1 (.build [.d (.str []), .d (.str []), .d (.str []), .d (.str []), .d (.str []), .d (.str []), .d (.str []), .d (.str []), .d (.str []), .d (.str []), .d (.str []), .d (.str [])] [(0, 1, (.c (.d (.str [])))), (1, 1, (.c (.d (.str [43])))), (2, 1, (.c (.d (.str [45])))), (3, 1, (.c (.d (.str [42])))), (4, 1, (.c (.d (.str [38])))), (5, 1, (.c (.d (.str [124])))), (6, 1, (.c (.d (.str [94])))), (7, 1, (.c (.d (.str [60, 60])))), (8, 1, (.c (.d (.str [62, 62])))), (9, 1, (.c (.d (.str [61, 61])))), (10, 1, (.c (.d (.str [33, 61])))), (11, 1, (.c (.d (.str [60]))))]), ⟨none, .store 12 (.t 0) (.t 1), none⟩] []) .ret))
theorem ac133_ok : Tryz.f133.body.bind (cCode Tryz.prog Tryz.f133.ntmps) = some ac133 := by kernel_rfl
-- 137 jacquard/print.isOperand
-- 138 jacquard/print.isReg
-- 141 jacquard/num.Op
def ac141L0 : ACode := (.seq (.region false [ oM 8 (.bin .lss (.t 7) (.c (.d (.int .i64 12))))] []) (.seq (.cond (.t 8) .skip (.exit 0)) (.seq (.block 1 (.seq (.region false [ oM 9 (.mv (.t 7)), oM 10 (.idxa 12 1 none (.t 6) (.t 7)), oM 4 (.mv (.t 9)), oM 5 (.mv (.t 10))] []) (.seq (.region false [ oM 11 (.mv (.t 4)), oM 12 (.bin .gtr (.t 11) (.c (.d (.int .i64 0)))), oM 13 (.mv (.t 12)), oG 14 (.mv (.t 5)) 13 true, oG 15 (.mv (.t 0)) 13 true, oG 16 (.bin .eql (.t 14) (.t 15)) 13 true, oM 17 (.pick (.t 13) (.t 16) (.c (.d (.bool false))))] []) (.cond (.t 17) (.seq (.region false [ oM 18 (.mv (.t 4)), oM 2 (.mv (.t 18)), oM 3 (.mv (.c (.d (.bool true))))] []) .ret) .skip)))) (.region false [ oM 19 (.bin .add (.t 7) (.c (.d (.int .i64 1)))), oM 7 (.mv (.t 19))] []))))
def ac141 : ACode := (.seq (.region false [ oM 2 (.mv (.c (.d (.int .i64 0)))), oM 3 (.mv (.c (.d (.bool false))))] []) (.seq (.seq (.region false [ oM 6 (.callf 133 []), oM 7 (.mv (.c (.d (.int .i64 0))))] []) (.block 0 (.loop ac141L0))) (.seq (.region false [ oM 2 (.mv (.c (.d (.int .i64 0)))), oM 3 (.mv (.c (.d (.bool false))))] []) .ret)))
theorem ac141_ok : Tryz.f141.body.bind (cCode Tryz.prog Tryz.f141.ntmps) = some ac141 := by kernel_rfl
end Go.Proofs.YtpfbljkfbjjlkaaGreatDoor

/-
  DERIVED: THE SHELF's CONTRACTS AT THIS DUMP, IN PLAIN WORDS (tools/lay-plain.mjs out of 'TryzShelfk.lean', which tools/lay-shelf.mjs wrote): THE SAME DECLARATIONS UNDER THE SAME NAMES: 'import', 'namespace', 'open', 'def', 'theorem' AND NOTHING ELSE: no command of the shelf's: FOR A HAND-IN. Each laying: the table of numbers ('.._ren') and one theorem, a field a fact of the dump's own or the kernel's comparison; each contract: ONE APPLICATION.
-/
namespace Go.Proofs
open Go.Shelf
def Tryz.lays137_ren : Go.Shelf.Ren := ⟨fun | 137 => 140 | 217 => 149 | 266 => 161 | n => n, fun | 9 => 9 | 5 => 5 | 3 => 3 | n => n, fun | n => n⟩
theorem Tryz.lays137 : Go.Proofs.Lays.n137 Tryz.prog Tryz.lays137_ren := {
  mixed := by kernel_rfl
  f137 := Tryz.func140.trans (congrArg some (by kernel_rfl))
  f217 := Tryz.func149.trans (congrArg some (by kernel_rfl))
  f266 := Tryz.func161.trans (congrArg some (by kernel_rfl))
  t3 := Tryz.underlying3
  a3 := Tryz.isAgg3
  z3 := Tryz.sizeOf3
  v3 := Tryz.zeroValue3
  t5 := Tryz.underlying5
  a5 := Tryz.isAgg5
  z5 := Tryz.sizeOf5
  v5 := Tryz.zeroValue5
  t9 := Tryz.underlying9
  a9 := Tryz.isAgg9
  z9 := Tryz.sizeOf9
  v9 := Tryz.zeroValue9 }
open Go.RowKit in
theorem Tryz.strings_IndexByte (s : ByteArray) (c : Int) (w : World) :
    Calls Tryz.prog 140 #[.string s, .int .u8 c] w fun e w' => e = .returned (.int .i64 (Lib.indexByte s.data.toList c.toNat.toUInt8)) ∧ w' = w := Any.strings_IndexByte Tryz.lays137 s c w
def Tryz.laysM173_ren : Go.Shelf.Ren := ⟨fun | 173 => 107 | 246 => 136 | 283 => 143 | 284 => 144 | 285 => 145 | 286 => 146 | 129 => 152 | 317 => 151 | 318 => 153 | 319 => 154 | 320 => 155 | 337 => 162 | 338 => 163 | n => n, fun | 2 => 2 | 3 => 3 | 9 => 9 | 4 => 4 | 171 => 155 | 0 => 0 | 53 => 109 | 37 => 32 | 5 => 5 | 173 => 158 | 212 => 163 | 51 => 164 | 20 => 20 | 213 => 165 | 46 => 58 | 232 => 179 | 233 => 180 | n => n, fun | 17 => 0 | 18 => 4 | 19 => 5 | n => n⟩
theorem Tryz.laysM173 : Go.Proofs.LaysM.n173 Tryz.prog Tryz.laysM173_ren := {
  mixed := by kernel_rfl
  f129 := Tryz.func152.trans (congrArg some (by kernel_rfl))
  f173 := Tryz.func107.trans (congrArg some (by kernel_rfl))
  f246 := Tryz.func136.trans (congrArg some (by kernel_rfl))
  f283 := Tryz.func143.trans (congrArg some (by kernel_rfl))
  f284 := Tryz.func144.trans (congrArg some (by kernel_rfl))
  f285 := Tryz.func145.trans (congrArg some (by kernel_rfl))
  f286 := Tryz.func146.trans (congrArg some (by kernel_rfl))
  f317 := Tryz.func151.trans (congrArg some (by kernel_rfl))
  f318 := Tryz.func153.trans (congrArg some (by kernel_rfl))
  f319 := Tryz.func154.trans (congrArg some (by kernel_rfl))
  f320 := Tryz.func155.trans (congrArg some (by kernel_rfl))
  f337 := Tryz.func162.trans (congrArg some (by kernel_rfl))
  f338 := Tryz.func163.trans (congrArg some (by kernel_rfl))
  t0 := Tryz.underlying0
  a0 := Tryz.isAgg0
  z0 := Tryz.sizeOf0
  v0 := Tryz.zeroValue0
  t2 := Tryz.underlying2
  a2 := Tryz.isAgg2
  z2 := Tryz.sizeOf2
  v2 := Tryz.zeroValue2
  t3 := Tryz.underlying3
  a3 := Tryz.isAgg3
  z3 := Tryz.sizeOf3
  v3 := Tryz.zeroValue3
  t4 := Tryz.underlying4
  a4 := Tryz.isAgg4
  z4 := Tryz.sizeOf4
  v4 := Tryz.zeroValue4
  t5 := Tryz.underlying5
  a5 := Tryz.isAgg5
  z5 := Tryz.sizeOf5
  v5 := Tryz.zeroValue5
  t9 := Tryz.underlying9
  a9 := Tryz.isAgg9
  z9 := Tryz.sizeOf9
  v9 := Tryz.zeroValue9
  t20 := Tryz.underlying20
  a20 := Tryz.isAgg20
  z20 := Tryz.sizeOf20
  v20 := Tryz.zeroValue20
  t37 := Tryz.underlying32
  a37 := Tryz.isAgg32
  z37 := Tryz.sizeOf32
  v37 := Tryz.zeroValue32
  t46 := Tryz.underlying58
  a46 := Tryz.isAgg58
  z46 := Tryz.sizeOf58
  v46 := Tryz.zeroValue58
  t51 := Tryz.underlying164
  a51 := Tryz.isAgg164
  z51 := Tryz.sizeOf164
  v51 := Tryz.zeroValue164
  t53 := Tryz.underlying109
  a53 := Tryz.isAgg109
  z53 := Tryz.sizeOf109
  v53 := Tryz.zeroValue109
  t171 := Tryz.underlying155
  a171 := Tryz.isAgg155
  z171 := Tryz.sizeOf155
  v171 := Tryz.zeroValue155
  t173 := Tryz.underlying158
  a173 := Tryz.isAgg158
  z173 := Tryz.sizeOf158
  v173 := Tryz.zeroValue158
  t212 := Tryz.underlying163
  a212 := Tryz.isAgg163
  z212 := Tryz.sizeOf163
  v212 := Tryz.zeroValue163
  t213 := Tryz.underlying165
  a213 := Tryz.isAgg165
  z213 := Tryz.sizeOf165
  t232 := Tryz.underlying179
  a232 := Tryz.isAgg179
  z232 := Tryz.sizeOf179
  v232 := Tryz.zeroValue179
  t233 := Tryz.underlying180
  a233 := Tryz.isAgg180
  z233 := Tryz.sizeOf180
  v233 := Tryz.zeroValue180
  g17 := by kernel_rfl
  g18 := by kernel_rfl
  g19 := by kernel_rfl
  i0 := by kernel_rfl
  i2 := by kernel_rfl
  i3 := by kernel_rfl
  i4 := by kernel_rfl
  i5 := by kernel_rfl
  i9 := by kernel_rfl
  i20 := by kernel_rfl
  i37 := by kernel_rfl
  i46 := by kernel_rfl
  i51 := by kernel_rfl
  i53 := by kernel_rfl
  i171 := by kernel_rfl
  i173 := by kernel_rfl
  i212 := by kernel_rfl
  i232 := by kernel_rfl
  i233 := by kernel_rfl
  m17 := by kernel_rfl
  m18 := by kernel_rfl
  m19 := by kernel_rfl }
open Go.RowKit Go.Sort Go.Lib in
theorem Tryz.strconv_FormatInt_10 (n : Int) (h0 : -9223372036854775808 ≤ n) (h1 : n ≤ 9223372036854775807) (w : World) (htab : Lib.TabIs Tryz.prog w "internal/strconv.uint64pow10" .u64 Lib.pow10Tab) :
    Calls Tryz.prog 107 #[.int .i64 n, .int .i64 10] w fun e w' => e = .returned (.string ⟨(Lib.itoa n).toArray⟩) ∧ ∃ k os, w' = grow (w.drewN k) os := Any.strconv_FormatInt_10 Tryz.laysM173 n h0 h1 w htab
open Go.RowKit Go.Sort Go.Lib in
def Tryz.laysC174_ren : Go.Shelf.Ren := ⟨fun | 174 => 139 | 247 => 147 | 245 => 148 | 287 => 156 | 279 => 157 | 280 => 158 | 281 => 159 | 282 => 160 | 321 => 164 | 322 => 165 | 316 => 166 | 171 => 168 | 205 => 167 | 243 => 169 | 246 => 136 | 283 => 143 | 284 => 144 | 285 => 145 | 286 => 146 | 129 => 152 | 317 => 151 | 318 => 153 | 319 => 154 | 320 => 155 | 337 => 162 | 338 => 163 | n => n, fun | 9 => 9 | 3 => 3 | 2 => 2 | 75 => 95 | 85 => 152 | 4 => 4 | 167 => 167 | 5 => 5 | 53 => 109 | 175 => 168 | 46 => 58 | 168 => 170 | 37 => 32 | 0 => 0 | 210 => 177 | 21 => 21 | 127 => 131 | 145 => 183 | 143 => 181 | 171 => 155 | 173 => 158 | 212 => 163 | 51 => 164 | 20 => 20 | 213 => 165 | 232 => 179 | 233 => 180 | 80 => 71 | n => n, fun | 15 => 2 | 16 => 3 | 17 => 0 | 18 => 4 | 19 => 5 | n => n⟩
theorem Tryz.laysC174 : Go.Proofs.LaysC.n174 Tryz.prog Tryz.laysC174_ren := {
  mixed := by kernel_rfl
  f129 := Tryz.func152.trans (congrArg some (by kernel_rfl))
  f171 := Tryz.func168.trans (congrArg some (by kernel_rfl))
  f174 := Tryz.func139.trans (congrArg some (by kernel_rfl))
  f205 := Tryz.func167.trans (congrArg some (by kernel_rfl))
  f243 := Tryz.func169.trans (congrArg some (by kernel_rfl))
  f245 := Tryz.func148.trans (congrArg some (by kernel_rfl))
  f246 := Tryz.func136.trans (congrArg some (by kernel_rfl))
  f247 := Tryz.func147.trans (congrArg some (by kernel_rfl))
  f279 := Tryz.func157.trans (congrArg some (by kernel_rfl))
  f280 := Tryz.func158.trans (congrArg some (by kernel_rfl))
  f281 := Tryz.func159.trans (congrArg some (by kernel_rfl))
  f282 := Tryz.func160.trans (congrArg some (by kernel_rfl))
  f283 := Tryz.func143.trans (congrArg some (by kernel_rfl))
  f284 := Tryz.func144.trans (congrArg some (by kernel_rfl))
  f285 := Tryz.func145.trans (congrArg some (by kernel_rfl))
  f286 := Tryz.func146.trans (congrArg some (by kernel_rfl))
  f287 := Tryz.func156.trans (congrArg some (by kernel_rfl))
  f316 := Tryz.func166.trans (congrArg some (by kernel_rfl))
  f317 := Tryz.func151.trans (congrArg some (by kernel_rfl))
  f318 := Tryz.func153.trans (congrArg some (by kernel_rfl))
  f319 := Tryz.func154.trans (congrArg some (by kernel_rfl))
  f320 := Tryz.func155.trans (congrArg some (by kernel_rfl))
  f321 := Tryz.func164.trans (congrArg some (by kernel_rfl))
  f322 := Tryz.func165.trans (congrArg some (by kernel_rfl))
  f337 := Tryz.func162.trans (congrArg some (by kernel_rfl))
  f338 := Tryz.func163.trans (congrArg some (by kernel_rfl))
  t0 := Tryz.underlying0
  a0 := Tryz.isAgg0
  z0 := Tryz.sizeOf0
  v0 := Tryz.zeroValue0
  t2 := Tryz.underlying2
  a2 := Tryz.isAgg2
  z2 := Tryz.sizeOf2
  v2 := Tryz.zeroValue2
  t3 := Tryz.underlying3
  a3 := Tryz.isAgg3
  z3 := Tryz.sizeOf3
  v3 := Tryz.zeroValue3
  t4 := Tryz.underlying4
  a4 := Tryz.isAgg4
  z4 := Tryz.sizeOf4
  v4 := Tryz.zeroValue4
  t5 := Tryz.underlying5
  a5 := Tryz.isAgg5
  z5 := Tryz.sizeOf5
  v5 := Tryz.zeroValue5
  t9 := Tryz.underlying9
  a9 := Tryz.isAgg9
  z9 := Tryz.sizeOf9
  v9 := Tryz.zeroValue9
  t20 := Tryz.underlying20
  a20 := Tryz.isAgg20
  z20 := Tryz.sizeOf20
  v20 := Tryz.zeroValue20
  t21 := Tryz.underlying21
  a21 := Tryz.isAgg21
  z21 := Tryz.sizeOf21
  v21 := Tryz.zeroValue21
  t37 := Tryz.underlying32
  a37 := Tryz.isAgg32
  z37 := Tryz.sizeOf32
  v37 := Tryz.zeroValue32
  t46 := Tryz.underlying58
  a46 := Tryz.isAgg58
  z46 := Tryz.sizeOf58
  v46 := Tryz.zeroValue58
  t51 := Tryz.underlying164
  a51 := Tryz.isAgg164
  z51 := Tryz.sizeOf164
  v51 := Tryz.zeroValue164
  t53 := Tryz.underlying109
  a53 := Tryz.isAgg109
  z53 := Tryz.sizeOf109
  v53 := Tryz.zeroValue109
  t75 := Tryz.underlying95
  a75 := Tryz.isAgg95
  z75 := Tryz.sizeOf95
  v75 := Tryz.zeroValue95
  t85 := Tryz.underlying152
  a85 := Tryz.isAgg152
  z85 := Tryz.sizeOf152
  v85 := Tryz.zeroValue152
  t127 := Tryz.underlying131
  a127 := Tryz.isAgg131
  z127 := Tryz.sizeOf131
  v127 := Tryz.zeroValue131
  t143 := Tryz.underlying181
  a143 := Tryz.isAgg181
  z143 := Tryz.sizeOf181
  v143 := Tryz.zeroValue181
  t145 := Tryz.underlying183
  a145 := Tryz.isAgg183
  z145 := Tryz.sizeOf183
  v145 := Tryz.zeroValue183
  t167 := Tryz.underlying167
  a167 := Tryz.isAgg167
  z167 := Tryz.sizeOf167
  v167 := Tryz.zeroValue167
  t168 := Tryz.underlying170
  a168 := Tryz.isAgg170
  z168 := Tryz.sizeOf170
  v168 := Tryz.zeroValue170
  t171 := Tryz.underlying155
  a171 := Tryz.isAgg155
  z171 := Tryz.sizeOf155
  v171 := Tryz.zeroValue155
  t173 := Tryz.underlying158
  a173 := Tryz.isAgg158
  z173 := Tryz.sizeOf158
  v173 := Tryz.zeroValue158
  t175 := Tryz.underlying168
  a175 := Tryz.isAgg168
  z175 := Tryz.sizeOf168
  v175 := Tryz.zeroValue168
  t210 := Tryz.underlying177
  a210 := Tryz.isAgg177
  z210 := Tryz.sizeOf177
  v210 := Tryz.zeroValue177
  t212 := Tryz.underlying163
  a212 := Tryz.isAgg163
  z212 := Tryz.sizeOf163
  v212 := Tryz.zeroValue163
  t213 := Tryz.underlying165
  a213 := Tryz.isAgg165
  z213 := Tryz.sizeOf165
  t232 := Tryz.underlying179
  a232 := Tryz.isAgg179
  z232 := Tryz.sizeOf179
  v232 := Tryz.zeroValue179
  t233 := Tryz.underlying180
  a233 := Tryz.isAgg180
  z233 := Tryz.sizeOf180
  v233 := Tryz.zeroValue180
  g15 := by kernel_rfl
  g16 := by kernel_rfl
  g17 := by kernel_rfl
  g18 := by kernel_rfl
  g19 := by kernel_rfl
  t80 := Tryz.underlying71
  a80 := Tryz.isAgg71
  z80 := Tryz.sizeOf71
  v80 := Tryz.zeroValue71
  i0 := by kernel_rfl
  i2 := by kernel_rfl
  i3 := by kernel_rfl
  i4 := by kernel_rfl
  i5 := by kernel_rfl
  i9 := by kernel_rfl
  i20 := by kernel_rfl
  i21 := by kernel_rfl
  i37 := by kernel_rfl
  i46 := by kernel_rfl
  i51 := by kernel_rfl
  i53 := by kernel_rfl
  i75 := by kernel_rfl
  i80 := by kernel_rfl
  i85 := by kernel_rfl
  i127 := by kernel_rfl
  i143 := by kernel_rfl
  i145 := by kernel_rfl
  i167 := by kernel_rfl
  i168 := by kernel_rfl
  i171 := by kernel_rfl
  i173 := by kernel_rfl
  i175 := by kernel_rfl
  i210 := by kernel_rfl
  i212 := by kernel_rfl
  i232 := by kernel_rfl
  i233 := by kernel_rfl
  m15 := by kernel_rfl
  m16 := by kernel_rfl
  m17 := by kernel_rfl
  m18 := by kernel_rfl
  m19 := by kernel_rfl
  c0 := by kernel_rfl
  c2 := by kernel_rfl
  c3 := by kernel_rfl
  c4 := by kernel_rfl
  c5 := by kernel_rfl
  c9 := by kernel_rfl
  c20 := by kernel_rfl
  c21 := by kernel_rfl
  c37 := by kernel_rfl
  c46 := by kernel_rfl
  c51 := by kernel_rfl
  c53 := by kernel_rfl
  c75 := by kernel_rfl
  c80 := by kernel_rfl
  c85 := by kernel_rfl
  c127 := by kernel_rfl
  c143 := by kernel_rfl
  c145 := by kernel_rfl
  c167 := by kernel_rfl
  c168 := by kernel_rfl
  c171 := by kernel_rfl
  c173 := by kernel_rfl
  c175 := by kernel_rfl
  c210 := by kernel_rfl
  c212 := by kernel_rfl
  c213 := by kernel_rfl
  c232 := by kernel_rfl
  c233 := by kernel_rfl }
end Go.Proofs

/- Numbers' texts, told without a heap: what the shelf's contracts say, in the layer's words. -/
namespace Go.Proofs.YtpfbljkfbjjlkaaGreatDoor
open Go Go.Jq
set_option maxRecDepth 100000
set_option linter.unusedSimpArgs false
theorem gTab : Tryz.prog.globalNamed "internal/strconv.uint64pow10" = some 0 := by kernel_rfl
theorem tabIs {c : Ctx} {m : Mem} {w : World} (h : MR c m w) : Lib.TabIs Tryz.prog w "internal/strconv.uint64pow10" .u64 Lib.pow10Tab := by
  obtain ⟨_, cs, T, f, h1, hcs⟩ := h.tab 0 _ rfl
  have hcs' : cs = (Lib.pow10Tab.map fun z => Value.int .u64 z).toArray := hcs
  unfold Lib.TabIs World.var?
  rw [gTab]
  simp only [Option.bind_some, h1, hcs']
def I64 (n : Int) : Prop := -9223372036854775808 ≤ n ∧ n ≤ 9223372036854775807
theorem nDigits_le : ∀ (k u : Nat), u < 10 ^ (k + 1) → Lib.nDigits u ≤ k + 1
  | 0, u, h => by rw [Lib.nDigits_small (by simpa using h)]; omega
  | k + 1, u, h => by
    by_cases hu : u < 10
    · rw [Lib.nDigits_small hu]; omega
    · rw [Lib.nDigits_big hu]
      have := nDigits_le k (u / 10) (by rw [Nat.pow_succ] at h; omega)
      omega
theorem itoa_len {n : Int} (h : I64 n) : (Lib.itoa n).length ≤ 20 := by
  obtain ⟨h0, h1⟩ := h
  unfold Lib.itoa
  split
  · have := nDigits_le 18 n.natAbs (by simp; omega)
    rw [List.length_cons, Lib.decDigits_length]; omega
  · have := nDigits_le 18 n.toNat (by simp; omega)
    rw [Lib.decDigits_length]; omega
end Go.Proofs.YtpfbljkfbjjlkaaGreatDoor

/- The abstract layer: from a row to data. -/
namespace Go.Jq
open Go
inductive Sh where
  | int (k : IntKind)
  | bool
  | str
  | sl (es : List Sh)
mutual
def Fits : Sh → DV → Prop
  | .int k, d => ∃ n, d = .int k n ∧ (Lit.int k n).wf = true
  | .bool, d => ∃ b, d = .bool b
  | .str, d => ∃ s : List UInt8, d = .str s ∧ s.length ≤ maxLen
  | .sl es, d => d = .nsl ∨ ∃ rows : List (List DV), d = .sl rows.length rows.flatten ∧ rows.length ≤ maxLen ∧ ∀ r ∈ rows, FitsL es r
def FitsL : List Sh → List DV → Prop
  | [], ds => ds = []
  | s :: ss, ds => ∃ d r, ds = d :: r ∧ Fits s d ∧ FitsL ss r
end
theorem FitsL.length : ∀ {ss : List Sh} {ds : List DV}, FitsL ss ds → ds.length = ss.length
  | [], _, h => by simp only [FitsL] at h; subst h; rfl
  | s :: ss, _, h => by
    simp only [FitsL] at h
    obtain ⟨d, r, rfl, _, h⟩ := h
    simp [FitsL.length h]
theorem FitsL.append : ∀ {ss ss' : List Sh} {ds ds' : List DV}, FitsL ss ds → FitsL ss' ds' → FitsL (ss ++ ss') (ds ++ ds')
  | [], _, _, _, h, h' => by simp only [FitsL] at h; subst h; simpa using h'
  | s :: ss, _, _, _, h, h' => by
    simp only [FitsL] at h
    obtain ⟨d, r, rfl, hd, h⟩ := h
    simp only [List.cons_append, FitsL]
    exact ⟨d, _, rfl, hd, FitsL.append h h'⟩
def shFs (P : Program) (f : TypeId → Option (List Sh)) : List Field → Nat → Option (List Sh)
  | [], _ => some []
  | fd :: r, acc => match f fd.type with
    | some s => if fd.offset = acc ∧ P.cellsOf fd.type = s.length then (shFs P f r (acc + s.length)).map (s ++ ·) else none
    | none => none
def shOf (P : Program) : Nat → TypeId → Option (List Sh)
  | 0, _ => none
  | k + 1, t => match P.underlying t with
    | some .bool => some [.bool]
    | some (.int q) => some [.int q]
    | some .string => some [.str]
    | some (.slice e) => match shOf P k e with
      | some es => if es.length = P.cellsOf e ∧ es.length ≠ 0 then some [.sl es] else none
      | none => none
    | some (.struct fs) => match shFs P (shOf P k) fs.toList 0 with
      | some ss => if ss.length = P.cellsOf t then some ss else none
      | none => none
    | some (.array n e) => match shOf P k e with
      | some es => if es.length = P.cellsOf e ∧ n * es.length = P.cellsOf t then some (List.replicate n es).flatten else none
      | none => none
    | _ => none
def RelDL (I : Nat → Prop) (w : World) : List DV → List Value → Prop
  | [], vs => vs = []
  | d :: ds, vs => ∃ v r, vs = v :: r ∧ RelD I w d v ∧ RelDL I w ds r
section
variable {I : Nat → Prop} {w : World}
theorem RelDL.append : ∀ {ds ds' : List DV} {vs vs' : List Value}, RelDL I w ds vs → RelDL I w ds' vs' → RelDL I w (ds ++ ds') (vs ++ vs')
  | [], _, _, _, h, h' => by simp only [RelDL] at h; subst h; simpa using h'
  | d :: ds, _, _, _, h, h' => by
    simp only [RelDL] at h
    obtain ⟨v, r, rfl, hd, h⟩ := h
    simp only [List.cons_append, RelDL]
    exact ⟨v, _, rfl, hd, RelDL.append h h'⟩
theorem RelDL.get : ∀ {ds : List DV} {vs : List Value}, RelDL I w ds vs → ∀ (i : Nat) (d : DV), ds[i]? = some d → ∃ v, vs[i]? = some v ∧ RelD I w d v
  | [], _, _, i, d, h => by simp at h
  | x :: ds, _, h, i, d, hi => by
    simp only [RelDL] at h
    obtain ⟨v, r, rfl, hd, h⟩ := h
    cases i with
    | zero => simp at hi; subst hi; exact ⟨v, rfl, hd⟩
    | succ i => simpa using RelDL.get h i d (by simpa using hi)
theorem RelDs.append : ∀ {xs ys : List DV} {b o : Nat}, RelDs I w xs b o → RelDs I w ys b (o + xs.length) → RelDs I w (xs ++ ys) b o
  | [], ys, b, o, _, h => by simpa using h
  | x :: xs, ys, b, o, h, h' => by
    simp only [List.cons_append, RelDs] at h ⊢
    refine ⟨h.1, RelDs.append h.2 ?_⟩
    rw [List.length_cons] at h'
    rw [show o + 1 + xs.length = o + (xs.length + 1) by omega]
    exact h'
theorem RelDs.flatten {k b o : Nat} : ∀ {rows : List (List DV)} {i0 : Nat}, (∀ r ∈ rows, r.length = k) → (∀ (i : Nat) (r : List DV), rows[i]? = some r → RelDs I w r b (o + (i0 + i) * k)) → RelDs I w rows.flatten b (o + i0 * k)
  | [], _, _, _ => by simp [RelDs]
  | r :: rows, i0, hk, h => by
    rw [List.flatten_cons]
    refine RelDs.append (by simpa using h 0 r rfl) ?_
    have := RelDs.flatten (k := k) (b := b) (o := o) (rows := rows) (i0 := i0 + 1) (fun r hr => hk r (List.mem_cons_of_mem _ hr)) fun i r' hi => by
      have := h (i + 1) r' (by simpa using hi)
      rwa [show i0 + 1 + i = i0 + (i + 1) by omega]
    rw [hk r List.mem_cons_self]
    rwa [Nat.succ_mul, ← Nat.add_assoc] at this
theorem list_of {α : Type} {p : Nat → α → Prop} : ∀ (n : Nat), (∀ i, i < n → ∃ y, p i y) → ∃ l : List α, l.length = n ∧ ∀ i y, l[i]? = some y → p i y
  | 0, _ => ⟨[], rfl, fun i y h => by simp at h⟩
  | n + 1, h => by
    obtain ⟨l, hl, hp⟩ := list_of n fun i hi => h i (by omega)
    obtain ⟨y, hy⟩ := h n (by omega)
    refine ⟨l ++ [y], by simp [hl], fun i z hz => ?_⟩
    rcases Nat.lt_or_ge i n with h1 | h1
    · rw [List.getElem?_append_left (by omega)] at hz; exact hp i z hz
    · rw [List.getElem?_append_right (by omega)] at hz
      have h2 : i - l.length = 0 := by
        rcases Nat.eq_zero_or_pos (i - l.length) with h3 | h3
        · exact h3
        · rw [List.getElem?_eq_none (by simp; omega)] at hz; cases hz
      rw [h2] at hz
      simp at hz
      subst hz
      have : i = n := by omega
      subst this
      exact hy
end
end Go.Jq
namespace Go.Jq
open Go
section
variable {H : Type} {enc : TypeId × Value → H} {P : Program} {w : World} {base : Nat} {spare : Nat → Bool} {held : Bool} {I : Nat → Prop} (hI : ∀ b, b < w.heap.size → I b)
theorem cells_get {a : Addr} {n : Nat} {cs : List Value} (h : w.cells? base a n = some cs) : cs.length = n ∧ ∀ i, i < n → w.cell? (a.add i) = cs[i]? := by
  unfold World.cells? at h
  split at h
  · exact ⟨by simpa using mapM_some_length h, fun i hi => mapM_some_get h i i (by simp [hi])⟩
  · cases h
theorem cell_lt {a : Addr} {v : Value} (h : w.cell? a = some v) : a.block < w.heap.size ∧ a.spot = none := by
  unfold World.cell? at h
  split at h
  · rename_i c T f hb
    refine ⟨?_, ?_⟩
    · rcases Nat.lt_or_ge a.block w.heap.size with h1 | h1
      · exact h1
      · rw [Array.getElem?_eq_none h1] at hb; cases hb
    · split at h
      · cases h
      · rename_i hs; simpa using hs
  · cases h
theorem shFs_trod {f : TypeId → Option (List Sh)} {g : TypeId → List Value → Option (DataW H × List MemPlace)} (hfg : ∀ t ss cs x, f t = some ss → g t cs = some x → ∃ ds, FitsL ss ds ∧ RelDL I w ds cs) (cs : List Value) :
    ∀ (fs : List Field) (acc : Nat) (ss : List Sh), shFs P f fs acc = some ss → acc + ss.length = cs.length → (∀ fd ∈ fs, ∃ x, g fd.type ((cs.drop fd.offset).take (P.cellsOf fd.type)) = some x) → ∃ ds, FitsL ss ds ∧ RelDL I w ds (cs.drop acc)
  | [], acc, ss, h, hl, _ => by
    simp only [shFs, Option.some.injEq] at h
    subst h
    exact ⟨[], rfl, by simp only [RelDL]; exact List.drop_eq_nil_of_le (by simpa using Nat.le_of_eq hl.symm)⟩
  | fd :: fs, acc, ss, h, hl, hx => by
    simp only [shFs] at h
    split at h
    · rename_i s hs
      split at h
      · rename_i hc
        rw [Option.map_eq_some_iff] at h
        obtain ⟨r, hr, rfl⟩ := h
        obtain ⟨x, hx1⟩ := hx fd List.mem_cons_self
        obtain ⟨ds, h1, h2⟩ := hfg _ _ _ _ hs hx1
        obtain ⟨ds', h3, h4⟩ := shFs_trod hfg cs fs (acc + s.length) r hr (by simp at hl; omega) fun fd' h => hx fd' (List.mem_cons_of_mem _ h)
        refine ⟨ds ++ ds', h1.append h3, ?_⟩
        have h5 := h2.append h4
        rw [hc.1, hc.2, ← List.drop_drop, List.take_append_drop] at h5
        exact h5
      · cases h
    · cases h
include hI in
theorem trod_rel : ∀ (k : Nat) (t : TypeId) (ss : List Sh) (fuel : Nat) (cs : List Value) (x : DataW H × List MemPlace), shOf P k t = some ss → DataW.trod enc P w base spare held fuel t cs = some x → ∃ ds, FitsL ss ds ∧ RelDL I w ds cs
  | 0, _, _, _, _, _, h, _ => by simp [shOf] at h
  | k + 1, t, ss, fuel, cs, x, h, hx => by
    simp only [shOf] at h
    split at h
    · rename_i hu
      cases h
      obtain ⟨b, rfl, _⟩ := DataW.trod_bool hu hx
      exact ⟨[.bool b], by simp only [FitsL, Fits]; exact ⟨_, _, rfl, ⟨b, rfl⟩, rfl⟩, by simp [RelDL, RelD]⟩
    · rename_i q hu
      cases h
      obtain ⟨n, rfl, _, hw⟩ := DataW.trod_int hu hx
      exact ⟨[.int q n], by simp only [FitsL, Fits]; exact ⟨_, _, rfl, ⟨n, rfl, hw⟩, rfl⟩, by simp [RelDL, RelD]⟩
    · rename_i hu
      cases h
      obtain ⟨s, rfl, _, hw⟩ := DataW.trod_string hu hx
      exact ⟨[.str s.data.toList], by simp only [FitsL, Fits]; exact ⟨_, _, rfl, ⟨_, rfl, by simpa using hw⟩, rfl⟩, by simp [RelDL, RelD]⟩
    · rename_i e hu
      split at h
      · rename_i es hes
        split at h
        · rename_i hc
          cases h
          obtain ⟨hlen, hne⟩ := hc
          rcases DataW.trod_slice hu hx with ⟨rfl, _⟩ | ⟨a, len, cap, elems, rest, n, _, rfl, _, hb, hl, hm, hel, hcell, _⟩
          · exact ⟨[.nsl], by simp only [FitsL, Fits]; exact ⟨_, _, rfl, .inl rfl, rfl⟩, by simp [RelDL, RelD]⟩
          · have each : ∀ i, i < len → ∃ r : List DV, ∃ csi, w.cells? base (a.add (i * P.cellsOf e)) (P.cellsOf e) = some csi ∧ FitsL es r ∧ RelDL I w r csi := by
              intro i hi
              have h1 := hcell i hi
              rw [List.getElem?_eq_getElem (by omega), Option.bind_eq_some_iff] at h1
              obtain ⟨csi, h2, h3⟩ := h1
              obtain ⟨r, h4, h5⟩ := trod_rel k e es n csi _ hes h3
              exact ⟨r, csi, h2, h4, h5⟩
            obtain ⟨rows, hrl, hrows⟩ := list_of len each
            have hfit : ∀ r ∈ rows, FitsL es r := fun r hr => by
              obtain ⟨i, hi⟩ := List.mem_iff_getElem?.1 hr
              obtain ⟨_, _, h2, _⟩ := hrows i r hi
              exact h2
            refine ⟨[.sl rows.length rows.flatten], by simp only [FitsL, Fits]; exact ⟨_, _, rfl, .inr ⟨rows, rfl, by omega, hfit⟩, rfl⟩, ?_⟩
            simp only [RelDL, RelD]
            refine ⟨_, _, rfl, ⟨some a, cap, by rw [hrl], by omega, ?_⟩, rfl⟩
            rcases Nat.eq_zero_or_pos len with h0 | h0
            · have : rows = [] := List.eq_nil_of_length_eq_zero (by omega)
              subst this
              exact .inl ⟨rfl, rfl⟩
            · right
              have hr0 : rows[0]? = some rows[0] := List.getElem?_eq_getElem (by omega)
              obtain ⟨cs0, h1, h2, h3⟩ := hrows 0 _ hr0
              obtain ⟨hl0, hg0⟩ := cells_get h1
              have hpos : 0 < P.cellsOf e := by omega
              have hc0 : ∃ v, w.cell? a = some v := by
                have := hg0 0 hpos
                rw [List.getElem?_eq_getElem (by omega)] at this
                have e1 : (a.add (0 * P.cellsOf e)).add 0 = a := by simp [Addr.add]
                rw [e1] at this
                exact ⟨_, this⟩
              obtain ⟨v, hv⟩ := hc0
              obtain ⟨hlt, hsp⟩ := cell_lt hv
              obtain ⟨ab, ao, asp⟩ := a
              simp only at hlt hsp
              subst hsp
              refine ⟨ab, ao, rfl, hI ab hlt, ?_⟩
              have := RelDs.flatten (I := I) (w := w) (k := es.length) (b := ab) (o := ao) (rows := rows) (i0 := 0) (fun r hr => (hfit r hr).length) fun i r hi => by
                obtain ⟨csi, h4, h5, h6⟩ := hrows i r hi
                obtain ⟨_, hg⟩ := cells_get h4
                refine RelDs.of_get fun j d hj => ?_
                obtain ⟨v, hv, hr⟩ := h6.get j d hj
                have hjl : j < P.cellsOf e := by
                  have := (List.getElem?_eq_some_iff.1 hj).1
                  rw [h5.length] at this
                  omega
                refine ⟨v, ?_, hr⟩
                have := hg j hjl
                rw [hv, addr_add, addr_add] at this
                rw [Nat.zero_add, hlen]
                exact this
              simpa using this
        · cases h
      · cases h
    · rename_i fs hu
      split at h
      · rename_i ss' hss
        split at h
        · rename_i hc
          cases h
          obtain ⟨xs, n, _, _, hcl, hxl, hget⟩ := DataW.trod_struct hu hx
          have := shFs_trod (P := P) (I := I) (w := w) (f := shOf P k) (g := fun t cs => DataW.trod enc P w base spare held n t cs) (fun t ss cs x h1 h2 => trod_rel k t ss n cs x h1 h2) cs fs.toList 0 ss hss (by omega) fun fd hfd => by
            obtain ⟨i, hi⟩ := List.mem_iff_getElem?.1 hfd
            rw [Array.getElem?_toList] at hi
            have h1 := hget i fd hi
            have h2 : i < fs.size := (Array.getElem?_eq_some_iff.1 hi).1
            rw [List.getElem?_eq_getElem (by omega)] at h1
            exact ⟨_, h1⟩
          simpa using this
        · cases h
      · cases h
    · rename_i n e hu
      split at h
      · rename_i es hes
        split at h
        · rename_i hc
          cases h
          obtain ⟨xs, m, _, _, hcl, hxl, hget⟩ := DataW.trod_array hu hx
          have key : ∀ q, q ≤ n → ∃ ds, FitsL (List.replicate q es).flatten ds ∧ RelDL I w ds (cs.take (q * es.length)) := by
            intro q
            induction q with
            | zero => intro _; exact ⟨[], by simp [FitsL], by simp [RelDL]⟩
            | succ q ih =>
              intro hq
              obtain ⟨ds, h1, h2⟩ := ih (by omega)
              have h3 := hget q (by omega)
              rw [List.getElem?_eq_getElem (by omega)] at h3
              obtain ⟨ds', h4, h5⟩ := trod_rel k e es m _ _ hes h3
              refine ⟨ds ++ ds', ?_, ?_⟩
              · rw [List.replicate_succ', List.flatten_append]
                simpa using h1.append h4
              · have := h2.append h5
                rw [← hc.1] at this
                rw [Nat.succ_mul, List.take_add]
                exact this
          obtain ⟨ds, h1, h2⟩ := key n (Nat.le_refl _)
          exact ⟨ds, h1, by rwa [List.take_of_length_le (by omega)] at h2⟩
        · cases h
      · cases h
    · cases h
end
end Go.Jq
namespace Go.Jq
open Go Go.RowKit Go.ChangeAt Go.ChangeShapes Go.WideShapes
def ctx0 (w : World) : Ctx := ⟨fun _ => .free, fun b => b < w.heap.size⟩
theorem calls_of_pure {P : Program} {f : Nat} {args : List AV} (h : Pure P f args (.d (.bool true))) {w : World} {vs : List Value} (hr : RelL (ctx0 w) w args vs)
    (htab : ∀ g Φ, tabC g = some Φ → ∃ cs T f, w.heap[g]? = some (.cells cs T f) ∧ Φ cs := by intro g Φ h; simp [tabC] at h) :
    Calls P f vs.toArray w fun e w' => e = .returned (.bool true) ∧ Below w.heap.size w w' := by
  have hM : MR (ctx0 w) [] w := ⟨fun id cells h => by simp [mget] at h, fun id id' b h => by simp [mget] at h, fun b hb => hb, fun g Φ hg => by
    obtain ⟨cs, T, f, h1, h2⟩ := htab g Φ hg
    exact ⟨(Array.getElem?_eq_some_iff.1 h1).1, cs, T, f, h1, h2⟩⟩
  refine (h (ctx0 w) w vs hr hM fun id _ => rfl).mono ?_
  rintro e w' ⟨v, r, m', c', rfl, ⟨rfl, rfl⟩, hrel, _, hs, _⟩
  simp only [Rel, RelD] at hrel
  subst hrel
  exact ⟨rfl, hs.os, hs.tape, hs.output, hs.size, fun b hb => hs.keep b hb fun ⟨id, h1, _⟩ => by simp [mget] at h1⟩
section
variable {H : Type} {enc : TypeId × Value → H} {P : Program} {w : World} {base : Nat} {spare : Nat → Bool} {held : Bool} {t : TypeId} {v : Value} {d : DataW H} {p : List MemPlace}
theorem arg_one {k : Nat} {s : Sh} (hs : shOf P k t = some [s]) (hv : v.cells = #[v]) (h : DataW.Trod enc P w base spare held t v d p) : ∃ x, Fits s x ∧ Rel (ctx0 w) w (.d x) v := by
  obtain ⟨fuel, hf⟩ := h
  obtain ⟨ds, h1, h2⟩ := trod_rel (I := (ctx0 w).imm) (fun b hb => hb) k t [s] fuel _ _ hs hf
  simp only [FitsL] at h1
  obtain ⟨x, r, rfl, h3, rfl⟩ := h1
  rw [hv] at h2
  simp only [RelDL, List.cons.injEq] at h2
  obtain ⟨u, r, ⟨h4, _⟩, h5, _⟩ := h2
  subst h4
  exact ⟨x, h3, by simp only [Rel]; exact h5⟩
end
theorem fits_sl_ints {d : DV} (h : Fits (.sl [.int .i64]) d) : ∃ l : List Int, IsInts l d := by
  simp only [Fits] at h
  rcases h with rfl | ⟨rows, rfl, hm, hr⟩
  · exact ⟨[], by simp, .inl ⟨rfl, rfl⟩⟩
  · have : ∀ rows : List (List DV), (∀ r ∈ rows, FitsL [.int .i64] r) → ∃ l : List Int, l.length = rows.length ∧ rows.flatten = l.map (.int .i64) := by
      intro rows
      induction rows with
      | nil => intro _; exact ⟨[], rfl, rfl⟩
      | cons r rows ih =>
        intro h
        obtain ⟨l, h1, h2⟩ := ih fun r hr => h r (List.mem_cons_of_mem _ hr)
        have h3 := h r List.mem_cons_self
        simp only [FitsL, Fits] at h3
        obtain ⟨d, r', rfl, ⟨n, rfl, _⟩, rfl⟩ := h3
        exact ⟨n :: l, by simp [h1], by simp [h2]⟩
    obtain ⟨l, h1, h2⟩ := this rows hr
    refine ⟨l, ?_, .inr ?_⟩
    · have : maxLen = 9223372036854775807 := rfl
      simp; omega
    · simp [h1, h2]
end Go.Jq
namespace Go.Jq
open Go
theorem fits_int {k : IntKind} {d : DV} (h : Fits (.int k) d) : ∃ n, d = .int k n ∧ (Lit.int k n).wf = true := by
  simpa only [Fits] using h
def i64R (n : Int) : Prop := -9223372036854775808 ≤ n ∧ n ≤ 9223372036854775807
theorem wf_i64 {n : Int} (h : (Lit.int .i64 n).wf = true) : i64R n := by
  have e1 : IntKind.i64.min = -9223372036854775808 := rfl
  have e2 : IntKind.i64.max = 9223372036854775807 := rfl
  simp only [Lit.wf, e1, e2, Bool.and_eq_true, decide_eq_true_eq] at h
  exact h
end Go.Jq
namespace Go.Jq
open Go Go.ChangeShapes
theorem wf_u8 {n : Int} (h : (Lit.int .u8 n).wf = true) : 0 ≤ n ∧ n ≤ 255 := by
  have e1 : IntKind.u8.min = 0 := rfl
  have e2 : IntKind.u8.max = 255 := rfl
  simp only [Lit.wf, e1, e2, Bool.and_eq_true, decide_eq_true_eq] at h
  exact h
section
variable {H : Type} {enc : TypeId × Value → H} {P : Program} {w : World} {base : Nat} {spare : Nat → Bool} {held : Bool}
theorem trodAll_5 {t0 t1 t2 t3 t4 : TypeId} {args : Array Value} {ds : List (DataW H)} {ps : List MemPlace} (h : DataW.TrodAll enc P w base spare held [t0, t1, t2, t3, t4] args.toList ds ps) :
    ∃ v0 v1 v2 v3 v4 d0 d1 d2 d3 d4 p0 p1 p2 p3 p4, args = #[v0, v1, v2, v3, v4] ∧ ds = [d0, d1, d2, d3, d4] ∧ ps = p0 ++ p1 ++ p2 ++ p3 ++ p4 ∧ DataW.Trod enc P w base spare held t0 v0 d0 p0 ∧ DataW.Trod enc P w base spare held t1 v1 d1 p1 ∧
      DataW.Trod enc P w base spare held t2 v2 d2 p2 ∧ DataW.Trod enc P w base spare held t3 v3 d3 p3 ∧ DataW.Trod enc P w base spare held t4 v4 d4 p4 := by
  obtain ⟨v0, a0, d0, b0, p0, q0, ha, rfl, rfl, h0, h⟩ := trodAll_cons h
  obtain ⟨v1, a1, d1, b1, p1, q1, rfl, rfl, rfl, h1, h⟩ := trodAll_cons h
  obtain ⟨v2, a2, d2, b2, p2, q2, rfl, rfl, rfl, h2, h⟩ := trodAll_cons h
  obtain ⟨v3, a3, d3, b3, p3, q3, rfl, rfl, rfl, h3, h⟩ := trodAll_cons h
  obtain ⟨v4, a4, d4, b4, p4, q4, rfl, rfl, rfl, h4, h⟩ := trodAll_cons h
  obtain ⟨rfl, rfl, rfl⟩ := trodAll_nil h
  exact ⟨v0, v1, v2, v3, v4, d0, d1, d2, d3, d4, p0, p1, p2, p3, p4, by cases args; simp_all, rfl, by simp, h0, h1, h2, h3, h4⟩
end
end Go.Jq

/- What the listed tables give the calls. -/
namespace Go.Proofs.YtpfbljkfbjjlkaaGreatDoor
open Go Go.Jq Go.ChangeShapes Go.WideShapes Go.ChangeAt Go.RowKit
set_option linter.unusedVariables false
theorem own : ownKnob Tryz.prog.godebug = none := by kernel_rfl
theorem laidOut : laidOutB Tryz.prog = true := by kernel_rfl
def laidL : List (String × DataW Unit) := [("math/bits.deBruijn32tab", Rows.laid_math_bits_deBruijn32tab), ("math/bits.deBruijn64tab", Rows.laid_math_bits_deBruijn64tab), ("internal/strconv.uint64pow10", Rows.laid_internal_strconv_uint64pow10), ("strconv.ErrRange", Rows.laid_strconv_ErrRange), ("strconv.ErrSyntax", Rows.laid_strconv_ErrSyntax)]
theorem door_met (os : Os) (args : Array Value) : laidMetH Tryz.prog laidL ((World.doorLaid Tryz.prog 400 os).forCall (fun _ _ => 0) ⟨#[], args, []⟩).memory :=
  laidMetH_of_parts3 (fuel := 8) (laidMet_of_run' 8 (by kernel_rfl) (by kernel_rfl)) (by kernel_rfl) (by kernel_rfl)
theorem err_iface : ∃ ms, Tryz.prog.underlying 95 = some (.interface ms) := by
  have h : (match Tryz.prog.underlying 95 with | some (.interface _) => true | _ => false) = true := by kernel_rfl
  split at h
  · rename_i ms hms
    exact ⟨ms, hms⟩
  · cases h
set_option maxRecDepth 100000 in
theorem tab_of_laid {W : World} (h : laidMetH Tryz.prog laidL W) : ∀ g Φ, tabC g = some Φ → ∃ cs T f, W.heap[g]? = some (.cells cs T f) ∧ Φ cs := by
  rw [MakeChecks.laidMetH_plain _ _ _ (by kernel_rfl)] at h
  obtain ⟨ps, ⟨g0, t0, cs0, f0, p0, q0, hg0, ht0, hv0, hd0, ⟨g1, t1, cs1, f1, p1, q1, hg1, ht1, hv1, hd1, ⟨g2, t2, cs2, f2, p2, q2, hg2, ht2, hv2, hd2, ⟨g3, t3, cs3, f3, p3, q3, hg3, ht3, hv3, hd3, ⟨g4, t4, cs4, f4, p4, q4, hg4, ht4, hv4, hd4, _, _⟩, _⟩, _⟩, _⟩, _⟩, _, _⟩ := h
  obtain rfl := Option.some.inj (gTab.symm.trans hg2)
  have gR : Tryz.prog.globalNamed "strconv.ErrRange" = some 3 := by kernel_rfl
  have gS : Tryz.prog.globalNamed "strconv.ErrSyntax" = some 2 := by kernel_rfl
  obtain rfl := Option.some.inj (gR.symm.trans hg3)
  obtain rfl := Option.some.inj (gS.symm.trans hg4)
  have hty : (Tryz.prog.globals[0]?).map (·.type) = some 163 := by kernel_rfl
  have ty1 : (Tryz.prog.globals[2]?).map (·.type) = some 95 := by kernel_rfl
  have ty2 : (Tryz.prog.globals[3]?).map (·.type) = some 95 := by kernel_rfl
  obtain rfl := Option.some.inj (hty.symm.trans ht2)
  obtain rfl := Option.some.inj (ty2.symm.trans ht3)
  obtain rfl := Option.some.inj (ty1.symm.trans ht4)
  obtain ⟨ms, hms⟩ := err_iface
  obtain ⟨_, u3, v3, hc3, _⟩ := iface_of_trod hms hd3
  obtain ⟨_, u4, v4, hc4, _⟩ := iface_of_trod hms hd4
  have hcs := Lib.cells_of_tab (n := 20) (e := 109) (k := .u64) (zs := Lib.pow10Tab) (by kernel_rfl) (by kernel_rfl) (by kernel_rfl) (by kernel_rfl) hd2
  unfold World.var? at hv2 hv3 hv4
  rw [gTab] at hv2
  rw [gR] at hv3
  rw [gS] at hv4
  simp only [Option.bind_some] at hv2 hv3 hv4
  have row : ∀ {b : Nat} {cs : Array Value}, (match W.heap[b]? with | some (Obj.cells cs _ _) => some cs | _ => none) = some cs → ∃ T f, W.heap[b]? = some (.cells cs T f) := by
    intro b cs h
    split at h
    · rename_i c T f hc
      obtain rfl := Option.some.inj h
      exact ⟨T, f, hc⟩
    · cases h
  obtain ⟨T2, f2', r2⟩ := row hv2
  obtain ⟨T3, f3', r3⟩ := row hv3
  obtain ⟨T4, f4', r4⟩ := row hv4
  intro g Φ hg
  simp only [tabC] at hg
  split at hg
  · rename_i h0
    subst h0
    refine ⟨_, _, _, r2, ?_⟩
    obtain rfl := Option.some.inj hg
    show cs2 = _
    apply Array.ext'
    rw [hcs]
    rfl
  · split at hg
    · rename_i h12
      obtain rfl := Option.some.inj hg
      rcases h12 with rfl | rfl
      · exact ⟨_, _, _, r4, u4, v4, Array.ext' hc4⟩
      · exact ⟨_, _, _, r3, u3, v3, Array.ext' hc3⟩
    · cases hg
end Go.Proofs.YtpfbljkfbjjlkaaGreatDoor

/- num.Parse: in the model's words. -/
namespace Go.Proofs.YtpfbljkfbjjlkaaGreatDoor
open Go Go.Jq Go.RowKit
set_option maxRecDepth 100000
set_option linter.unusedSimpArgs false
theorem bytes_eq {a b : ByteArray} (h : a.data.toList = b.data.toList) : a = b := by
  cases a; cases b
  simp only [Array.toList_inj] at h
  rw [h]
theorem tab_below {w w' : World} (h : Lib.TabIs Tryz.prog w "internal/strconv.uint64pow10" .u64 Lib.pow10Tab) (hb : Below w.heap.size w w') : Lib.TabIs Tryz.prog w' "internal/strconv.uint64pow10" .u64 Lib.pow10Tab := by
  unfold Lib.TabIs World.var? at h ⊢
  rw [gTab] at h ⊢
  simp only [Option.bind_some] at h ⊢
  cases h0 : w.heap[0]? with
  | none => rw [h0] at h; cases h
  | some o =>
    have hlt : 0 < w.heap.size := by
      rcases Nat.lt_or_ge 0 w.heap.size with h' | h'
      · exact h'
      · rw [Array.getElem?_eq_none h'] at h0; cases h0
    rw [hb.block 0 hlt]
    exact h
theorem below_of_grow {w w' : World} {k : Nat} {os : Array Obj} (h : w' = Go.Sort.grow (w.drewN k) os) : Below w.heap.size w w' := by
  subst h
  refine ⟨rfl, rfl, rfl, ?_, fun j hj => ?_⟩
  · simp [Go.Sort.grow, World.drewN]
  · simp only [Go.Sort.grow, World.drewN]
    exact Array.getElem?_append_left hj
set_option maxHeartbeats 2000000 in
theorem calls_text {n : Int} (hn : I64 n) (s : ByteArray) (hs : s.data.toList = Lib.itoa n) (w : World) (htab : Lib.TabIs Tryz.prog w "internal/strconv.uint64pow10" .u64 Lib.pow10Tab) :
    Calls Tryz.prog 61 #[.int .i64 n] w fun e w' => e = .returned (.string s) ∧ Below w.heap.size w w' := by
  have hI := Tryz.strconv_FormatInt_10 n hn.1 hn.2 w htab
  have hs' : (⟨(Lib.itoa n).toArray⟩ : ByteArray) = s := by
    cases s with
    | mk d => cases d with
      | mk l => simp only at hs; rw [hs]
  rw [hs'] at hI
  clear hs hs' htab hn
  go_enter Tryz.func61, Tryz.ntmps61
  go_wp2_with (go_at_call 107; refine hI.mono ?_)
  rintro e W1 ⟨rfl, k, os, hW⟩
  have hb := below_of_grow hW
  clear hW
  go_wp2
  go_ret
  exact ⟨rfl, hb⟩
set_option maxHeartbeats 2000000 in
theorem calls_parse_ok (s : ByteArray) (hmax : s.size ≤ 9223372036854775806) (n : Int) (h : Lib.parseIntB 64 s.data.toList = .ok n) (hn : I64 n) (w : World) (htab : Lib.TabIs Tryz.prog w "internal/strconv.uint64pow10" .u64 Lib.pow10Tab)
    (s' : ByteArray) (hs : s'.data.toList = Lib.itoa n) : Calls Tryz.prog 123 #[.string s] w fun e w' => e = .returned (.tuple #[.int .i64 (if s' = s then n else 0), .bool (decide (s' = s))]) ∧ Below w.heap.size w w' := by
  have hI := Any.strconv_ParseInt_10_at64_ok Tryz.laysC174 s hmax n h w
  have hT : ∀ W1, Below w.heap.size w W1 → Calls Tryz.prog 61 #[.int .i64 n] W1 fun e w' => e = .returned (.string s') ∧ Below W1.heap.size W1 w' := fun W1 hb => calls_text hn s' hs W1 (tab_below htab hb)
  clear h htab hs hn
  go_enter Tryz.func123, Tryz.ntmps123
  go_wp2_with (go_at_call 139; refine hI.mono ?_)
  rintro e W1 ⟨rfl, hW⟩
  have hb1 : Below w.heap.size w W1 := by
    rcases hW with rfl | ⟨t, rfl⟩
    · exact Below.refl _ _
    · exact Lib.bytesWorld_below _ _ _
  have hT1 := hT W1 hb1
  clear hW hT hI
  go_wp2_with (go_at_call 61; refine hT1.mono ?_)
  rintro e W2 ⟨rfl, hb2⟩
  have hb := hb1.trans (hb2.mono hb1.size)
  clear hT1 hb1 hb2
  by_cases hss : s' = s
  · subst hss
    go_wp2
    go_ret2
    simp only [if_true, decide_true]
    exact ⟨rfl, hb⟩
  · have ht : ¬ s'.toList = s.toList := fun e => hss (by
      simp only [ByteArray.toList_eq] at e
      exact bytes_eq e)
    go_wp2
    · go_ret2
      simp only [hss, if_false, decide_false]
      exact ⟨rfl, hb⟩
    · rename_i hx
      exact absurd (by simpa using hx) ht
theorem calls_pint_err (s : ByteArray) (hlim : s.size ≤ 281474976710656) (w : World) (h : Lib.parseIntB 64 s.data.toList = Lib.parseIntB 64 [] ∨ Lib.parseIntB 64 s.data.toList = .range)
    (h1 : ∃ t p, w.cell? ⟨2, 0, none⟩ = some (.iface t p)) (h2 : ∃ t p, w.cell? ⟨3, 0, none⟩ = some (.iface t p)) :
    Calls Tryz.prog 139 #[.string s, .int .i64 10, .int .i64 64] w fun e w' => ∃ v N, e = .returned (.tuple #[.int .i64 v, .iface 170 (.pointer (some ⟨N, 0, none⟩))]) ∧ Below w.heap.size w w' := by
  rcases h with h | h
  · obtain ⟨t, p, hv⟩ := h1
    refine (Any.strconv_ParseInt_10_at64_syntax Tryz.laysC174 s hlim h _ w hv (.inr ⟨t, p, rfl⟩)).mono ?_
    rintro e w' ⟨N, rfl, _, _, hb⟩
    exact ⟨0, N, rfl, hb⟩
  · obtain ⟨t, p, hv⟩ := h2
    refine (Any.strconv_ParseInt_10_at64_range Tryz.laysC174 s hlim h _ w hv (.inr ⟨t, p, rfl⟩)).mono ?_
    rintro e w' ⟨N, rfl, _, _, hb⟩
    exact ⟨_, N, rfl, hb⟩
set_option maxHeartbeats 2000000 in
theorem calls_parse_err (s : ByteArray) (hlim : s.size ≤ 281474976710656) (w : World) (h : Lib.parseIntB 64 s.data.toList = Lib.parseIntB 64 [] ∨ Lib.parseIntB 64 s.data.toList = .range)
    (h1 : ∃ t p, w.cell? ⟨2, 0, none⟩ = some (.iface t p)) (h2 : ∃ t p, w.cell? ⟨3, 0, none⟩ = some (.iface t p)) :
    Calls Tryz.prog 123 #[.string s] w fun e w' => e = .returned (.tuple #[.int .i64 0, .bool false]) ∧ Below w.heap.size w w' := by
  have hI := calls_pint_err s hlim w h h1 h2
  clear h h1 h2
  go_enter Tryz.func123, Tryz.ntmps123
  go_wp2_with (go_at_call 139; refine hI.mono ?_)
  rintro e W1 ⟨v, N, rfl, hb⟩
  go_wp2
  go_ret2
  exact ⟨rfl, hb⟩
def parseW (s : List UInt8) : Int × Bool :=
  match Lib.parseIntB 64 s with
  | .ok n => if Lib.itoa n = s then (n, true) else (0, false)
  | _ => (0, false)
theorem ofItoa (n : Int) : (⟨(Lib.itoa n).toArray⟩ : ByteArray).data.toList = Lib.itoa n := by simp
theorem bytes_mk (s : List UInt8) : (⟨s.toArray⟩ : ByteArray).data.toList = s := by simp
theorem bytes_size (s : List UInt8) : (⟨s.toArray⟩ : ByteArray).size = s.length := by simp [ByteArray.size]
theorem tab_cell {c : Ctx} {m : Mem} {w : World} (h : MR c m w) (g : Nat) (hg : g = 2 ∨ g = 3) : ∃ t p, w.cell? ⟨g, 0, none⟩ = some (.iface t p) := by
  have : ∃ Φ, tabC g = some Φ ∧ ∀ cs, Φ cs → ∃ t p, cs = #[Value.iface t p] := by
    rcases hg with rfl | rfl <;> exact ⟨_, rfl, fun _ h => h⟩
  obtain ⟨Φ, hΦ, hc⟩ := this
  obtain ⟨_, cs, T, f, h1, h2⟩ := h.tab g Φ hΦ
  obtain ⟨t, p, rfl⟩ := hc cs h2
  refine ⟨t, p, ?_⟩
  simp [World.cell?, h1]
theorem parse_pure {s : List UInt8} (h : s.length ≤ 281474976710656) : Pure Tryz.prog 123 [.d (.str s)] (.tup [.d (.int .i64 (parseW s).1), .d (.bool (parseW s).2)]) := by
  refine pure_of_below fun c w vs hr hM => ?_
  simp only [RelL, Rel, RelD] at hr
  obtain ⟨v1, vs1, rfl, rfl, rfl⟩ := hr
  have hs := bytes_mk s
  have hz := bytes_size s
  have key : Calls Tryz.prog 123 #[.string ⟨s.toArray⟩] w fun e w' => e = .returned (.tuple #[.int .i64 (parseW s).1, .bool (parseW s).2]) ∧ Below w.heap.size w w' := by
    have hE := calls_parse_err ⟨s.toArray⟩ (by omega) w
    rw [hs] at hE
    unfold parseW
    rcases hp : Lib.parseIntB 64 s with n | _ | _
    rotate_left
    · exact hE (.inl hp) (tab_cell hM 2 (.inl rfl)) (tab_cell hM 3 (.inr rfl))
    · exact hE (.inr hp) (tab_cell hM 2 (.inl rfl)) (tab_cell hM 3 (.inr rfl))
    · have hn : I64 n := by
        have := Lib.parseIntB_bounds hp
        simp at this
        unfold I64; omega
      have := calls_parse_ok ⟨s.toArray⟩ (by omega) n (by rw [hs]; exact hp) hn w (tabIs hM) ⟨(Lib.itoa n).toArray⟩ (ofItoa n)
      refine this.mono ?_
      rintro e w' ⟨rfl, hb⟩
      refine ⟨?_, hb⟩
      by_cases he : Lib.itoa n = s
      · simp [he]
      · have : ¬ (⟨(Lib.itoa n).toArray⟩ : ByteArray) = ⟨s.toArray⟩ := fun e => he (by have := congrArg (fun b : ByteArray => b.data.toList) e; simpa using this)
        simp [he, this]
  refine key.mono ?_
  rintro e w' ⟨rfl, hb⟩
  exact ⟨_, rfl, hb.os, hb.tape, hb.output, hb.size, fun k hk => hb.block k hk, (by simp [Rel, RelL, RelD])⟩
end Go.Proofs.YtpfbljkfbjjlkaaGreatDoor

/- Whole numbers of 64 bits: plain laws. -/
namespace Go.Proofs.YtpfbljkfbjjlkaaGreatDoor
open Go Go.Jq
set_option maxRecDepth 100000
set_option linter.unusedSimpArgs false
theorem u64_mod (n : Int) : IntKind.u64.wrap n = n % 18446744073709551616 := by
  simp only [IntKind.wrap, IntKind.signed, IntKind.bits, Bool.false_and, Bool.false_eq_true, if_false]
  rfl
theorem i64_mod (n : Int) : IntKind.i64.wrap (n % 18446744073709551616) = IntKind.i64.wrap n := by
  have e : (2 : Int) ^ 64 = 18446744073709551616 := rfl
  simp only [IntKind.wrap, IntKind.signed, IntKind.bits, e, Int.emod_emod]
def bv (n : Int) : BitVec 64 := BitVec.ofInt 64 n
theorem wrap_bv (n : Int) : IntKind.i64.wrap n = (bv n).toInt := by
  unfold bv
  rw [BitVec.toInt_ofInt, Int.bmod_def]
  have e1 : (2 : Int) ^ 64 = 18446744073709551616 := rfl
  have e2 : (2 : Int) ^ 63 = 9223372036854775808 := rfl
  simp only [IntKind.wrap, IntKind.signed, IntKind.bits, Bool.true_and, Nat.reduceSub, e1, e2, decide_eq_true_eq, ge_iff_le]
  simp only [Nat.reducePow]
  split <;> split <;> omega
theorem bv_id {n : Int} (h : I64 n) : (bv n).toInt = n := by
  rw [← wrap_bv]
  unfold I64 at h
  have e1 : (2 : Int) ^ 64 = 18446744073709551616 := rfl
  have e2 : (2 : Int) ^ 63 = 9223372036854775808 := rfl
  simp only [IntKind.wrap, IntKind.signed, IntKind.bits, Bool.true_and, Nat.reduceSub, e1, e2, decide_eq_true_eq, ge_iff_le]
  split <;> omega
theorem wrap_id {n : Int} (h : I64 n) : IntKind.i64.wrap n = n := by rw [wrap_bv, bv_id h]
theorem wrap_nat (v : BitVec 64) : IntKind.i64.wrap v.toNat = v.toInt := by
  rw [wrap_bv]
  congr 1
  unfold bv
  simp
theorem bits_and_bv (a b : Int) : bits .and .i64 a b = (bv a &&& bv b).toInt := wrap_nat _
theorem and_mask (k : Int) (m : Nat) (hm : m < 9223372036854775808) : 0 ≤ bits .and .i64 k m ∧ bits .and .i64 k m ≤ m := by
  have h : (bv k &&& bv m).toNat ≤ m := by
    rw [BitVec.toNat_and]
    refine Nat.le_trans Nat.and_le_right ?_
    unfold bv
    simp
    omega
  rw [bits_and_bv, ← wrap_nat, wrap_id (by unfold I64; omega)]
  omega
end Go.Proofs.YtpfbljkfbjjlkaaGreatDoor

/- Numbers' texts: plain laws. -/
namespace Go.Proofs.YtpfbljkfbjjlkaaGreatDoor
open Go Go.Jq
set_option maxRecDepth 100000
set_option linter.unusedSimpArgs false
theorem parseUintM_digit (M acc d : Nat) (r : List UInt8) (hd : d < 10) (ha : acc < 1844674407370955162) (hM : acc * 10 + d ≤ M) : Lib.parseUintM M acc (UInt8.ofNat (48 + d) :: r) = Lib.parseUintM M (acc * 10 + d) r := by
  have h1 : (UInt8.ofNat (48 + d)).toNat = 48 + d := by simp; omega
  rw [Lib.parseUintM, h1, if_pos (by omega), if_neg (by omega), if_neg (by omega)]
  congr 1
  omega
theorem parseUintM_dec (u : Nat) : ∀ (r : List UInt8), u ≤ 18446744073709551615 → Lib.parseUintM 18446744073709551615 0 (Lib.decDigits u ++ r) = Lib.parseUintM 18446744073709551615 u r := by
  induction u using Nat.strongRecOn with
  | _ u ih =>
    intro r hu
    by_cases h : u < 10
    · rw [Lib.decDigits_one h]
      have := parseUintM_digit 18446744073709551615 0 u r h (by omega) (by omega)
      simpa using this
    · rw [Lib.decDigits, dif_neg h, List.append_assoc, ih (u / 10) (by omega) _ (by omega), List.singleton_append, parseUintM_digit _ _ _ _ (by omega) (by omega) (by omega)]
      congr 1
      omega
theorem decDigits_ne (u : Nat) : Lib.decDigits u ≠ [] := by
  intro h
  have := Lib.decDigits_length u
  rw [h] at this
  have := Lib.nDigits_pos u
  simp at *
  omega
theorem parseUintB_dec {u : Nat} (hu : u ≤ 18446744073709551615) : Lib.parseUintB 64 (Lib.decDigits u) = .ok u := by
  unfold Lib.parseUintB
  rw [if_neg (decDigits_ne u)]
  have := parseUintM_dec u [] hu
  rw [List.append_nil] at this
  rw [show 2 ^ 64 - 1 = 18446744073709551615 from rfl, this]
  rfl
theorem decDigits_head (u : Nat) : ∃ (d : Nat) (r : List UInt8), Lib.decDigits u = UInt8.ofNat (48 + d) :: r ∧ d < 10 ∧ (d = 0 → u = 0) := by
  induction u using Nat.strongRecOn with
  | _ u ih =>
    by_cases h : u < 10
    · exact ⟨u, [], Lib.decDigits_one h, h, id⟩
    · obtain ⟨d, r, h1, h2, h3⟩ := ih (u / 10) (by omega)
      refine ⟨d, r ++ [UInt8.ofNat (48 + u % 10)], ?_, h2, fun hd => ?_⟩
      · rw [Lib.decDigits, dif_neg h, h1]; rfl
      · have := h3 hd; omega
theorem parse_itoa {n : Int} (h : I64 n) : Lib.parseIntB 64 (Lib.itoa n) = .ok n := by
  obtain ⟨h0, h1⟩ := h
  unfold Lib.itoa
  split
  · rename_i hn
    rw [Lib.parseIntB_minus, parseUintB_dec (by omega)]
    simp only [Lib.signedC]
    rw [if_neg (by simp; omega)]
    congr 1
    omega
  · rename_i hn
    obtain ⟨d, r, hd, hd1, _⟩ := decDigits_head n.toNat
    have hc : (UInt8.ofNat (48 + d)).toNat = 48 + d := by simp; omega
    have hp := parseUintB_dec (u := n.toNat) (by omega)
    rw [hd] at hp ⊢
    rw [Lib.parseIntB_plain _ _ _ (by omega) (by omega), hp]
    simp only [Lib.signlessC]
    rw [if_neg (by simp; omega)]
    congr 1
    omega
theorem parseW_itoa {n : Int} (h : I64 n) : parseW (Lib.itoa n) = (n, true) := by
  unfold parseW
  rw [parse_itoa h]
  simp
theorem parseW_text {s : List UInt8} (h : (parseW s).2 = true) : Lib.itoa (parseW s).1 = s ∧ I64 (parseW s).1 := by
  unfold parseW at h ⊢
  rcases hp : Lib.parseIntB 64 s with n | _ | _
  · rw [hp] at h
    simp only at h ⊢
    split at h
    · rename_i he
      rw [if_pos he]
      refine ⟨he, ?_⟩
      have := Lib.parseIntB_bounds hp
      simp at this
      unfold I64; omega
    · cases h
  · rw [hp] at h; cases h
  · rw [hp] at h; cases h
theorem parseW_no {s : List UInt8} (h : (parseW s).2 = false) : parseW s = (0, false) := by
  unfold parseW at h ⊢
  rcases hp : Lib.parseIntB 64 s with n | _ | _
  · rw [hp] at h
    simp only at h ⊢
    split at h
    · cases h
    · rename_i he
      rw [if_neg he]
  · rfl
  · rfl
end Go.Proofs.YtpfbljkfbjjlkaaGreatDoor

/- The abstract layer: guards that hang on a test not yet decided. -/
namespace Go.Jq
open Go
section
variable {P : Program} {dst : Option Nat} {op : AOp} {r : List AOper} {K : St → Prop} {t : Fr} {m : Mem} {n : Nat} {want b : Bool} {acc : List Foot} {ms : List Nat}
theorem gateK_split (h1 : b = true → gateK P dst op r K t m n want (.d (.bool true))) (h0 : b = false → gateK P dst op r K t m n want (.d (.bool false))) : gateK P dst op r K t m n want (.d (.bool b)) := by
  cases b
  · exact h0 rfl
  · exact h1 rfl
theorem dGateK_split (h1 : b = true → dGateK P dst op r acc ms K t m n want (.d (.bool true))) (h0 : b = false → dGateK P dst op r acc ms K t m n want (.d (.bool false))) : dGateK P dst op r acc ms K t m n want (.d (.bool b)) := by
  cases b
  · exact h0 rfl
  · exact h1 rfl
end
theorem take_snoc {α : Type} (l : List α) (i : Nat) (h : i < l.length) : l.take (i + 1) = l.take i ++ [l[i]] := by
  rw [List.take_add_one, List.getElem?_eq_getElem h]; rfl
end Go.Jq

/- The document's numbers' texts. -/
namespace Go.Proofs.YtpfbljkfbjjlkaaGreatDoor
open Go Go.Jq
set_option maxRecDepth 100000
set_option linter.unusedSimpArgs false
def dropSeq : Nat → ACode → ACode
  | 0, c => c
  | n + 1, .seq _ b => dropSeq n b
  | _, c => c
theorem digits_at : ∀ k : Fin 10, List.drop k.1 ((48 : UInt8) :: List.take k.1 [49, 50, 51, 52, 53, 54, 55, 56, 57]) = [UInt8.ofNat (48 + k.1)] := by decide
theorem wrap_u64_neg {n : Int} (h0 : -9223372036854775808 ≤ n) (h1 : n < 0) : IntKind.u64.wrap n = n + 18446744073709551616 := by
  unfold IntKind.wrap
  simp only [IntKind.signed, IntKind.bits, Bool.false_and, Bool.false_eq_true, if_false]
  omega
def rtS (u : Nat) (s sg : List UInt8) : St := ⟨[(3, .d (.int .u64 u)), (5, .d (.str s)), (4, .d (.str sg))], [], 0⟩
set_option maxHeartbeats 2000000 in
theorem rt_loop {u0 : Nat} (hu : u0 < 18446744073709551616) {sg : List UInt8} {Q : Exit → St → Prop}
    (hQ : ∀ u s, u < 10 → Lib.decDigits u0 = UInt8.ofNat (48 + u) :: s → Q (.exit 0) (rtS u s sg)) :
    BWP Tryz.prog (mbound []) 37 (.loop ac23L0) (rtS u0 [] sg) Q := by
  refine bwp_fam (ι := { p : Nat × List UInt8 // p.1 ≤ u0 ∧ Lib.decDigits u0 = Lib.decDigits p.1 ++ p.2 ∧ p.2.length + Lib.nDigits p.1 = Lib.nDigits u0 }) (fun p => rtS p.1.1 p.1.2 sg) (fun p => p.1.1) ⟨(u0, []), Nat.le_refl _, by simp, by simp⟩ ?_
  rintro ⟨⟨u, s⟩, hle, he, hln⟩
  simp only at hle he hln ⊢
  have hn0 := nDigits_le 19 u0 (by simp; omega)
  unfold ac23L0 rtS
  by_cases hb : 9 < u
  · have hb' : (9 : Int) < (u : Int) := by omega
    have hr : u % 10 < 10 := Nat.mod_lt _ (by omega)
    have hw : IntKind.i64.wrap ((u % 10 : Nat) : Int) = ((u % 10 : Nat) : Int) := wrap_i64 (by omega) (by omega)
    have hw1 : IntKind.i64.wrap (((u % 10 : Nat) : Int) + 1) = ((u % 10 + 1 : Nat) : Int) := by rw [wrap_i64 (by omega) (by omega)]; rfl
    have hw2 : IntKind.u64.wrap ((u / 10 : Nat) : Int) = ((u / 10 : Nat) : Int) := wrap_u64 (by omega) (by omega)
    have hdg := digits_at ⟨u % 10, hr⟩
    have e1 : (u : Int).tmod 10 = ((u % 10 : Nat) : Int) := rfl
    have e2 : (u : Int).tdiv 10 = ((u / 10 : Nat) : Int) := rfl
    have hd : Lib.decDigits u = Lib.decDigits (u / 10) ++ [UInt8.ofNat (48 + u % 10)] := by rw [Lib.decDigits, dif_neg (by omega)]
    have hnd : Lib.nDigits u = Lib.nDigits (u / 10) + 1 := Lib.nDigits_big (by omega)
    have b1 : 1 + s.length ≤ 9223372036854775807 := by have := Lib.nDigits_pos u; omega
    simp only at hdg
    refine bwp_seq fun K1 hK1 => ?_
    refine bwp_seq fun K hK => bwp_region rfl ?_
    simp only [go_sem, ↓reduceIte, hb']
    refine hK _ ?_; clear hK
    refine bwp_cond true (by simp [ev, fget, hb']) (fun _ => ?_) (fun h => nomatch h)
    refine bwp_skip ?_
    refine hK1 _ ?_; clear hK1
    refine bwp_block ?_
    generalize hq : u % 10 = q at *
    have q1 : (0 : Int) ≤ (q : Int) := Int.natCast_nonneg _
    have q2 : q ≤ q + 1 ∧ q + 1 ≤ 10 := by omega
    have q3 : (0 : Int) ≤ ((q + 1 : Nat) : Int) := Int.natCast_nonneg _
    have q4 : q ≤ q + 1 := by omega
    have q5 : q + 1 ≤ 10 := by omega
    refine bwp_seq fun K hK => bwp_region rfl ?_
    simp only [go_sem, ↓reduceIte, e1, hw]
    refine hK _ ?_; clear hK
    refine bwp_seq fun K hK => bwp_region rfl ?_
    simp only [go_sem, ↓reduceIte, hw1, q1, q3, Int.toNat_natCast, List.length_cons, List.length_nil, Nat.zero_add, q2, q4, q5, hdg, b1, Option.map_some]
    refine hK _ ?_; clear hK
    refine bwp_region rfl ?_
    simp only [go_sem, ↓reduceIte, e2, hw2]
    refine ⟨⟨(u / 10, UInt8.ofNat (48 + q) :: s), by simp only; omega, by simp only; rw [he, hd]; simp, by simp only [List.length_cons]; omega⟩, by simp only; omega, ?_⟩
    exact Leads.ent [] ⟨by simp [entT, fget, AV.ren, renL, pget, rtS], by simp [entM, rtS], rfl, rfl⟩
  · have hb' : ¬ (9 : Int) < (u : Int) := by omega
    refine bwp_seq fun K1 hK1 => ?_
    refine bwp_seq fun K hK => bwp_region rfl ?_
    simp only [go_sem, ↓reduceIte, hb']
    refine hK _ ?_; clear hK
    refine bwp_cond false (by simp [ev, fget, hb']) (fun h => nomatch h) (fun _ => ?_)
    refine bwp_leads (S' := rtS u s sg) (Leads.ent [] ⟨by simp [entT, fget, AV.ren, renL, pget, rtS], by simp [entM, pinv, mget, mset, renL, AV.ren, pget, renL_append, -List.map_map, rtS], rfl, rfl⟩) ?_
    refine bwp_exit (hQ u s (by omega) ?_)
    rw [he, Lib.decDigits, dif_pos (by omega)]
    rfl
set_option maxHeartbeats 2000000 in
theorem refText_pure {n : Int} (h : I64 n) : Pure Tryz.prog 23 [.d (.int .i64 n)] (.d (.str (Lib.itoa n))) := by
  obtain ⟨h0, h1⟩ := h
  have hfin : ∀ (S : St) (sg : List UInt8) (K : St → Prop), sg.length ≤ 1 → Lib.itoa n = sg ++ Lib.decDigits n.natAbs → Leads (mbound []) 37 S ⟨[(3, .d (.int .u64 n.natAbs)), (4, .d (.str sg))], [], 0⟩ →
      (∀ S', BWP Tryz.prog (mbound []) 37 (dropSeq 4 ac23) S' (AEnd Tryz.prog #[.tmp 2] (mbound []) fun r m' => r = .d (.str (Lib.itoa n)) ∧ m' = []) → K S') → K S := by
    intro S sg K hsg hit hS hK
    refine hK _ ?_; clear hK
    refine bwp_leads hS ?_
    unfold ac23
    simp only [dropSeq]
    refine bwp_seq fun K hK => bwp_region rfl ?_
    simp only [go_sem, ↓reduceIte]
    refine hK _ ?_; clear hK
    refine bwp_seq fun K1 hK1 => ?_
    refine bwp_block ?_
    refine bwp_leads (S' := rtS n.natAbs [] sg) (Leads.ent [] ⟨by simp [entT, fget, AV.ren, renL, pget, rtS], by simp [entM, pinv, mget, mset, renL, AV.ren, pget, renL_append, -List.map_map, rtS], rfl, rfl⟩) ?_
    refine rt_loop (by omega) ?_
    intro u s hu hd
    have hl := itoa_len (n := n) ⟨h0, h1⟩
    rw [hit, hd] at hl
    simp only [List.length_append, List.length_cons] at hl
    unfold rtS
    simp only [go_sem, ↓reduceIte]
    refine hK1 _ ?_; clear hK1
    have hw : IntKind.i64.wrap (u : Int) = (u : Int) := wrap_i64 (by omega) (by omega)
    have hw1 : IntKind.i64.wrap ((u : Int) + 1) = ((u + 1 : Nat) : Int) := by rw [wrap_i64 (by omega) (by omega)]; rfl
    have hdg := digits_at ⟨u, hu⟩
    simp only at hdg
    have q1 : (0 : Int) ≤ (u : Int) := Int.natCast_nonneg _
    have q3 : (0 : Int) ≤ ((u + 1 : Nat) : Int) := Int.natCast_nonneg _
    have q4 : u ≤ u + 1 := by omega
    have q5 : u + 1 ≤ 10 := by omega
    have q2 : u ≤ u + 1 ∧ u + 1 ≤ 10 := ⟨q4, q5⟩
    have b1 : sg.length + 1 ≤ 9223372036854775807 := by omega
    have b2 : sg.length + 1 + s.length ≤ 9223372036854775807 := by omega
    refine bwp_seq fun K hK => bwp_region rfl ?_
    simp only [go_sem, ↓reduceIte, hw]
    refine hK _ ?_; clear hK
    refine bwp_seq fun K hK => bwp_region rfl ?_
    simp only [go_sem, ↓reduceIte, hw1, q1, q3, Int.toNat_natCast, List.length_cons, List.length_nil, List.length_append, Nat.zero_add, q2, q4, q5, hdg, b1, b2, Option.map_some]
    refine hK _ ?_; clear hK
    refine bwp_ret ?_
    simp only [go_sem]
    refine aend_ret _ rfl rfl ⟨?_, rfl⟩
    simp [fget, hit, hd]
  refine acalls_of Tryz.func23 ac23_ok Tryz.ntmps23 Tryz.results23 rfl ?_
  unfold ac23
  refine bwp_seq fun K hK => bwp_region rfl ?_
  simp only [go_sem, ↓reduceIte]
  refine hK _ ?_; clear hK
  by_cases hn : n < 0
  · have hw := wrap_u64_neg h0 hn
    have hw2 : IntKind.u64.wrap (0 - (n + 18446744073709551616)) = (n.natAbs : Int) := by
      unfold IntKind.wrap
      simp only [IntKind.signed, IntKind.bits, Bool.false_and, Bool.false_eq_true, if_false]
      omega
    refine bwp_seq fun K hK => bwp_region rfl ?_
    simp only [go_sem, ↓reduceIte, hw]
    refine hK _ ?_; clear hK
    refine bwp_seq fun K hK => bwp_region rfl ?_
    simp only [go_sem, ↓reduceIte]
    refine hK _ ?_; clear hK
    refine bwp_seq fun K0 hK0 => ?_
    refine bwp_seq fun K hK => bwp_region rfl ?_
    simp only [go_sem, ↓reduceIte, hn]
    refine hK _ ?_; clear hK
    refine bwp_cond true (by simp [ev, fget, hn]) (fun _ => ?_) (fun h => nomatch h)
    refine bwp_seq fun K hK => bwp_region rfl ?_
    simp only [go_sem, ↓reduceIte, hw2]
    refine hK _ ?_; clear hK
    refine bwp_region rfl ?_
    simp only [go_sem, ↓reduceIte]
    refine hfin _ [45] K0 (by simp) (by simp [Lib.itoa, hn]) ?_ hK0
    exact Leads.ent [] ⟨by simp [entT, fget, AV.ren, renL, pget], by simp [entM], rfl, rfl⟩
  · have hw : IntKind.u64.wrap n = (n.natAbs : Int) := by rw [wrap_u64 (by omega) (by omega)]; omega
    refine bwp_seq fun K hK => bwp_region rfl ?_
    simp only [go_sem, ↓reduceIte, hw]
    refine hK _ ?_; clear hK
    refine bwp_seq fun K hK => bwp_region rfl ?_
    simp only [go_sem, ↓reduceIte]
    refine hK _ ?_; clear hK
    refine bwp_seq fun K0 hK0 => ?_
    refine bwp_seq fun K hK => bwp_region rfl ?_
    simp only [go_sem, ↓reduceIte, hn]
    refine hK _ ?_; clear hK
    refine bwp_cond false (by simp [ev, fget, hn]) (fun h => nomatch h) (fun _ => ?_)
    refine bwp_skip ?_
    refine hfin _ [] K0 (by simp) (by have : n.toNat = n.natAbs := by omega
                                      simp [Lib.itoa, hn, this]) ?_ hK0
    exact Leads.ent [] ⟨by simp [entT, fget, AV.ren, renL, pget], by simp [entM], rfl, rfl⟩
end Go.Proofs.YtpfbljkfbjjlkaaGreatDoor

/- The document's numbers of texts. -/
namespace Go.Proofs.YtpfbljkfbjjlkaaGreatDoor
open Go Go.Jq
set_option maxRecDepth 100000
set_option linter.unusedSimpArgs false
def digB (c : UInt8) : Bool := decide (48 ≤ c.toNat) && decide (c.toNat ≤ 57)
def valD (d : List UInt8) : Nat := d.foldl (fun a c => 10 * a + (c.toNat - 48)) 0
theorem valD_snoc (d : List UInt8) (c : UInt8) : valD (d ++ [c]) = 10 * valD d + (c.toNat - 48) := by simp [valD, List.foldl_append]
theorem digB_ofNat {k : Nat} (h : k < 10) : digB (UInt8.ofNat (48 + k)) = true ∧ (UInt8.ofNat (48 + k)).toNat - 48 = k := by
  have h1 : (UInt8.ofNat (48 + k)).toNat = 48 + k := by simp; omega
  unfold digB
  rw [h1]
  simp
  omega
theorem dig_dec (u : Nat) : (Lib.decDigits u).all digB = true ∧ valD (Lib.decDigits u) = u := by
  induction u using Nat.strongRecOn with
  | _ u ih =>
    by_cases h : u < 10
    · rw [Lib.decDigits_one h]
      obtain ⟨h1, h2⟩ := digB_ofNat h
      refine ⟨by rw [List.all_cons, h1]; rfl, ?_⟩
      have := valD_snoc [] (UInt8.ofNat (48 + u))
      rw [List.nil_append] at this
      rw [this, h2]
      simp [valD]
    · obtain ⟨h1, h2⟩ := digB_ofNat (Nat.mod_lt u (by decide : 0 < 10))
      obtain ⟨i1, i2⟩ := ih (u / 10) (by omega)
      rw [Lib.decDigits, dif_neg h]
      refine ⟨by rw [List.all_append, i1, List.all_cons, h1]; rfl, ?_⟩
      rw [valD_snoc, i2, h2]
      omega
theorem valD_pos {c : UInt8} {r : List UInt8} (hd : (c :: r).all digB = true) (hc : c ≠ 48) : 1 ≤ valD (c :: r) := by
  have hc1 : 49 ≤ c.toNat := by
    simp only [List.all_cons, digB, Bool.and_eq_true, decide_eq_true_eq] at hd
    have : c.toNat ≠ 48 := fun h => hc (by apply UInt8.toNat_inj.1; exact h)
    omega
  have key : ∀ (r : List UInt8) (a : Nat), 1 ≤ a → 1 ≤ r.foldl (fun a c => 10 * a + (c.toNat - 48)) a := by
    intro r
    induction r with
    | nil => intro a h; exact h
    | cons x r ih => intro a h; exact ih _ (by show 1 ≤ 10 * a + _; omega)
  exact key r _ (by show 1 ≤ 10 * 0 + (c.toNat - 48); omega)
theorem dec_val : ∀ (n : Nat) (d : List UInt8), d.length = n → d ≠ [] → d.all digB = true → (d.getD 0 0 = 48 → d.length = 1) → Lib.decDigits (valD d) = d := by
  intro n
  induction n with
  | zero => intro d h hd; exact absurd (List.eq_nil_of_length_eq_zero h) hd
  | succ n ih =>
    intro d hl hne ha hz
    obtain ⟨e, c, rfl⟩ : ∃ e c, d = e ++ [c] := ⟨d.dropLast, d.getLast hne, (List.dropLast_concat_getLast hne).symm⟩
    rw [List.all_append, Bool.and_eq_true] at ha
    obtain ⟨ha1, ha2⟩ := ha
    simp only [List.all_cons, List.all_nil, Bool.and_true, digB, Bool.and_eq_true, decide_eq_true_eq] at ha2
    have hc : UInt8.ofNat (48 + (c.toNat - 48)) = c := by
      apply UInt8.toNat_inj.1
      simp
      omega
    rw [valD_snoc]
    cases e with
    | nil =>
      simp only [List.nil_append, valD, List.foldl_nil, Nat.mul_zero, Nat.zero_add]
      rw [Lib.decDigits_one (by omega), hc]
    | cons x r =>
      have hx : x ≠ 48 := by
        intro h
        have := hz (by simp [h])
        simp at this
      have hv := valD_pos ha1 hx
      have := ih (x :: r) (by simpa using hl) (by simp) ha1 (fun h => absurd (by simpa using h) hx)
      rw [Lib.decDigits, dif_neg (by omega)]
      rw [show (10 * valD (x :: r) + (c.toNat - 48)) / 10 = valD (x :: r) by omega, show (10 * valD (x :: r) + (c.toNat - 48)) % 10 = c.toNat - 48 by omega, this, hc]
theorem valD_lt (d : List UInt8) (ha : d.all digB = true) : valD d < 10 ^ d.length := by
  have key : ∀ (d : List UInt8) (a k : Nat), d.all digB = true → a < 10 ^ k → d.foldl (fun a c => 10 * a + (c.toNat - 48)) a < 10 ^ (k + d.length) := by
    intro d
    induction d with
    | nil => intro a k _ h; exact h
    | cons x r ih =>
      intro a k hd h
      simp only [List.all_cons, digB, Bool.and_eq_true, decide_eq_true_eq] at hd
      have := ih (10 * a + (x.toNat - 48)) (k + 1) (by simpa [digB] using hd.2) (by rw [Nat.pow_succ]; omega)
      rw [List.length_cons, show k + (r.length + 1) = k + 1 + r.length by omega]
      exact this
  have := key d 0 0 ha (by decide)
  rw [Nat.zero_add] at this
  exact this
def refD (neg : Bool) (d : List UInt8) : Int × Bool :=
  if d = [] ∨ 19 < d.length ∨ (d.getD 0 0 = 48 ∧ (1 < d.length ∨ neg = true)) then (0, false)
  else if d.all digB = true then
    (if neg = true then (IntKind.i64.wrap (IntKind.u64.wrap (0 - (valD d : Int))), decide ((valD d : Int) ≤ 9223372036854775808)) else (IntKind.i64.wrap (valD d), decide ((valD d : Int) < 9223372036854775808)))
  else (0, false)
def refW (s : List UInt8) : Int × Bool :=
  match s with
  | [] => refD false []
  | c :: r => if c = 45 then refD true r else refD false (c :: r)
def numW (s : List UInt8) : Int × Bool := if (refW s).2 = true then refW s else (0, false)
theorem refD_itoa_neg {u : Nat} (h1 : 1 ≤ u) (h2 : u ≤ 9223372036854775808) : refD true (Lib.decDigits u) = (-(u : Int), true) := by
  obtain ⟨a1, a2⟩ := dig_dec u
  obtain ⟨d, r, e, hd, hz⟩ := decDigits_head u
  have hl : (Lib.decDigits u).length ≤ 19 := by
    rw [Lib.decDigits_length]
    exact nDigits_le 18 u (by simp; omega)
  have hh : (Lib.decDigits u).getD 0 0 ≠ 48 := by
    rw [e]
    intro h
    have : (UInt8.ofNat (48 + d)).toNat = 48 := congrArg UInt8.toNat h
    simp at this
    have := hz (by omega)
    omega
  unfold refD
  rw [if_neg (by rintro (h | h | h); exact decDigits_ne u h; omega; exact hh h.1), if_pos a1, if_pos rfl, a2]
  have : IntKind.i64.wrap (IntKind.u64.wrap (0 - (u : Int))) = -(u : Int) := by
    rw [u64_mod, i64_mod, wrap_id (by unfold I64; omega)]; omega
  rw [this]
  simp
  omega
theorem refD_itoa_pos {u : Nat} (h2 : u < 9223372036854775808) : refD false (Lib.decDigits u) = ((u : Int), true) := by
  obtain ⟨a1, a2⟩ := dig_dec u
  obtain ⟨d, r, e, hd, hz⟩ := decDigits_head u
  have hl : (Lib.decDigits u).length ≤ 19 := by
    rw [Lib.decDigits_length]
    exact nDigits_le 18 u (by simp; omega)
  have hh : (Lib.decDigits u).getD 0 0 = 48 → (Lib.decDigits u).length = 1 := by
    intro h
    rw [e] at h
    have : (UInt8.ofNat (48 + d)).toNat = 48 := congrArg UInt8.toNat h
    simp at this
    have := hz (by omega)
    subst this
    rw [Lib.decDigits_one (by decide)]
    rfl
  unfold refD
  rw [if_neg (by rintro (h | h | ⟨h, h' | h'⟩); exact decDigits_ne u h; omega; have := hh h; omega; cases h'), if_pos a1, if_neg (by decide), a2, wrap_id (by unfold I64; omega)]
  simp
  omega
theorem refW_itoa {n : Int} (h : I64 n) : refW (Lib.itoa n) = (n, true) := by
  obtain ⟨h0, h1⟩ := h
  unfold Lib.itoa
  split
  · simp only [refW]
    rw [if_pos trivial, refD_itoa_neg (by omega) (by omega)]
    congr 1
    omega
  · obtain ⟨d, r, e, hd, hz⟩ := decDigits_head n.toNat
    have hp := refD_itoa_pos (u := n.toNat) (by omega)
    rw [e] at hp ⊢
    simp only [refW]
    rw [if_neg (by intro h; have := congrArg UInt8.toNat h; simp at this; omega), hp]
    congr 1
    omega
theorem refW_text {s : List UInt8} (h : (refW s).2 = true) : Lib.itoa (refW s).1 = s ∧ I64 (refW s).1 := by
  have key : ∀ (neg : Bool) (d : List UInt8), (refD neg d).2 = true → d ≠ [] ∧ Lib.decDigits (valD d) = d ∧ (if neg = true then (refD neg d).1 = -(valD d : Int) ∧ 1 ≤ valD d ∧ valD d ≤ 9223372036854775808 else (refD neg d).1 = (valD d : Int) ∧ valD d < 9223372036854775808) := by
    intro neg d hd
    unfold refD at hd ⊢
    split at hd
    · cases hd
    rename_i hc
    rw [if_neg hc]
    split at hd
    · rename_i ha
      rw [if_pos ha]
      have hne : d ≠ [] := fun h => hc (.inl h)
      have hz : d.getD 0 0 = 48 → d.length = 1 ∧ neg = false := fun h => by
        refine ⟨?_, ?_⟩
        · have : ¬ 1 < d.length := fun h' => hc (.inr (.inr ⟨h, .inl h'⟩))
          have : d.length ≠ 0 := fun h' => hne (List.eq_nil_of_length_eq_zero h')
          omega
        · cases neg with
          | false => rfl
          | true => exact absurd (.inr (.inr ⟨h, .inr rfl⟩)) hc
      refine ⟨hne, dec_val _ d rfl hne ha (fun h => (hz h).1), ?_⟩
      cases neg with
      | true =>
        rw [if_pos rfl] at hd ⊢
        simp only [if_true, decide_eq_true_eq] at hd ⊢
        have h1 : 1 ≤ valD d := by
          cases d with
          | nil => exact absurd rfl hne
          | cons c r => exact valD_pos ha (fun h => by have := (hz (by simp [h])).2; cases this)
        refine ⟨?_, h1, by omega⟩
        rw [u64_mod, i64_mod, wrap_id (by unfold I64; omega)]; omega
      | false =>
        rw [if_neg (by decide)] at hd ⊢
        simp only [if_false, decide_eq_true_eq, Bool.false_eq_true] at hd ⊢
        exact ⟨wrap_id (by unfold I64; omega), by omega⟩
    · cases hd
  cases s with
  | nil => exact absurd rfl (key false [] h).1
  | cons c r =>
    simp only [refW] at h ⊢
    split at h
    · rename_i hc
      subst hc
      rw [if_pos rfl]
      obtain ⟨_, k2, k3⟩ := key true r h
      rw [if_pos rfl] at k3
      rw [k3.1]
      refine ⟨?_, by unfold I64; omega⟩
      unfold Lib.itoa
      rw [if_pos (by omega), show (-(valD r : Int)).natAbs = valD r by omega, k2]
    · rename_i hc
      rw [if_neg hc]
      obtain ⟨_, k2, k3⟩ := key false (c :: r) h
      rw [if_neg (by decide)] at k3
      rw [k3.1]
      refine ⟨?_, by unfold I64; omega⟩
      unfold Lib.itoa
      rw [if_neg (by omega), show ((valD (c :: r) : Int)).toNat = valD (c :: r) by omega, k2]
theorem numW_eq (s : List UInt8) : numW s = parseW s := by
  unfold numW
  cases h : (refW s).2 with
  | true =>
    obtain ⟨h1, h2⟩ := refW_text h
    rw [if_pos rfl]
    have := parseW_itoa h2
    rw [h1] at this
    rw [this, ← h]
  | false =>
    rw [if_neg (by decide)]
    cases hp : (parseW s).2 with
    | true =>
      obtain ⟨h1, h2⟩ := parseW_text hp
      have := refW_itoa h2
      rw [h1] at this
      rw [this] at h
      cases h
    | false => rw [parseW_no hp]
end Go.Proofs.YtpfbljkfbjjlkaaGreatDoor

/- Tokens of a text: what they are, in plain words. -/
namespace Go.Proofs.YtpfbljkfbjjlkaaGreatDoor
open Go Go.Jq
set_option maxRecDepth 100000
set_option linter.unusedSimpArgs false
structure Tok where
  kd : Int
  tx : List UInt8
  pl : Nat
  deriving DecidableEq
def Tok.cells (t : Tok) : List DV := [.int .i64 t.kd, .str t.tx, .int .i64 t.pl]
def blankB (c : UInt8) : Bool := c == 32 || c == 9 || c == 10
def letB (c : UInt8) : Bool := decide (97 ≤ c.toNat) && decide (c.toNat ≤ 122)
def alnB (c : UInt8) : Bool := letB c || digB c
def skipN : Bool → List UInt8 → Nat
  | _, [] => 0
  | true, c :: r => 1 + skipN (c != 10) r
  | false, c :: r => if blankB c = true then 1 + skipN false r else if c = 35 then 1 + skipN true r else 0
def skipA (s : List UInt8) (at' : Nat) : Nat := at' + skipN false (s.drop at')
def runL : List UInt8 → Nat
  | [] => 0
  | c :: r => if alnB c = true then 1 + runL r else 0
def ones : List UInt8 := [123, 125, 59, 58, 61, 43, 45, 42, 38, 124, 94, 60]
def signL : List UInt8 → Nat
  | [] => 0
  | c :: r =>
    if (c = 60 ∧ r.head? = some 60) ∨ (c = 62 ∧ r.head? = some 62) ∨ ((c = 61 ∨ c = 33) ∧ r.head? = some 61) then 2
    else if c ∈ ones then 1 else 0
def noTok : Tok := ⟨0, [], 0⟩
def tokAt (a : Nat) : List UInt8 → Tok × Nat × Int
  | [] => (⟨4, [], a⟩, a, 0)
  | c :: r =>
    if letB c = true then (⟨1, c :: r.take (runL r), a⟩, a + (1 + runL r), 0)
    else if digB c = true ∨ (c = 45 ∧ (r.head?.map digB).getD false = true) then
      (if (parseW (c :: r.take (runL r))).2 = true then (⟨2, c :: r.take (runL r), a⟩, a + (1 + runL r), 0) else (noTok, a, 5))
    else if signL (c :: r) = 0 then (noTok, a, 4)
    else (⟨3, (c :: r).take (signL (c :: r)), a⟩, a + signL (c :: r), 0)
def nextW (s : List UInt8) (at' : Nat) : Tok × Nat × Int := tokAt (skipA s at') (s.drop (skipA s at'))
def errAt (s : List UInt8) (at' : Nat) : Nat := if (nextW s at').2.2 = 0 then 0 else skipA s at'
theorem skipN_le : ∀ (b : Bool) (l : List UInt8), skipN b l ≤ l.length
  | _, [] => by simp [skipN]
  | true, c :: r => by have := skipN_le (c != 10) r; simp only [skipN, List.length_cons]; omega
  | false, c :: r => by
    have h1 := skipN_le false r
    have h2 := skipN_le true r
    simp only [skipN, List.length_cons]
    split
    · omega
    · split <;> omega
theorem skipA_le {s : List UInt8} {a : Nat} (h : a ≤ s.length) : skipA s a ≤ s.length := by
  have := skipN_le false (s.drop a)
  rw [List.length_drop] at this
  unfold skipA
  omega
theorem le_skipA (s : List UInt8) (a : Nat) : a ≤ skipA s a := Nat.le_add_right ..
theorem runL_le : ∀ l : List UInt8, runL l ≤ l.length
  | [] => by simp [runL]
  | c :: r => by have := runL_le r; simp only [runL, List.length_cons]; split <;> omega
theorem signL_le : ∀ l : List UInt8, signL l ≤ l.length ∧ signL l ≤ 2
  | [] => by simp [signL]
  | c :: r => by
    rw [signL]
    split
    · rename_i h
      cases r with
      | nil => simp at h
      | cons d r => simp
    · split <;> simp
theorem tokAt_to (a : Nat) (l : List UInt8) : a ≤ (tokAt a l).2.1 ∧ (tokAt a l).2.1 ≤ a + l.length ∧ ((tokAt a l).2.2 = 0 → (tokAt a l).1.kd ≠ 4 → a < (tokAt a l).2.1) := by
  cases l with
  | nil => simp [tokAt]
  | cons c r =>
    have h1 := runL_le r
    have h2 := signL_le (c :: r)
    rw [tokAt]
    simp only [List.length_cons] at h2 ⊢
    split
    · simp only; omega
    · split
      · split
        · simp only; omega
        · simp
      · split
        · simp
        · simp only; omega
theorem nextW_to {s : List UInt8} {a : Nat} (h : a ≤ s.length) : a ≤ (nextW s a).2.1 ∧ (nextW s a).2.1 ≤ s.length ∧ ((nextW s a).2.2 = 0 → (nextW s a).1.kd ≠ 4 → a < (nextW s a).2.1) := by
  have h1 := tokAt_to (skipA s a) (s.drop (skipA s a))
  have h2 := skipA_le h
  have h3 := le_skipA s a
  rw [List.length_drop] at h1
  unfold nextW
  refine ⟨by omega, by omega, fun h4 h5 => ?_⟩
  have := h1.2.2 h4 h5
  omega
theorem tokAt_text (a : Nat) (l : List UInt8) (h : (tokAt a l).2.2 = 0) : (tokAt a l).1.pl = a ∧ (tokAt a l).1.tx = l.take ((tokAt a l).2.1 - a) ∧ (tokAt a l).2.1 = a + (tokAt a l).1.tx.length ∧ ((tokAt a l).1.kd = 4 ↔ l = []) := by
  cases l with
  | nil => simp [tokAt]
  | cons c r =>
    have h1 := runL_le r
    have h2 := signL_le (c :: r)
    rw [tokAt] at h ⊢
    split
    · simp [Nat.add_sub_cancel_left, Nat.add_comm 1]; omega
    · rename_i hc
      rw [if_neg hc] at h
      split
      · rename_i hd
        rw [if_pos hd] at h
        split
        · simp [Nat.add_sub_cancel_left, Nat.add_comm 1]; omega
        · rename_i hp
          rw [if_neg hp] at h
          cases h
      · rename_i hd
        rw [if_neg hd] at h
        split
        · rename_i hs
          rw [if_pos hs] at h
          cases h
        · simp only [List.length_cons] at h2; simp [Nat.add_sub_cancel_left]; omega
end Go.Proofs.YtpfbljkfbjjlkaaGreatDoor

/- Tokens of a text: plain laws. -/
namespace Go.Proofs.YtpfbljkfbjjlkaaGreatDoor
open Go Go.Jq
set_option maxRecDepth 100000
set_option linter.unusedSimpArgs false
def heads (c : UInt8) : Prop := blankB c = false ∧ c ≠ 35
theorem skip_zero {c : UInt8} (r : List UInt8) (h : heads c) : skipN false (c :: r) = 0 := by
  simp [skipN, h.1, h.2]
theorem let_heads {c : UInt8} (h : letB c = true) : heads c := by
  simp only [letB, Bool.and_eq_true, decide_eq_true_eq] at h
  constructor
  · simp only [blankB, Bool.or_eq_false_iff, beq_eq_false_iff_ne]
    refine ⟨⟨?_, ?_⟩, ?_⟩ <;> (rintro rfl; simp at h)
  · rintro rfl; simp at h
theorem dig_heads {c : UInt8} (h : digB c = true) : heads c := by
  simp only [digB, Bool.and_eq_true, decide_eq_true_eq] at h
  constructor
  · simp only [blankB, Bool.or_eq_false_iff, beq_eq_false_iff_ne]
    refine ⟨⟨?_, ?_⟩, ?_⟩ <;> (rintro rfl; simp at h)
  · rintro rfl; simp at h
end Go.Proofs.YtpfbljkfbjjlkaaGreatDoor

/- Tokens with blanks between: plain laws. -/
namespace Go.Proofs.YtpfbljkfbjjlkaaGreatDoor
open Go Go.Jq
set_option maxRecDepth 100000
set_option linter.unusedSimpArgs false
end Go.Proofs.YtpfbljkfbjjlkaaGreatDoor

/- Rows of tokens: plain laws. -/
namespace Go.Proofs.YtpfbljkfbjjlkaaGreatDoor
open Go Go.Jq
set_option maxRecDepth 100000
set_option linter.unusedSimpArgs false
theorem next_text {s : List UInt8} {a e : Nat} {t : Tok} (ha : a ≤ s.length) (h : nextW s a = (t, e, 0)) : t.pl = skipA s a ∧ t.tx = (s.drop t.pl).take t.tx.length ∧ e = t.pl + t.tx.length ∧ a ≤ t.pl ∧ e ≤ s.length ∧ (t.kd = 4 ↔ t.pl = s.length) ∧ (t.kd = 4 → t.tx = [] ∧ e = s.length) := by
  have h1 := tokAt_text (skipA s a) (s.drop (skipA s a)) (by unfold nextW at h; rw [h])
  have h2 := nextW_to ha
  have h3 := skipA_le ha
  have h4 := le_skipA s a
  unfold nextW at h
  rw [h] at h1
  rw [show nextW s a = (t, e, 0) from h] at h2
  simp only at h1 h2
  obtain ⟨p1, p2, p3, p4⟩ := h1
  have hk : t.kd = 4 ↔ t.pl = s.length := by
    rw [p4, p1]
    constructor
    · intro h5
      have := congrArg List.length h5
      rw [List.length_drop, List.length_nil] at this
      omega
    · intro h5; rw [h5, List.drop_length]
  have ht : t.tx = (s.drop t.pl).take t.tx.length := by
    have : e - skipA s a = t.tx.length := by omega
    rw [p1, ← this]
    exact p2
  refine ⟨p1, ht, by omega, by omega, h2.2.1, hk, fun h5 => ?_⟩
  have h6 := hk.1 h5
  have : t.tx = [] := by
    rw [ht, h6, List.drop_length, List.take_nil]
  refine ⟨this, ?_⟩
  rw [this] at p3
  simp at p3
  omega
end Go.Proofs.YtpfbljkfbjjlkaaGreatDoor
