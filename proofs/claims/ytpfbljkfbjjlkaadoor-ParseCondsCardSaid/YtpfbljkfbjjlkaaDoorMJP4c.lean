/- What the statement's proof leans on, part 3: the layer, the walks, the plain laws. -/
import Derived.Test.YtpfbljkfbjjlkaaDoorProg
import Derived.Test.YtpfbljkfbjjlkaaDoorMJP4b
import Derived.KernelRfl
import Derived.Shelf.Small.Strs
import Derived.Shelf.Strconv.Itoa0
import Derived.Shelf.Strconv.Itoa1
import Derived.Shelf.LaysM
import Derived.Shelf.Strconv.Itoa2
import Derived.Shelf.Strconv.Itoa3
import Derived.Shelf.Strconv.Itoa4
import Derived.Shelf.Strconv.ParseIntEmpty
import Derived.Shelf.Strconv.Clone
import Derived.Shelf.Strconv.SyntaxError
import Derived.Shelf.LaysC
import Derived.Shelf.Strconv.ToError
import Derived.Shelf.Strconv.Lower
import Derived.Shelf.Strconv.ParseUint10
import Derived.Shelf.Strconv.ParseUint10Empty
import Derived.Shelf.Strconv.ParseUint10Any
import Derived.Shelf.Strconv.ParseInt10
import Derived.Shelf.Strconv.RangeError
import Derived.Shelf.Strconv.ToErrorRange
import Derived.Shelf.Strconv.ParseUintEmpty
import Derived.Shelf.Strconv.ParseUint10b64
import Derived.Shelf.Strconv.ParseUint10b32
import Derived.Shelf.Strconv.ParseUint10b16
import Derived.Shelf.Strconv.ParseUint10b8
import Derived.Shelf.Strconv.ParseUint10At
import Derived.Shelf.Strconv.ParseInt10At64
import Derived.Shelf.Strconv.ParseInt10At32
import Derived.Shelf.Strconv.ParseInt10At16
import Derived.Shelf.Strconv.ParseInt10At8
import Derived.Shelf.Strconv.ParseInt10All
import Derived.Shelf.Strconv.ParseIntPublic10
import Derived.Shelf.Strconv.ErrVarParseInt
import Derived.Shelf.Strings.Search1
import Derived.OpenShut
import Derived.ChangeOld
import Derived.Below
import Derived.ProofKit
import Derived.ChangeShapes
import Derived.Test.YtpfbljkfbjjlkaaDoorRows
import Derived.Test.YtpfbljkfbjjlkaaDoorTie
import Derived.LaidMore
import Derived.Stop.Joined
import Derived.Carry
import Derived.Lib.LaidTab
import Derived.SevenTiedAt
import Derived.SizedLaws
import Derived.RegionTactic
import Derived.Deep.RegionWith
import Derived.Lib.Join
set_option linter.unusedSimpArgs false
set_option linter.unusedVariables false

/- The functions' code with its types resolved, as the layer's 'cCode' gives it. Written by a program of this session's (wip/x/dump.lean). -/
namespace Go.Proofs.YtpfbljkfbjjlkaaDoor
open Go Go.Jq
set_option maxRecDepth 100000

-- 3 jacquard/jacquardlaw2.LexOne
-- 4 jacquard/jacquardlaw2.LexLongest
-- 5 jacquard/jacquardlaw2.LexNumbers
-- 6 jacquard/jacquardlaw2.LexStands
-- 7 jacquard/jacquardlaw2.LexJoins
-- 8 jacquard/jacquardlaw2.LexBounds
-- 9 jacquard/jacquardlaw2.LexReader
-- 10 jacquard/jacquardlaw2.LexAll
-- 16 jacquard/lex.All
-- 17 jacquard/jacquardref2.All
-- 18 jacquard/jacquardlaw2.awake
-- 19 jacquard/jacquardref2.Text
def ac19L0 : ACode := (.seq (.seq (.region false [ ⟨(some 14), .mv (.t 3), none⟩, ⟨(some 15), .bin .gtr (.t 14) (.c (.d (.int .u64 9))), none⟩] []) (.cond (.t 15) .skip (.exit 0))) (.block 1 (.seq (.region false [ ⟨(some 16), .mv (.t 3), none⟩, ⟨(some 17), .bin .rem (.t 16) (.c (.d (.int .u64 10))), none⟩, ⟨(some 18), .cvi .i64 (.t 17), none⟩, ⟨(some 6), .mv (.t 18), none⟩] []) (.seq (.region false [ ⟨(some 19), .mv (.t 6), none⟩, ⟨(some 20), .mv (.t 6), none⟩, ⟨(some 21), .bin .add (.t 20) (.c (.d (.int .i64 1))), none⟩, ⟨(some 22), .slcs (.c (.d (.str [48, 49, 50, 51, 52, 53, 54, 55, 56, 57]))) (some (.t 19)) (some (.t 21)), none⟩, ⟨(some 23), .mv (.t 5), none⟩, ⟨(some 24), .bin .add (.t 22) (.t 23), none⟩, ⟨(some 5), .mv (.t 24), none⟩] []) (.region false [ ⟨(some 25), .mv (.t 3), none⟩, ⟨(some 26), .bin .quo (.t 25) (.c (.d (.int .u64 10))), none⟩, ⟨(some 3), .mv (.t 26), none⟩] [])))))
def ac19 : ACode := (.seq (.region false [ ⟨(some 2), .mv (.c (.d (.str []))), none⟩] []) (.seq (.region false [ ⟨(some 8), .mv (.t 0), none⟩, ⟨(some 9), .cvi .u64 (.t 8), none⟩, ⟨(some 3), .mv (.t 9), none⟩] []) (.seq (.region false [ ⟨(some 4), .mv (.c (.d (.str []))), none⟩] []) (.seq (.seq (.region false [ ⟨(some 10), .mv (.t 0), none⟩, ⟨(some 11), .bin .lss (.t 10) (.c (.d (.int .i64 0))), none⟩] []) (.cond (.t 11) (.seq (.region false [ ⟨(some 12), .mv (.t 3), none⟩, ⟨(some 13), .un .neg (.t 12), none⟩, ⟨(some 3), .mv (.t 13), none⟩] []) (.region false [ ⟨(some 4), .mv (.c (.d (.str [45]))), none⟩] [])) .skip)) (.seq (.region false [ ⟨(some 5), .mv (.c (.d (.str []))), none⟩] []) (.seq (.block 0 (.loop ac19L0)) (.seq (.region false [ ⟨(some 27), .mv (.t 3), none⟩, ⟨(some 28), .cvi .i64 (.t 27), none⟩, ⟨(some 7), .mv (.t 28), none⟩] []) (.seq (.region false [ ⟨(some 29), .mv (.t 4), none⟩, ⟨(some 30), .mv (.t 7), none⟩, ⟨(some 31), .mv (.t 7), none⟩, ⟨(some 32), .bin .add (.t 31) (.c (.d (.int .i64 1))), none⟩, ⟨(some 33), .slcs (.c (.d (.str [48, 49, 50, 51, 52, 53, 54, 55, 56, 57]))) (some (.t 30)) (some (.t 32)), none⟩, ⟨(some 34), .bin .add (.t 29) (.t 33), none⟩, ⟨(some 35), .mv (.t 5), none⟩, ⟨(some 36), .bin .add (.t 34) (.t 35), none⟩, ⟨(some 2), .mv (.t 36), none⟩] []) .ret))))))))
theorem ac19_ok : Tryd.f19.body.bind (cCode Tryd.prog Tryd.f19.ntmps) = some ac19 := by kernel_rfl

-- 20 jacquard/lex.New
def ac20 : ACode := (.seq (.region false [ ⟨(some 2), .mv (.c (.d .nptr)), none⟩] []) (.seq (.region false [ ⟨(some 3), .mv (.t 0), none⟩, ⟨(some 4), .build [(.d (.str [])), (.d (.int .i64 0)), (.d (.int .i64 0)), (.d (.int .i64 0)), (.d (.int .i64 0))] [(0, 1, (.t 3))], none⟩, ⟨(some 5), .box (.t 4), none⟩, ⟨(some 2), .mv (.t 5), none⟩] []) .ret))
theorem ac20_ok : Tryd.f20.body.bind (cCode Tryd.prog Tryd.f20.ntmps) = some ac20 := by kernel_rfl

-- 21 (*jacquard/lex.Lexer).Read
-- 22 (*jacquard/lex.Lexer).Next
def ac22 : ACode := (.seq (.region false [ ⟨(some 2), .alloc [(.d (.int .i64 0)), (.d (.str [])), (.d (.int .i64 0))], none⟩, ⟨(some 3), .alloc [(.d (.int .i64 0)), (.d (.int .i64 0))], none⟩] []) (.seq (.seq (.region false [ ⟨(some 10), .mv (.t 0), none⟩, ⟨(some 11), .nilck (.t 10), none⟩, ⟨(some 12), .faddr (.t 11) 3, none⟩, ⟨(some 13), .faddr (.t 12) 0, none⟩, ⟨(some 14), .load none (.t 13), none⟩, ⟨(some 15), .bin .neq (.t 14) (.c (.d (.int .i64 0))), none⟩] []) (.cond (.t 15) (.seq (.region true [ ⟨(some 16), .build [(.d (.int .i64 0)), (.d (.str [])), (.d (.int .i64 0))] [], none⟩, ⟨(some 17), .mv (.t 0), none⟩, ⟨(some 18), .nilck (.t 17), none⟩, ⟨(some 19), .faddr (.t 18) 3, none⟩, ⟨(some 20), .load (some 2) (.t 19), none⟩, ⟨none, .store 3 (.t 2) (.t 16), none⟩, ⟨none, .store 2 (.t 3) (.t 20), none⟩] [0, 0, 2, 4, 8, 1, 63]) .ret) .skip)) (.seq (.region false [ ⟨(some 21), .mv (.t 0), none⟩, ⟨(some 22), .callf 32 [(.t 21)], none⟩] []) (.seq (.seq (.region false [ ⟨(some 23), .mv (.t 0), none⟩, ⟨(some 24), .mv (.t 0), none⟩, ⟨(some 25), .nilck (.t 24), none⟩, ⟨(some 26), .faddr (.t 25) 1, none⟩, ⟨(some 27), .load none (.t 26), none⟩, ⟨(some 28), .callf 33 [(.t 23), (.t 27)], none⟩, ⟨(some 29), .un .not (.t 28), none⟩] []) (.cond (.t 29) (.seq (.region false [ ⟨(some 30), .mv (.t 0), none⟩, ⟨(some 31), .nilck (.t 30), none⟩, ⟨(some 32), .faddr (.t 31) 1, none⟩, ⟨(some 33), .load none (.t 32), none⟩, ⟨(some 34), .build [(.d (.int .i64 0)), (.d (.str [])), (.d (.int .i64 0))] [(0, 1, (.c (.d (.int .i64 4)))), (2, 1, (.t 33))], none⟩, ⟨(some 35), .build [(.d (.int .i64 0)), (.d (.int .i64 0))] [], none⟩, ⟨none, .store 3 (.t 2) (.t 34), none⟩, ⟨none, .store 2 (.t 3) (.t 35), none⟩] []) .ret) .skip)) (.seq (.region false [ ⟨(some 36), .mv (.t 0), none⟩, ⟨(some 37), .mv (.t 0), none⟩, ⟨(some 38), .nilck (.t 37), none⟩, ⟨(some 39), .faddr (.t 38) 1, none⟩, ⟨(some 40), .load none (.t 39), none⟩, ⟨(some 41), .callf 34 [(.t 36), (.t 40)], none⟩, ⟨(some 4), .mv (.t 41), none⟩] []) (.seq (.region false [ ⟨(some 42), .mv (.t 0), none⟩, ⟨(some 43), .nilck (.t 42), none⟩, ⟨(some 44), .faddr (.t 43) 1, none⟩, ⟨(some 45), .load none (.t 44), none⟩, ⟨(some 46), .build [(.d (.int .i64 0)), (.d (.str [])), (.d (.int .i64 0))] [(2, 1, (.t 45))], none⟩, ⟨(some 5), .alloc [(.d (.int .i64 0)), (.d (.str [])), (.d (.int .i64 0))], none⟩, ⟨none, .store 3 (.t 5) (.t 46), none⟩] []) (.seq (.region false [ ⟨(some 47), .mv (.t 0), none⟩, ⟨(some 48), .nilck (.t 47), none⟩, ⟨(some 49), .faddr (.t 48) 1, none⟩, ⟨(some 50), .load none (.t 49), none⟩, ⟨(some 6), .mv (.t 50), none⟩] []) (.seq (.block 0 (.seq (.region false [ ⟨(some 68), .mv (.t 4), none⟩, ⟨(some 69), .callf 35 [(.t 68)], none⟩, ⟨(some 70), .bin .eql (.t 69) (.c (.d (.int .i64 2))), none⟩, ⟨(some 67), .mv (.t 70), none⟩] []) (.cond (.t 67) (.region false [ ⟨(some 71), .mv (.t 0), none⟩, ⟨(some 72), .mv (.t 0), none⟩, ⟨(some 73), .nilck (.t 72), none⟩, ⟨(some 74), .faddr (.t 73) 1, none⟩, ⟨(some 75), .load none (.t 74), none⟩, ⟨(some 76), .callf 36 [(.t 71), (.t 75)], none⟩, ⟨(some 77), .faddr (.t 5) 0, none⟩, ⟨none, .store 1 (.t 77) (.c (.d (.int .i64 1))), none⟩, ⟨(some 6), .mv (.t 76), none⟩] []) (.seq (.region false [ ⟨(some 79), .mv (.t 4), none⟩, ⟨(some 80), .callf 35 [(.t 79)], none⟩, ⟨(some 81), .bin .eql (.t 80) (.c (.d (.int .i64 3))), none⟩, ⟨(some 82), .mv (.t 81), none⟩, ⟨(some 83), .mv (.t 4), (some (82, false))⟩, ⟨(some 84), .bin .eql (.t 83) (.c (.d (.int .u8 45))), (some (82, false))⟩, ⟨(some 85), .mv (.t 84), (some (82, false))⟩, ⟨(some 86), .mv (.t 0), (some (85, true))⟩, ⟨(some 87), .mv (.t 0), (some (85, true))⟩, ⟨(some 88), .nilck (.t 87), (some (85, true))⟩, ⟨(some 89), .faddr (.t 88) 1, (some (85, true))⟩, ⟨(some 90), .load none (.t 89), (some (85, true))⟩, ⟨(some 91), .bin .add (.t 90) (.c (.d (.int .i64 1))), (some (85, true))⟩, ⟨(some 92), .callf 34 [(.t 86), (.t 91)], (some (85, true))⟩, ⟨(some 93), .callf 35 [(.t 92)], (some (85, true))⟩, ⟨(some 94), .bin .eql (.t 93) (.c (.d (.int .i64 3))), (some (85, true))⟩, ⟨(some 95), .pick (.t 85) (.t 94) (.c (.d (.bool false))), (some (82, false))⟩, ⟨(some 96), .pick (.t 82) (.c (.d (.bool true))) (.t 95), none⟩, ⟨(some 78), .mv (.t 96), none⟩] []) (.cond (.t 78) (.seq (.region false [ ⟨(some 97), .mv (.t 0), none⟩, ⟨(some 98), .mv (.t 0), none⟩, ⟨(some 99), .nilck (.t 98), none⟩, ⟨(some 100), .faddr (.t 99) 1, none⟩, ⟨(some 101), .load none (.t 100), none⟩, ⟨(some 102), .bin .add (.t 101) (.c (.d (.int .i64 1))), none⟩, ⟨(some 103), .callf 36 [(.t 97), (.t 102)], none⟩, ⟨(some 104), .faddr (.t 5) 0, none⟩, ⟨none, .store 1 (.t 104) (.c (.d (.int .i64 2))), none⟩, ⟨(some 6), .mv (.t 103), none⟩] []) (.seq (.region true [ ⟨(some 106), .mv (.t 0), none⟩, ⟨(some 107), .nilck (.t 106), none⟩, ⟨(some 108), .faddr (.t 107) 0, none⟩, ⟨(some 109), .load none (.t 108), none⟩, ⟨(some 110), .mv (.t 0), none⟩, ⟨(some 111), .nilck (.t 110), none⟩, ⟨(some 112), .faddr (.t 111) 1, none⟩, ⟨(some 113), .load none (.t 112), none⟩, ⟨(some 114), .mv (.t 6), none⟩, ⟨(some 115), .slcs (.t 109) (some (.t 113)) (some (.t 114)), none⟩, ⟨(some 116), .callf 37 [(.t 115)], none⟩, ⟨(some 105), .mv (.t 116), none⟩, ⟨(some 117), .ext (.t 105) 0, none⟩, ⟨(some 118), .ext (.t 105) 1, none⟩, ⟨(some 7), .mv (.t 117), none⟩, ⟨(some 8), .mv (.t 118), none⟩] [0, 1, 2, 4, 0, 16, 32, 64, 0, 392, 512, 1024, 2048, 2048, 8191, 32767]) (.seq (.region false [ ⟨(some 119), .mv (.t 8), none⟩, ⟨(some 120), .un .not (.t 119), none⟩] []) (.cond (.t 120) (.seq (.region false [ ⟨(some 121), .mv (.t 0), none⟩, ⟨(some 122), .callf 38 [(.t 121), (.c (.d (.int .i64 5)))], none⟩, ⟨(some 123), .ext (.t 122) 0, none⟩, ⟨(some 124), .ext (.t 122) 1, none⟩, ⟨none, .store 3 (.t 2) (.t 123), none⟩, ⟨none, .store 2 (.t 3) (.t 124), none⟩] []) .ret) .skip)))) (.seq (.region false [ ⟨(some 51), .mv (.t 0), none⟩, ⟨(some 52), .callf 39 [(.t 51)], none⟩, ⟨(some 9), .mv (.t 52), none⟩] []) (.seq (.seq (.region false [ ⟨(some 53), .mv (.t 9), none⟩, ⟨(some 54), .bin .eql (.t 53) (.c (.d (.str []))), none⟩] []) (.cond (.t 54) (.seq (.region false [ ⟨(some 55), .mv (.t 0), none⟩, ⟨(some 56), .callf 38 [(.t 55), (.c (.d (.int .i64 4)))], none⟩, ⟨(some 57), .ext (.t 56) 0, none⟩, ⟨(some 58), .ext (.t 56) 1, none⟩, ⟨none, .store 3 (.t 2) (.t 57), none⟩, ⟨none, .store 2 (.t 3) (.t 58), none⟩] []) .ret) .skip)) (.region true [ ⟨(some 59), .mv (.t 0), none⟩, ⟨(some 60), .nilck (.t 59), none⟩, ⟨(some 61), .faddr (.t 60) 1, none⟩, ⟨(some 62), .load none (.t 61), none⟩, ⟨(some 63), .mv (.t 9), none⟩, ⟨(some 64), .lens (.t 63), none⟩, ⟨(some 65), .bin .add (.t 62) (.t 64), none⟩, ⟨(some 66), .faddr (.t 5) 0, none⟩, ⟨none, .store 1 (.t 66) (.c (.d (.int .i64 3))), none⟩, ⟨(some 6), .mv (.t 65), none⟩] [0, 1, 2, 4, 0, 16, 40, 0, 128, 511])))))))) (.seq (.region true [ ⟨(some 125), .mv (.t 0), none⟩, ⟨(some 126), .mv (.t 0), none⟩, ⟨(some 127), .nilck (.t 126), none⟩, ⟨(some 128), .faddr (.t 127) 0, none⟩, ⟨(some 129), .load none (.t 128), none⟩, ⟨(some 130), .mv (.t 0), none⟩, ⟨(some 131), .nilck (.t 130), none⟩, ⟨(some 132), .faddr (.t 131) 1, none⟩, ⟨(some 133), .load none (.t 132), none⟩, ⟨(some 134), .mv (.t 6), none⟩, ⟨(some 135), .slcs (.t 129) (some (.t 133)) (some (.t 134)), none⟩, ⟨(some 136), .mv (.t 6), none⟩, ⟨(some 137), .faddr (.t 5) 1, none⟩, ⟨none, .store 1 (.t 137) (.t 135), none⟩, ⟨(some 138), .nilck (.t 125), none⟩, ⟨(some 139), .faddr (.t 138) 1, none⟩, ⟨none, .store 1 (.t 139) (.t 136), none⟩] [0, 0, 2, 4, 8, 0, 32, 64, 128, 0, 784, 0, 2046, 6142, 16383, 32767, 49151]) (.seq (.region false [ ⟨(some 140), .load (some 3) (.t 5), none⟩, ⟨(some 141), .build [(.d (.int .i64 0)), (.d (.int .i64 0))] [], none⟩, ⟨none, .store 3 (.t 2) (.t 140), none⟩, ⟨none, .store 2 (.t 3) (.t 141), none⟩] []) .ret))))))))))
theorem ac22_ok : Tryd.f22.body.bind (cCode Tryd.prog Tryd.f22.ntmps) = some ac22 := by kernel_rfl

-- 23 jacquard/jacquardref2.Next
-- 31 jacquard/lex.Long
def ac31 : ACode := (.seq (.region false [ ⟨(some 2), .alloc [(.d (.int .i64 0)), (.d (.int .i64 0))], none⟩] []) (.seq (.seq (.region false [ ⟨(some 3), .mv (.t 0), none⟩, ⟨(some 4), .lens (.t 3), none⟩, ⟨(some 5), .bin .gtr (.t 4) (.c (.d (.int .i64 4000))), none⟩] []) (.cond (.t 5) (.seq (.region false [ ⟨(some 6), .build [(.d (.int .i64 0)), (.d (.int .i64 0))] [(0, 1, (.c (.d (.int .i64 2)))), (1, 1, (.c (.d (.int .i64 4000))))], none⟩, ⟨none, .store 2 (.t 2) (.t 6), none⟩] []) .ret) .skip)) (.seq (.region false [ ⟨(some 7), .build [(.d (.int .i64 0)), (.d (.int .i64 0))] [], none⟩, ⟨none, .store 2 (.t 2) (.t 7), none⟩] []) .ret)))
theorem ac31_ok : Tryd.f31.body.bind (cCode Tryd.prog Tryd.f31.ntmps) = some ac31 := by kernel_rfl

-- 32 (*jacquard/lex.Lexer).skip
def ac32L0 : ACode := (.seq (.seq (.region false [ ⟨(some 18), .mv (.t 0), none⟩, ⟨(some 19), .mv (.t 0), none⟩, ⟨(some 20), .nilck (.t 19), none⟩, ⟨(some 21), .faddr (.t 20) 1, none⟩, ⟨(some 22), .load none (.t 21), none⟩, ⟨(some 23), .callf 33 [(.t 18), (.t 22)], none⟩, ⟨(some 24), .mv (.t 23), none⟩, ⟨(some 25), .mv (.t 0), (some (24, true))⟩, ⟨(some 26), .mv (.t 0), (some (24, true))⟩, ⟨(some 27), .nilck (.t 26), (some (24, true))⟩, ⟨(some 28), .faddr (.t 27) 1, (some (24, true))⟩, ⟨(some 29), .load none (.t 28), (some (24, true))⟩, ⟨(some 30), .callf 34 [(.t 25), (.t 29)], (some (24, true))⟩, ⟨(some 31), .bin .neq (.t 30) (.c (.d (.int .u8 10))), (some (24, true))⟩, ⟨(some 32), .pick (.t 24) (.t 31) (.c (.d (.bool false))), none⟩] []) (.cond (.t 32) .skip (.exit 3))) (.block 4 (.region false [ ⟨(some 33), .mv (.t 0), none⟩, ⟨(some 34), .nilck (.t 33), none⟩, ⟨(some 35), .faddr (.t 34) 1, none⟩, ⟨(some 36), .load none (.t 35), none⟩, ⟨(some 37), .bin .add (.t 36) (.c (.d (.int .i64 1))), none⟩, ⟨(some 38), .nilck (.t 33), none⟩, ⟨(some 39), .faddr (.t 38) 1, none⟩, ⟨none, .store 1 (.t 39) (.t 37), none⟩] [])))
def ac32L1 : ACode := (.seq (.seq (.region false [ ⟨(some 3), .mv (.t 0), none⟩, ⟨(some 4), .mv (.t 0), none⟩, ⟨(some 5), .nilck (.t 4), none⟩, ⟨(some 6), .faddr (.t 5) 1, none⟩, ⟨(some 7), .load none (.t 6), none⟩, ⟨(some 8), .callf 33 [(.t 3), (.t 7)], none⟩] []) (.cond (.t 8) .skip (.exit 0))) (.block 1 (.seq (.region false [ ⟨(some 9), .mv (.t 0), none⟩, ⟨(some 10), .mv (.t 0), none⟩, ⟨(some 11), .nilck (.t 10), none⟩, ⟨(some 12), .faddr (.t 11) 1, none⟩, ⟨(some 13), .load none (.t 12), none⟩, ⟨(some 14), .callf 34 [(.t 9), (.t 13)], none⟩, ⟨(some 2), .mv (.t 14), none⟩] []) (.block 2 (.seq (.region false [ ⟨(some 16), .mv (.t 2), none⟩, ⟨(some 17), .bin .eql (.t 16) (.c (.d (.int .u8 35))), none⟩, ⟨(some 15), .mv (.t 17), none⟩] []) (.cond (.t 15) (.block 3 (.loop ac32L0)) (.seq (.region false [ ⟨(some 41), .mv (.t 2), none⟩, ⟨(some 42), .callf 35 [(.t 41)], none⟩, ⟨(some 43), .bin .eql (.t 42) (.c (.d (.int .i64 1))), none⟩, ⟨(some 40), .mv (.t 43), none⟩] []) (.cond (.t 40) (.region false [ ⟨(some 44), .mv (.t 0), none⟩, ⟨(some 45), .nilck (.t 44), none⟩, ⟨(some 46), .faddr (.t 45) 1, none⟩, ⟨(some 47), .load none (.t 46), none⟩, ⟨(some 48), .bin .add (.t 47) (.c (.d (.int .i64 1))), none⟩, ⟨(some 49), .nilck (.t 44), none⟩, ⟨(some 50), .faddr (.t 49) 1, none⟩, ⟨none, .store 1 (.t 50) (.t 48), none⟩] []) .ret))))))))
def ac32 : ACode := (.block 0 (.loop ac32L1))
theorem ac32_ok : Tryd.f32.body.bind (cCode Tryd.prog Tryd.f32.ntmps) = some ac32 := by kernel_rfl

-- 33 (*jacquard/lex.Lexer).has
def ac33 : ACode := (.seq (.region false [ ⟨(some 4), .mv (.c (.d (.bool false))), none⟩] []) (.seq (.region false [ ⟨(some 5), .mv (.t 1), none⟩, ⟨(some 6), .mv (.t 0), none⟩, ⟨(some 7), .nilck (.t 6), none⟩, ⟨(some 8), .faddr (.t 7) 0, none⟩, ⟨(some 9), .load none (.t 8), none⟩, ⟨(some 10), .lens (.t 9), none⟩, ⟨(some 11), .bin .lss (.t 5) (.t 10), none⟩, ⟨(some 4), .mv (.t 11), none⟩] []) .ret))
theorem ac33_ok : Tryd.f33.body.bind (cCode Tryd.prog Tryd.f33.ntmps) = some ac33 := by kernel_rfl

-- 34 (*jacquard/lex.Lexer).peek
def ac34 : ACode := (.seq (.region false [ ⟨(some 4), .mv (.c (.d (.int .u8 0))), none⟩] []) (.seq (.seq (.region false [ ⟨(some 5), .mv (.t 1), none⟩, ⟨(some 6), .mv (.t 0), none⟩, ⟨(some 7), .nilck (.t 6), none⟩, ⟨(some 8), .faddr (.t 7) 0, none⟩, ⟨(some 9), .load none (.t 8), none⟩, ⟨(some 10), .lens (.t 9), none⟩, ⟨(some 11), .bin .geq (.t 5) (.t 10), none⟩] []) (.cond (.t 11) (.seq (.region false [ ⟨(some 4), .mv (.c (.d (.int .u8 0))), none⟩] []) .ret) .skip)) (.seq (.region false [ ⟨(some 12), .mv (.t 0), none⟩, ⟨(some 13), .mv (.t 0), none⟩, ⟨(some 14), .nilck (.t 13), none⟩, ⟨(some 15), .faddr (.t 14) 2, none⟩, ⟨(some 16), .load none (.t 15), none⟩, ⟨(some 17), .mv (.t 1), none⟩, ⟨(some 18), .bin .add (.t 17) (.c (.d (.int .i64 1))), none⟩, ⟨(some 19), .maxI (.t 16) (.t 18), none⟩, ⟨(some 20), .nilck (.t 12), none⟩, ⟨(some 21), .faddr (.t 20) 2, none⟩, ⟨none, .store 1 (.t 21) (.t 19), none⟩] []) (.seq (.region false [ ⟨(some 22), .mv (.t 0), none⟩, ⟨(some 23), .nilck (.t 22), none⟩, ⟨(some 24), .faddr (.t 23) 0, none⟩, ⟨(some 25), .load none (.t 24), none⟩, ⟨(some 26), .mv (.t 1), none⟩, ⟨(some 27), .idxs (.t 25) (.t 26), none⟩, ⟨(some 4), .mv (.t 27), none⟩] []) .ret))))
theorem ac34_ok : Tryd.f34.body.bind (cCode Tryd.prog Tryd.f34.ntmps) = some ac34 := by kernel_rfl

-- 35 jacquard/lex.kind
def ac35 : ACode := (.seq (.region false [ ⟨(some 2), .mv (.c (.d (.int .i64 0))), none⟩] []) (.seq (.block 0 (.seq (.region false [ ⟨(some 4), .mv (.t 0), none⟩, ⟨(some 5), .bin .eql (.t 4) (.c (.d (.int .u8 32))), none⟩, ⟨(some 6), .mv (.t 5), none⟩, ⟨(some 7), .mv (.t 0), (some (6, false))⟩, ⟨(some 8), .bin .eql (.t 7) (.c (.d (.int .u8 9))), (some (6, false))⟩, ⟨(some 9), .pick (.t 6) (.c (.d (.bool true))) (.t 8), none⟩, ⟨(some 10), .mv (.t 9), none⟩, ⟨(some 11), .mv (.t 0), (some (10, false))⟩, ⟨(some 12), .bin .eql (.t 11) (.c (.d (.int .u8 10))), (some (10, false))⟩, ⟨(some 13), .pick (.t 10) (.c (.d (.bool true))) (.t 12), none⟩, ⟨(some 3), .mv (.t 13), none⟩] []) (.cond (.t 3) (.seq (.region false [ ⟨(some 2), .mv (.c (.d (.int .i64 1))), none⟩] []) .ret) (.seq (.region false [ ⟨(some 15), .mv (.t 0), none⟩, ⟨(some 16), .bin .geq (.t 15) (.c (.d (.int .u8 97))), none⟩, ⟨(some 17), .mv (.t 16), none⟩, ⟨(some 18), .mv (.t 0), (some (17, true))⟩, ⟨(some 19), .bin .leq (.t 18) (.c (.d (.int .u8 122))), (some (17, true))⟩, ⟨(some 20), .pick (.t 17) (.t 19) (.c (.d (.bool false))), none⟩, ⟨(some 14), .mv (.t 20), none⟩] []) (.cond (.t 14) (.seq (.region false [ ⟨(some 2), .mv (.c (.d (.int .i64 2))), none⟩] []) .ret) (.seq (.region false [ ⟨(some 22), .mv (.t 0), none⟩, ⟨(some 23), .bin .geq (.t 22) (.c (.d (.int .u8 48))), none⟩, ⟨(some 24), .mv (.t 23), none⟩, ⟨(some 25), .mv (.t 0), (some (24, true))⟩, ⟨(some 26), .bin .leq (.t 25) (.c (.d (.int .u8 57))), (some (24, true))⟩, ⟨(some 27), .pick (.t 24) (.t 26) (.c (.d (.bool false))), none⟩, ⟨(some 21), .mv (.t 27), none⟩] []) (.cond (.t 21) (.seq (.region false [ ⟨(some 2), .mv (.c (.d (.int .i64 3))), none⟩] []) .ret) .skip))))))) (.seq (.region false [ ⟨(some 2), .mv (.c (.d (.int .i64 0))), none⟩] []) .ret)))
theorem ac35_ok : Tryd.f35.body.bind (cCode Tryd.prog Tryd.f35.ntmps) = some ac35 := by kernel_rfl

-- 36 (*jacquard/lex.Lexer).run
def ac36L0 : ACode := (.seq (.seq (.region false [ ⟨(some 5), .mv (.t 0), none⟩, ⟨(some 6), .mv (.t 1), none⟩, ⟨(some 7), .callf 33 [(.t 5), (.t 6)], none⟩, ⟨(some 8), .mv (.t 7), none⟩, ⟨(some 9), .mv (.t 0), (some (8, true))⟩, ⟨(some 10), .mv (.t 1), (some (8, true))⟩, ⟨(some 11), .callf 34 [(.t 9), (.t 10)], (some (8, true))⟩, ⟨(some 12), .callf 35 [(.t 11)], (some (8, true))⟩, ⟨(some 13), .bin .geq (.t 12) (.c (.d (.int .i64 2))), (some (8, true))⟩, ⟨(some 14), .pick (.t 8) (.t 13) (.c (.d (.bool false))), none⟩] []) (.cond (.t 14) .skip (.exit 0))) (.block 1 (.region false [ ⟨(some 15), .mv (.t 1), none⟩, ⟨(some 16), .bin .add (.t 15) (.c (.d (.int .i64 1))), none⟩, ⟨(some 1), .mv (.t 16), none⟩] [])))
def ac36 : ACode := (.seq (.region false [ ⟨(some 4), .mv (.c (.d (.int .i64 0))), none⟩] []) (.seq (.block 0 (.loop ac36L0)) (.seq (.region false [ ⟨(some 17), .mv (.t 1), none⟩, ⟨(some 4), .mv (.t 17), none⟩] []) .ret)))
theorem ac36_ok : Tryd.f36.body.bind (cCode Tryd.prog Tryd.f36.ntmps) = some ac36 := by kernel_rfl

-- 38 (*jacquard/lex.Lexer).fail
def ac38 : ACode := (.seq (.region false [ ⟨(some 4), .alloc [(.d (.int .i64 0)), (.d (.str [])), (.d (.int .i64 0))], none⟩, ⟨(some 5), .alloc [(.d (.int .i64 0)), (.d (.int .i64 0))], none⟩] []) (.seq (.region false [ ⟨(some 6), .mv (.t 0), none⟩, ⟨(some 7), .mv (.t 1), none⟩, ⟨(some 8), .mv (.t 0), none⟩, ⟨(some 9), .nilck (.t 8), none⟩, ⟨(some 10), .faddr (.t 9) 1, none⟩, ⟨(some 11), .load none (.t 10), none⟩, ⟨(some 12), .build [(.d (.int .i64 0)), (.d (.int .i64 0))] [(0, 1, (.t 7)), (1, 1, (.t 11))], none⟩, ⟨(some 13), .nilck (.t 6), none⟩, ⟨(some 14), .faddr (.t 13) 3, none⟩, ⟨none, .store 2 (.t 14) (.t 12), none⟩] []) (.seq (.region true [ ⟨(some 15), .build [(.d (.int .i64 0)), (.d (.str [])), (.d (.int .i64 0))] [], none⟩, ⟨(some 16), .mv (.t 0), none⟩, ⟨(some 17), .nilck (.t 16), none⟩, ⟨(some 18), .faddr (.t 17) 3, none⟩, ⟨(some 19), .load (some 2) (.t 18), none⟩, ⟨none, .store 3 (.t 4) (.t 15), none⟩, ⟨none, .store 2 (.t 5) (.t 19), none⟩] [0, 0, 2, 4, 8, 1, 63]) .ret)))
theorem ac38_ok : Tryd.f38.body.bind (cCode Tryd.prog Tryd.f38.ntmps) = some ac38 := by kernel_rfl

-- 39 (*jacquard/lex.Lexer).sign
def ac39 : ACode := (.seq (.region false [ ⟨(some 2), .mv (.c (.d (.str []))), none⟩] []) (.seq (.region false [ ⟨(some 6), .mv (.t 0), none⟩, ⟨(some 7), .mv (.t 0), none⟩, ⟨(some 8), .nilck (.t 7), none⟩, ⟨(some 9), .faddr (.t 8) 1, none⟩, ⟨(some 10), .load none (.t 9), none⟩, ⟨(some 11), .callf 34 [(.t 6), (.t 10)], none⟩, ⟨(some 3), .mv (.t 11), none⟩] []) (.seq (.seq (.region false [ ⟨(some 12), .mv (.t 3), none⟩] []) (.block 0 (.seq (.seq (.region false [ ⟨(some 14), .bin .eql (.t 12) (.c (.d (.int .u8 60))), none⟩, ⟨(some 13), .mv (.t 14), none⟩] []) (.cond (.t 13) .skip (.seq (.region false [ ⟨(some 15), .bin .eql (.t 12) (.c (.d (.int .u8 62))), none⟩, ⟨(some 13), .mv (.t 15), none⟩] []) (.cond (.t 13) .skip (.seq (.region false [ ⟨(some 16), .bin .eql (.t 12) (.c (.d (.int .u8 61))), none⟩, ⟨(some 13), .mv (.t 16), none⟩] []) (.cond (.t 13) .skip (.region false [ ⟨(some 17), .bin .eql (.t 12) (.c (.d (.int .u8 33))), none⟩, ⟨(some 13), .mv (.t 17), none⟩] []))))))) (.cond (.t 13) (.seq (.region false [ ⟨(some 18), .mv (.t 0), none⟩, ⟨(some 19), .mv (.t 0), none⟩, ⟨(some 20), .nilck (.t 19), none⟩, ⟨(some 21), .faddr (.t 20) 1, none⟩, ⟨(some 22), .load none (.t 21), none⟩, ⟨(some 23), .bin .add (.t 22) (.c (.d (.int .i64 1))), none⟩, ⟨(some 24), .callf 34 [(.t 18), (.t 23)], none⟩, ⟨(some 4), .mv (.t 24), none⟩] []) (.seq (.region false [ ⟨(some 25), .mv (.t 3), none⟩, ⟨(some 26), .bin .eql (.t 25) (.c (.d (.int .u8 60))), none⟩, ⟨(some 27), .mv (.t 26), none⟩, ⟨(some 28), .mv (.t 4), (some (27, true))⟩, ⟨(some 29), .bin .eql (.t 28) (.c (.d (.int .u8 60))), (some (27, true))⟩, ⟨(some 30), .pick (.t 27) (.t 29) (.c (.d (.bool false))), none⟩, ⟨(some 31), .mv (.t 30), none⟩, ⟨(some 32), .mv (.t 3), (some (31, false))⟩, ⟨(some 33), .bin .eql (.t 32) (.c (.d (.int .u8 62))), (some (31, false))⟩, ⟨(some 34), .mv (.t 33), (some (31, false))⟩, ⟨(some 35), .mv (.t 4), (some (34, true))⟩, ⟨(some 36), .bin .eql (.t 35) (.c (.d (.int .u8 62))), (some (34, true))⟩, ⟨(some 37), .pick (.t 34) (.t 36) (.c (.d (.bool false))), (some (31, false))⟩, ⟨(some 38), .pick (.t 31) (.c (.d (.bool true))) (.t 37), none⟩, ⟨(some 39), .mv (.t 38), none⟩, ⟨(some 40), .mv (.t 3), (some (39, false))⟩, ⟨(some 41), .bin .eql (.t 40) (.c (.d (.int .u8 61))), (some (39, false))⟩, ⟨(some 42), .mv (.t 41), (some (39, false))⟩, ⟨(some 43), .mv (.t 3), (some (42, false))⟩, ⟨(some 44), .bin .eql (.t 43) (.c (.d (.int .u8 33))), (some (42, false))⟩, ⟨(some 45), .pick (.t 42) (.c (.d (.bool true))) (.t 44), (some (39, false))⟩, ⟨(some 46), .mv (.t 45), (some (39, false))⟩, ⟨(some 47), .mv (.t 4), (some (46, true))⟩, ⟨(some 48), .bin .eql (.t 47) (.c (.d (.int .u8 61))), (some (46, true))⟩, ⟨(some 49), .pick (.t 46) (.t 48) (.c (.d (.bool false))), (some (39, false))⟩, ⟨(some 50), .pick (.t 39) (.c (.d (.bool true))) (.t 49), none⟩, ⟨(some 5), .mv (.t 50), none⟩] []) (.seq (.block 1 (.seq (.region false [ ⟨(some 52), .mv (.t 5), none⟩, ⟨(some 51), .mv (.t 52), none⟩] []) (.cond (.t 51) (.seq (.region true [ ⟨(some 53), .mv (.t 0), none⟩, ⟨(some 54), .nilck (.t 53), none⟩, ⟨(some 55), .faddr (.t 54) 0, none⟩, ⟨(some 56), .load none (.t 55), none⟩, ⟨(some 57), .mv (.t 0), none⟩, ⟨(some 58), .nilck (.t 57), none⟩, ⟨(some 59), .faddr (.t 58) 1, none⟩, ⟨(some 60), .load none (.t 59), none⟩, ⟨(some 61), .mv (.t 0), none⟩, ⟨(some 62), .nilck (.t 61), none⟩, ⟨(some 63), .faddr (.t 62) 1, none⟩, ⟨(some 64), .load none (.t 63), none⟩, ⟨(some 65), .bin .add (.t 64) (.c (.d (.int .i64 2))), none⟩, ⟨(some 66), .slcs (.t 56) (some (.t 60)) (some (.t 65)), none⟩, ⟨(some 2), .mv (.t 66), none⟩] [0, 1, 2, 4, 0, 16, 32, 64, 0, 256, 512, 1024, 2048, 4232, 16383]) .ret) (.seq (.region false [ ⟨(some 68), .mv (.t 3), none⟩, ⟨(some 69), .bin .eql (.t 68) (.c (.d (.int .u8 62))), none⟩, ⟨(some 70), .mv (.t 69), none⟩, ⟨(some 71), .mv (.t 3), (some (70, false))⟩, ⟨(some 72), .bin .eql (.t 71) (.c (.d (.int .u8 33))), (some (70, false))⟩, ⟨(some 73), .pick (.t 70) (.c (.d (.bool true))) (.t 72), none⟩, ⟨(some 67), .mv (.t 73), none⟩] []) (.cond (.t 67) (.seq (.region false [ ⟨(some 2), .mv (.c (.d (.str []))), none⟩] []) .ret) .skip))))) (.seq (.region false [ ⟨(some 74), .mv (.t 3), none⟩, ⟨(some 75), .cvrune (.t 74), none⟩, ⟨(some 2), .mv (.t 75), none⟩] []) .ret)))) .skip)))) (.seq (.seq (.region false [ ⟨(some 76), .mv (.t 3), none⟩, ⟨(some 77), .bin .neq (.t 76) (.c (.d (.int .u8 0))), none⟩, ⟨(some 78), .mv (.t 77), none⟩, ⟨(some 79), .mv (.t 3), (some (78, true))⟩, ⟨(some 80), .callf 70 [(.c (.d (.str [123, 125, 59, 58, 43, 45, 42, 38, 124, 94]))), (.t 79)], (some (78, true))⟩, ⟨(some 81), .bin .geq (.t 80) (.c (.d (.int .i64 0))), (some (78, true))⟩, ⟨(some 82), .pick (.t 78) (.t 81) (.c (.d (.bool false))), none⟩] []) (.cond (.t 82) (.seq (.region false [ ⟨(some 83), .mv (.t 3), none⟩, ⟨(some 84), .cvrune (.t 83), none⟩, ⟨(some 2), .mv (.t 84), none⟩] []) .ret) .skip)) (.seq (.region false [ ⟨(some 2), .mv (.c (.d (.str []))), none⟩] []) .ret)))))
theorem ac39_ok : Tryd.f39.body.bind (cCode Tryd.prog Tryd.f39.ntmps) = some ac39 := by kernel_rfl

-- 40 jacquard/jacquardref2.skip
-- 41 jacquard/jacquardref2.letter
-- 42 jacquard/jacquardref2.digit
-- 43 jacquard/jacquardref2.Parse
-- 69 jacquard/num.Text
-- 83 jacquard/jacquardref2.InsOk
-- 104 jacquard/num.Op
def ac104L0 : ACode := (.seq (.region false [ ⟨(some 8), .bin .lss (.t 7) (.c (.d (.int .i64 12))), none⟩] []) (.seq (.cond (.t 8) .skip (.exit 0)) (.seq (.block 1 (.seq (.region false [ ⟨(some 9), .mv (.t 7), none⟩, ⟨(some 10), .idxa 12 1 none (.t 6) (.t 7), none⟩, ⟨(some 4), .mv (.t 9), none⟩, ⟨(some 5), .mv (.t 10), none⟩] []) (.seq (.region false [ ⟨(some 11), .mv (.t 4), none⟩, ⟨(some 12), .bin .gtr (.t 11) (.c (.d (.int .i64 0))), none⟩, ⟨(some 13), .mv (.t 12), none⟩, ⟨(some 14), .mv (.t 5), (some (13, true))⟩, ⟨(some 15), .mv (.t 0), (some (13, true))⟩, ⟨(some 16), .bin .eql (.t 14) (.t 15), (some (13, true))⟩, ⟨(some 17), .pick (.t 13) (.t 16) (.c (.d (.bool false))), none⟩] []) (.cond (.t 17) (.seq (.region false [ ⟨(some 18), .mv (.t 4), none⟩, ⟨(some 2), .mv (.t 18), none⟩, ⟨(some 3), .mv (.c (.d (.bool true))), none⟩] []) .ret) .skip)))) (.region false [ ⟨(some 19), .bin .add (.t 7) (.c (.d (.int .i64 1))), none⟩, ⟨(some 7), .mv (.t 19), none⟩] []))))
def ac104 : ACode := (.seq (.region false [ ⟨(some 2), .mv (.c (.d (.int .i64 0))), none⟩, ⟨(some 3), .mv (.c (.d (.bool false))), none⟩] []) (.seq (.seq (.region false [ ⟨(some 6), .callf 114 [], none⟩, ⟨(some 7), .mv (.c (.d (.int .i64 0))), none⟩] []) (.block 0 (.loop ac104L0))) (.seq (.region false [ ⟨(some 2), .mv (.c (.d (.int .i64 0))), none⟩, ⟨(some 3), .mv (.c (.d (.bool false))), none⟩] []) .ret)))
theorem ac104_ok : Tryd.f104.body.bind (cCode Tryd.prog Tryd.f104.ntmps) = some ac104 := by kernel_rfl

-- 114 jacquard/num.signs
def ac114 : ACode := (.seq (.region false [ ⟨(some 0), .alloc [(.d (.str [])), (.d (.str [])), (.d (.str [])), (.d (.str [])), (.d (.str [])), (.d (.str [])), (.d (.str [])), (.d (.str [])), (.d (.str [])), (.d (.str [])), (.d (.str [])), (.d (.str []))], none⟩] []) (.seq (.region false [ ⟨(some 1), .build [(.d (.str [])), (.d (.str [])), (.d (.str [])), (.d (.str [])), (.d (.str [])), (.d (.str [])), (.d (.str [])), (.d (.str [])), (.d (.str [])), (.d (.str [])), (.d (.str [])), (.d (.str []))] [(0, 1, (.c (.d (.str [])))), (1, 1, (.c (.d (.str [43])))), (2, 1, (.c (.d (.str [45])))), (3, 1, (.c (.d (.str [42])))), (4, 1, (.c (.d (.str [38])))), (5, 1, (.c (.d (.str [124])))), (6, 1, (.c (.d (.str [94])))), (7, 1, (.c (.d (.str [60, 60])))), (8, 1, (.c (.d (.str [62, 62])))), (9, 1, (.c (.d (.str [61, 61])))), (10, 1, (.c (.d (.str [33, 61])))), (11, 1, (.c (.d (.str [60]))))], none⟩, ⟨none, .store 12 (.t 0) (.t 1), none⟩] []) .ret))
theorem ac114_ok : Tryd.f114.body.bind (cCode Tryd.prog Tryd.f114.ntmps) = some ac114 := by kernel_rfl

end Go.Proofs.YtpfbljkfbjjlkaaDoor

/-
  DERIVED: THE SHELF's CONTRACTS AT THIS DUMP, IN PLAIN WORDS (tools/lay-plain.mjs out of 'TrydShelfk.lean', which tools/lay-shelf.mjs wrote): THE SAME DECLARATIONS UNDER THE SAME NAMES: 'import', 'namespace', 'open', 'def', 'theorem' AND NOTHING ELSE: no command of the shelf's: FOR A HAND-IN. Each laying: the table of numbers ('.._ren') and one theorem, a field a fact of the dump's own or the kernel's comparison; each contract: ONE APPLICATION.
-/
namespace Go.Proofs
open Go.Shelf
def Tryd.lays137_ren : Go.Shelf.Ren := ⟨fun | 137 => 70 | 217 => 90 | 266 => 103 | n => n, fun | 9 => 9 | 5 => 5 | 3 => 3 | n => n, fun | n => n⟩
theorem Tryd.lays137 : Go.Proofs.Lays.n137 Tryd.prog Tryd.lays137_ren := {
  mixed := by kernel_rfl
  f137 := Tryd.func70.trans (congrArg some (by kernel_rfl))
  f217 := Tryd.func90.trans (congrArg some (by kernel_rfl))
  f266 := Tryd.func103.trans (congrArg some (by kernel_rfl))
  t3 := Tryd.underlying3
  a3 := Tryd.isAgg3
  z3 := Tryd.sizeOf3
  v3 := Tryd.zeroValue3
  t5 := Tryd.underlying5
  a5 := Tryd.isAgg5
  z5 := Tryd.sizeOf5
  v5 := Tryd.zeroValue5
  t9 := Tryd.underlying9
  a9 := Tryd.isAgg9
  z9 := Tryd.sizeOf9
  v9 := Tryd.zeroValue9 }
open Go.RowKit in
theorem Tryd.strings_IndexByte (s : ByteArray) (c : Int) (w : World) :
    Calls Tryd.prog 70 #[.string s, .int .u8 c] w fun e w' => e = .returned (.int .i64 (Lib.indexByte s.data.toList c.toNat.toUInt8)) ∧ w' = w := Any.strings_IndexByte Tryd.lays137 s c w
def Tryd.laysM173_ren : Go.Shelf.Ren := ⟨fun | 173 => 89 | 246 => 102 | 283 => 110 | 284 => 111 | 285 => 112 | 286 => 113 | 129 => 117 | 317 => 116 | 318 => 118 | 319 => 119 | 320 => 120 | 337 => 121 | 338 => 122 | n => n, fun | 2 => 2 | 3 => 3 | 9 => 9 | 4 => 4 | 171 => 138 | 0 => 0 | 53 => 69 | 37 => 22 | 5 => 5 | 173 => 141 | 212 => 150 | 51 => 151 | 20 => 20 | 213 => 152 | 46 => 58 | 232 => 155 | 233 => 156 | n => n, fun | 17 => 3 | 18 => 4 | 19 => 5 | n => n⟩
theorem Tryd.laysM173 : Go.Proofs.LaysM.n173 Tryd.prog Tryd.laysM173_ren := {
  mixed := by kernel_rfl
  f129 := Tryd.func117.trans (congrArg some (by kernel_rfl))
  f173 := Tryd.func89.trans (congrArg some (by kernel_rfl))
  f246 := Tryd.func102.trans (congrArg some (by kernel_rfl))
  f283 := Tryd.func110.trans (congrArg some (by kernel_rfl))
  f284 := Tryd.func111.trans (congrArg some (by kernel_rfl))
  f285 := Tryd.func112.trans (congrArg some (by kernel_rfl))
  f286 := Tryd.func113.trans (congrArg some (by kernel_rfl))
  f317 := Tryd.func116.trans (congrArg some (by kernel_rfl))
  f318 := Tryd.func118.trans (congrArg some (by kernel_rfl))
  f319 := Tryd.func119.trans (congrArg some (by kernel_rfl))
  f320 := Tryd.func120.trans (congrArg some (by kernel_rfl))
  f337 := Tryd.func121.trans (congrArg some (by kernel_rfl))
  f338 := Tryd.func122.trans (congrArg some (by kernel_rfl))
  t0 := Tryd.underlying0
  a0 := Tryd.isAgg0
  z0 := Tryd.sizeOf0
  v0 := Tryd.zeroValue0
  t2 := Tryd.underlying2
  a2 := Tryd.isAgg2
  z2 := Tryd.sizeOf2
  v2 := Tryd.zeroValue2
  t3 := Tryd.underlying3
  a3 := Tryd.isAgg3
  z3 := Tryd.sizeOf3
  v3 := Tryd.zeroValue3
  t4 := Tryd.underlying4
  a4 := Tryd.isAgg4
  z4 := Tryd.sizeOf4
  v4 := Tryd.zeroValue4
  t5 := Tryd.underlying5
  a5 := Tryd.isAgg5
  z5 := Tryd.sizeOf5
  v5 := Tryd.zeroValue5
  t9 := Tryd.underlying9
  a9 := Tryd.isAgg9
  z9 := Tryd.sizeOf9
  v9 := Tryd.zeroValue9
  t20 := Tryd.underlying20
  a20 := Tryd.isAgg20
  z20 := Tryd.sizeOf20
  v20 := Tryd.zeroValue20
  t37 := Tryd.underlying22
  a37 := Tryd.isAgg22
  z37 := Tryd.sizeOf22
  v37 := Tryd.zeroValue22
  t46 := Tryd.underlying58
  a46 := Tryd.isAgg58
  z46 := Tryd.sizeOf58
  v46 := Tryd.zeroValue58
  t51 := Tryd.underlying151
  a51 := Tryd.isAgg151
  z51 := Tryd.sizeOf151
  v51 := Tryd.zeroValue151
  t53 := Tryd.underlying69
  a53 := Tryd.isAgg69
  z53 := Tryd.sizeOf69
  v53 := Tryd.zeroValue69
  t171 := Tryd.underlying138
  a171 := Tryd.isAgg138
  z171 := Tryd.sizeOf138
  v171 := Tryd.zeroValue138
  t173 := Tryd.underlying141
  a173 := Tryd.isAgg141
  z173 := Tryd.sizeOf141
  v173 := Tryd.zeroValue141
  t212 := Tryd.underlying150
  a212 := Tryd.isAgg150
  z212 := Tryd.sizeOf150
  v212 := Tryd.zeroValue150
  t213 := Tryd.underlying152
  a213 := Tryd.isAgg152
  z213 := Tryd.sizeOf152
  t232 := Tryd.underlying155
  a232 := Tryd.isAgg155
  z232 := Tryd.sizeOf155
  v232 := Tryd.zeroValue155
  t233 := Tryd.underlying156
  a233 := Tryd.isAgg156
  z233 := Tryd.sizeOf156
  v233 := Tryd.zeroValue156
  g17 := by kernel_rfl
  g18 := by kernel_rfl
  g19 := by kernel_rfl
  i0 := by kernel_rfl
  i2 := by kernel_rfl
  i3 := by kernel_rfl
  i4 := by kernel_rfl
  i5 := by kernel_rfl
  i9 := by kernel_rfl
  i20 := by kernel_rfl
  i37 := by kernel_rfl
  i46 := by kernel_rfl
  i51 := by kernel_rfl
  i53 := by kernel_rfl
  i171 := by kernel_rfl
  i173 := by kernel_rfl
  i212 := by kernel_rfl
  i232 := by kernel_rfl
  i233 := by kernel_rfl
  m17 := by kernel_rfl
  m18 := by kernel_rfl
  m19 := by kernel_rfl }
open Go.RowKit Go.Sort Go.Lib in
theorem Tryd.strconv_FormatInt_10 (n : Int) (h0 : -9223372036854775808 ≤ n) (h1 : n ≤ 9223372036854775807) (w : World) (htab : Lib.TabIs Tryd.prog w "internal/strconv.uint64pow10" .u64 Lib.pow10Tab) :
    Calls Tryd.prog 89 #[.int .i64 n, .int .i64 10] w fun e w' => e = .returned (.string ⟨(Lib.itoa n).toArray⟩) ∧ ∃ k os, w' = grow (w.drewN k) os := Any.strconv_FormatInt_10 Tryd.laysM173 n h0 h1 w htab
def Tryd.laysC174_ren : Go.Shelf.Ren := ⟨fun | 174 => 68 | 247 => 87 | 245 => 88 | 287 => 97 | 279 => 98 | 280 => 99 | 281 => 100 | 282 => 101 | 321 => 105 | 322 => 106 | 316 => 107 | 171 => 109 | 205 => 108 | 243 => 115 | 246 => 102 | 283 => 110 | 284 => 111 | 285 => 112 | 286 => 113 | 129 => 117 | 317 => 116 | 318 => 118 | 319 => 119 | 320 => 120 | 337 => 121 | 338 => 122 | n => n, fun | 9 => 9 | 3 => 3 | 2 => 2 | 75 => 109 | 85 => 110 | 4 => 4 | 167 => 127 | 5 => 5 | 53 => 69 | 175 => 128 | 46 => 58 | 168 => 130 | 37 => 22 | 0 => 0 | 210 => 136 | 21 => 21 | 127 => 145 | 145 => 148 | 143 => 146 | 171 => 138 | 173 => 141 | 212 => 150 | 51 => 151 | 20 => 20 | 213 => 152 | 232 => 155 | 233 => 156 | 80 => 79 | n => n, fun | 15 => 0 | 16 => 1 | 17 => 3 | 18 => 4 | 19 => 5 | n => n⟩
theorem Tryd.laysC174 : Go.Proofs.LaysC.n174 Tryd.prog Tryd.laysC174_ren := {
  mixed := by kernel_rfl
  f129 := Tryd.func117.trans (congrArg some (by kernel_rfl))
  f171 := Tryd.func109.trans (congrArg some (by kernel_rfl))
  f174 := Tryd.func68.trans (congrArg some (by kernel_rfl))
  f205 := Tryd.func108.trans (congrArg some (by kernel_rfl))
  f243 := Tryd.func115.trans (congrArg some (by kernel_rfl))
  f245 := Tryd.func88.trans (congrArg some (by kernel_rfl))
  f246 := Tryd.func102.trans (congrArg some (by kernel_rfl))
  f247 := Tryd.func87.trans (congrArg some (by kernel_rfl))
  f279 := Tryd.func98.trans (congrArg some (by kernel_rfl))
  f280 := Tryd.func99.trans (congrArg some (by kernel_rfl))
  f281 := Tryd.func100.trans (congrArg some (by kernel_rfl))
  f282 := Tryd.func101.trans (congrArg some (by kernel_rfl))
  f283 := Tryd.func110.trans (congrArg some (by kernel_rfl))
  f284 := Tryd.func111.trans (congrArg some (by kernel_rfl))
  f285 := Tryd.func112.trans (congrArg some (by kernel_rfl))
  f286 := Tryd.func113.trans (congrArg some (by kernel_rfl))
  f287 := Tryd.func97.trans (congrArg some (by kernel_rfl))
  f316 := Tryd.func107.trans (congrArg some (by kernel_rfl))
  f317 := Tryd.func116.trans (congrArg some (by kernel_rfl))
  f318 := Tryd.func118.trans (congrArg some (by kernel_rfl))
  f319 := Tryd.func119.trans (congrArg some (by kernel_rfl))
  f320 := Tryd.func120.trans (congrArg some (by kernel_rfl))
  f321 := Tryd.func105.trans (congrArg some (by kernel_rfl))
  f322 := Tryd.func106.trans (congrArg some (by kernel_rfl))
  f337 := Tryd.func121.trans (congrArg some (by kernel_rfl))
  f338 := Tryd.func122.trans (congrArg some (by kernel_rfl))
  t0 := Tryd.underlying0
  a0 := Tryd.isAgg0
  z0 := Tryd.sizeOf0
  v0 := Tryd.zeroValue0
  t2 := Tryd.underlying2
  a2 := Tryd.isAgg2
  z2 := Tryd.sizeOf2
  v2 := Tryd.zeroValue2
  t3 := Tryd.underlying3
  a3 := Tryd.isAgg3
  z3 := Tryd.sizeOf3
  v3 := Tryd.zeroValue3
  t4 := Tryd.underlying4
  a4 := Tryd.isAgg4
  z4 := Tryd.sizeOf4
  v4 := Tryd.zeroValue4
  t5 := Tryd.underlying5
  a5 := Tryd.isAgg5
  z5 := Tryd.sizeOf5
  v5 := Tryd.zeroValue5
  t9 := Tryd.underlying9
  a9 := Tryd.isAgg9
  z9 := Tryd.sizeOf9
  v9 := Tryd.zeroValue9
  t20 := Tryd.underlying20
  a20 := Tryd.isAgg20
  z20 := Tryd.sizeOf20
  v20 := Tryd.zeroValue20
  t21 := Tryd.underlying21
  a21 := Tryd.isAgg21
  z21 := Tryd.sizeOf21
  v21 := Tryd.zeroValue21
  t37 := Tryd.underlying22
  a37 := Tryd.isAgg22
  z37 := Tryd.sizeOf22
  v37 := Tryd.zeroValue22
  t46 := Tryd.underlying58
  a46 := Tryd.isAgg58
  z46 := Tryd.sizeOf58
  v46 := Tryd.zeroValue58
  t51 := Tryd.underlying151
  a51 := Tryd.isAgg151
  z51 := Tryd.sizeOf151
  v51 := Tryd.zeroValue151
  t53 := Tryd.underlying69
  a53 := Tryd.isAgg69
  z53 := Tryd.sizeOf69
  v53 := Tryd.zeroValue69
  t75 := Tryd.underlying109
  a75 := Tryd.isAgg109
  z75 := Tryd.sizeOf109
  v75 := Tryd.zeroValue109
  t85 := Tryd.underlying110
  a85 := Tryd.isAgg110
  z85 := Tryd.sizeOf110
  v85 := Tryd.zeroValue110
  t127 := Tryd.underlying145
  a127 := Tryd.isAgg145
  z127 := Tryd.sizeOf145
  v127 := Tryd.zeroValue145
  t143 := Tryd.underlying146
  a143 := Tryd.isAgg146
  z143 := Tryd.sizeOf146
  v143 := Tryd.zeroValue146
  t145 := Tryd.underlying148
  a145 := Tryd.isAgg148
  z145 := Tryd.sizeOf148
  v145 := Tryd.zeroValue148
  t167 := Tryd.underlying127
  a167 := Tryd.isAgg127
  z167 := Tryd.sizeOf127
  v167 := Tryd.zeroValue127
  t168 := Tryd.underlying130
  a168 := Tryd.isAgg130
  z168 := Tryd.sizeOf130
  v168 := Tryd.zeroValue130
  t171 := Tryd.underlying138
  a171 := Tryd.isAgg138
  z171 := Tryd.sizeOf138
  v171 := Tryd.zeroValue138
  t173 := Tryd.underlying141
  a173 := Tryd.isAgg141
  z173 := Tryd.sizeOf141
  v173 := Tryd.zeroValue141
  t175 := Tryd.underlying128
  a175 := Tryd.isAgg128
  z175 := Tryd.sizeOf128
  v175 := Tryd.zeroValue128
  t210 := Tryd.underlying136
  a210 := Tryd.isAgg136
  z210 := Tryd.sizeOf136
  v210 := Tryd.zeroValue136
  t212 := Tryd.underlying150
  a212 := Tryd.isAgg150
  z212 := Tryd.sizeOf150
  v212 := Tryd.zeroValue150
  t213 := Tryd.underlying152
  a213 := Tryd.isAgg152
  z213 := Tryd.sizeOf152
  t232 := Tryd.underlying155
  a232 := Tryd.isAgg155
  z232 := Tryd.sizeOf155
  v232 := Tryd.zeroValue155
  t233 := Tryd.underlying156
  a233 := Tryd.isAgg156
  z233 := Tryd.sizeOf156
  v233 := Tryd.zeroValue156
  g15 := by kernel_rfl
  g16 := by kernel_rfl
  g17 := by kernel_rfl
  g18 := by kernel_rfl
  g19 := by kernel_rfl
  t80 := Tryd.underlying79
  a80 := Tryd.isAgg79
  z80 := Tryd.sizeOf79
  v80 := Tryd.zeroValue79
  i0 := by kernel_rfl
  i2 := by kernel_rfl
  i3 := by kernel_rfl
  i4 := by kernel_rfl
  i5 := by kernel_rfl
  i9 := by kernel_rfl
  i20 := by kernel_rfl
  i21 := by kernel_rfl
  i37 := by kernel_rfl
  i46 := by kernel_rfl
  i51 := by kernel_rfl
  i53 := by kernel_rfl
  i75 := by kernel_rfl
  i80 := by kernel_rfl
  i85 := by kernel_rfl
  i127 := by kernel_rfl
  i143 := by kernel_rfl
  i145 := by kernel_rfl
  i167 := by kernel_rfl
  i168 := by kernel_rfl
  i171 := by kernel_rfl
  i173 := by kernel_rfl
  i175 := by kernel_rfl
  i210 := by kernel_rfl
  i212 := by kernel_rfl
  i232 := by kernel_rfl
  i233 := by kernel_rfl
  m15 := by kernel_rfl
  m16 := by kernel_rfl
  m17 := by kernel_rfl
  m18 := by kernel_rfl
  m19 := by kernel_rfl
  c0 := by kernel_rfl
  c2 := by kernel_rfl
  c3 := by kernel_rfl
  c4 := by kernel_rfl
  c5 := by kernel_rfl
  c9 := by kernel_rfl
  c20 := by kernel_rfl
  c21 := by kernel_rfl
  c37 := by kernel_rfl
  c46 := by kernel_rfl
  c51 := by kernel_rfl
  c53 := by kernel_rfl
  c75 := by kernel_rfl
  c80 := by kernel_rfl
  c85 := by kernel_rfl
  c127 := by kernel_rfl
  c143 := by kernel_rfl
  c145 := by kernel_rfl
  c167 := by kernel_rfl
  c168 := by kernel_rfl
  c171 := by kernel_rfl
  c173 := by kernel_rfl
  c175 := by kernel_rfl
  c210 := by kernel_rfl
  c212 := by kernel_rfl
  c213 := by kernel_rfl
  c232 := by kernel_rfl
  c233 := by kernel_rfl }
end Go.Proofs

/- Numbers' texts, told without a heap: what the shelf's contracts say, in the layer's words. -/
namespace Go.Proofs.YtpfbljkfbjjlkaaDoor
open Go Go.Jq
set_option maxRecDepth 100000
set_option linter.unusedSimpArgs false

theorem gTab : Tryd.prog.globalNamed "internal/strconv.uint64pow10" = some 3 := by kernel_rfl

theorem tabIs {c : Ctx} {m : Mem} {w : World} (h : MR c m w) : Lib.TabIs Tryd.prog w "internal/strconv.uint64pow10" .u64 Lib.pow10Tab := by
  obtain ⟨_, cs, T, f, h1, hcs⟩ := h.tab 3 _ rfl
  have hcs' : cs = (Lib.pow10Tab.map fun z => Value.int .u64 z).toArray := hcs
  unfold Lib.TabIs World.var?
  rw [gTab]
  simp only [Option.bind_some, h1, hcs']

/-- A whole number of 64 bits. -/
def I64 (n : Int) : Prop := -9223372036854775808 ≤ n ∧ n ≤ 9223372036854775807

theorem nDigits_le : ∀ (k u : Nat), u < 10 ^ (k + 1) → Lib.nDigits u ≤ k + 1
  | 0, u, h => by rw [Lib.nDigits_small (by simpa using h)]; omega
  | k + 1, u, h => by
    by_cases hu : u < 10
    · rw [Lib.nDigits_small hu]; omega
    · rw [Lib.nDigits_big hu]
      have := nDigits_le k (u / 10) (by rw [Nat.pow_succ] at h; omega)
      omega

theorem itoa_len {n : Int} (h : I64 n) : (Lib.itoa n).length ≤ 20 := by
  obtain ⟨h0, h1⟩ := h
  unfold Lib.itoa
  split
  · have := nDigits_le 18 n.natAbs (by simp; omega)
    rw [List.length_cons, Lib.decDigits_length]; omega
  · have := nDigits_le 18 n.toNat (by simp; omega)
    rw [Lib.decDigits_length]; omega

theorem itoa_pos (n : Int) : 1 ≤ (Lib.itoa n).length := by
  unfold Lib.itoa
  split
  · simp
  · rw [Lib.decDigits_length]; exact Lib.nDigits_pos _

end Go.Proofs.YtpfbljkfbjjlkaaDoor

/- The abstract layer: from a row to data. -/
/-! The abstract layer, part 25: what a row hands a law, told as data. -/
namespace Go.Jq
open Go

/-- A type's cells' kinds. -/
inductive Sh where
  | int (k : IntKind)
  | bool
  | str
  | sl (es : List Sh)

mutual
def Fits : Sh → DV → Prop
  | .int k, d => ∃ n, d = .int k n ∧ (Lit.int k n).wf = true
  | .bool, d => ∃ b, d = .bool b
  | .str, d => ∃ s : List UInt8, d = .str s ∧ s.length ≤ maxLen
  | .sl es, d => d = .nsl ∨ ∃ rows : List (List DV), d = .sl rows.length rows.flatten ∧ rows.length ≤ maxLen ∧ ∀ r ∈ rows, FitsL es r
def FitsL : List Sh → List DV → Prop
  | [], ds => ds = []
  | s :: ss, ds => ∃ d r, ds = d :: r ∧ Fits s d ∧ FitsL ss r
end

theorem FitsL.length : ∀ {ss : List Sh} {ds : List DV}, FitsL ss ds → ds.length = ss.length
  | [], _, h => by simp only [FitsL] at h; subst h; rfl
  | s :: ss, _, h => by
    simp only [FitsL] at h
    obtain ⟨d, r, rfl, _, h⟩ := h
    simp [FitsL.length h]

theorem FitsL.append : ∀ {ss ss' : List Sh} {ds ds' : List DV}, FitsL ss ds → FitsL ss' ds' → FitsL (ss ++ ss') (ds ++ ds')
  | [], _, _, _, h, h' => by simp only [FitsL] at h; subst h; simpa using h'
  | s :: ss, _, _, _, h, h' => by
    simp only [FitsL] at h
    obtain ⟨d, r, rfl, hd, h⟩ := h
    simp only [List.cons_append, FitsL]
    exact ⟨d, _, rfl, hd, FitsL.append h h'⟩

def shFs (P : Program) (f : TypeId → Option (List Sh)) : List Field → Nat → Option (List Sh)
  | [], _ => some []
  | fd :: r, acc => match f fd.type with
    | some s => if fd.offset = acc ∧ P.cellsOf fd.type = s.length then (shFs P f r (acc + s.length)).map (s ++ ·) else none
    | none => none

def shOf (P : Program) : Nat → TypeId → Option (List Sh)
  | 0, _ => none
  | k + 1, t => match P.underlying t with
    | some .bool => some [.bool]
    | some (.int q) => some [.int q]
    | some .string => some [.str]
    | some (.slice e) => match shOf P k e with
      | some es => if es.length = P.cellsOf e ∧ es.length ≠ 0 then some [.sl es] else none
      | none => none
    | some (.struct fs) => match shFs P (shOf P k) fs.toList 0 with
      | some ss => if ss.length = P.cellsOf t then some ss else none
      | none => none
    | some (.array n e) => match shOf P k e with
      | some es => if es.length = P.cellsOf e ∧ n * es.length = P.cellsOf t then some (List.replicate n es).flatten else none
      | none => none
    | _ => none

def RelDL (I : Nat → Prop) (w : World) : List DV → List Value → Prop
  | [], vs => vs = []
  | d :: ds, vs => ∃ v r, vs = v :: r ∧ RelD I w d v ∧ RelDL I w ds r

section
variable {I : Nat → Prop} {w : World}

theorem RelDL.append : ∀ {ds ds' : List DV} {vs vs' : List Value}, RelDL I w ds vs → RelDL I w ds' vs' → RelDL I w (ds ++ ds') (vs ++ vs')
  | [], _, _, _, h, h' => by simp only [RelDL] at h; subst h; simpa using h'
  | d :: ds, _, _, _, h, h' => by
    simp only [RelDL] at h
    obtain ⟨v, r, rfl, hd, h⟩ := h
    simp only [List.cons_append, RelDL]
    exact ⟨v, _, rfl, hd, RelDL.append h h'⟩

theorem RelDL.length : ∀ {ds : List DV} {vs : List Value}, RelDL I w ds vs → vs.length = ds.length
  | [], _, h => by simp only [RelDL] at h; subst h; rfl
  | d :: ds, _, h => by
    simp only [RelDL] at h
    obtain ⟨v, r, rfl, _, h⟩ := h
    simp [RelDL.length h]

theorem RelDL.get : ∀ {ds : List DV} {vs : List Value}, RelDL I w ds vs → ∀ (i : Nat) (d : DV), ds[i]? = some d → ∃ v, vs[i]? = some v ∧ RelD I w d v
  | [], _, _, i, d, h => by simp at h
  | x :: ds, _, h, i, d, hi => by
    simp only [RelDL] at h
    obtain ⟨v, r, rfl, hd, h⟩ := h
    cases i with
    | zero => simp at hi; subst hi; exact ⟨v, rfl, hd⟩
    | succ i => simpa using RelDL.get h i d (by simpa using hi)

theorem RelDs.append : ∀ {xs ys : List DV} {b o : Nat}, RelDs I w xs b o → RelDs I w ys b (o + xs.length) → RelDs I w (xs ++ ys) b o
  | [], ys, b, o, _, h => by simpa using h
  | x :: xs, ys, b, o, h, h' => by
    simp only [List.cons_append, RelDs] at h ⊢
    refine ⟨h.1, RelDs.append h.2 ?_⟩
    rw [List.length_cons] at h'
    rw [show o + 1 + xs.length = o + (xs.length + 1) by omega]
    exact h'

theorem RelDs.flatten {k b o : Nat} : ∀ {rows : List (List DV)} {i0 : Nat}, (∀ r ∈ rows, r.length = k) → (∀ (i : Nat) (r : List DV), rows[i]? = some r → RelDs I w r b (o + (i0 + i) * k)) → RelDs I w rows.flatten b (o + i0 * k)
  | [], _, _, _ => by simp [RelDs]
  | r :: rows, i0, hk, h => by
    rw [List.flatten_cons]
    refine RelDs.append (by simpa using h 0 r rfl) ?_
    have := RelDs.flatten (k := k) (b := b) (o := o) (rows := rows) (i0 := i0 + 1) (fun r hr => hk r (List.mem_cons_of_mem _ hr)) fun i r' hi => by
      have := h (i + 1) r' (by simpa using hi)
      rwa [show i0 + 1 + i = i0 + (i + 1) by omega]
    rw [hk r List.mem_cons_self]
    rwa [Nat.succ_mul, ← Nat.add_assoc] at this

theorem list_of {α : Type} {p : Nat → α → Prop} : ∀ (n : Nat), (∀ i, i < n → ∃ y, p i y) → ∃ l : List α, l.length = n ∧ ∀ i y, l[i]? = some y → p i y
  | 0, _ => ⟨[], rfl, fun i y h => by simp at h⟩
  | n + 1, h => by
    obtain ⟨l, hl, hp⟩ := list_of n fun i hi => h i (by omega)
    obtain ⟨y, hy⟩ := h n (by omega)
    refine ⟨l ++ [y], by simp [hl], fun i z hz => ?_⟩
    rcases Nat.lt_or_ge i n with h1 | h1
    · rw [List.getElem?_append_left (by omega)] at hz; exact hp i z hz
    · rw [List.getElem?_append_right (by omega)] at hz
      have h2 : i - l.length = 0 := by
        rcases Nat.eq_zero_or_pos (i - l.length) with h3 | h3
        · exact h3
        · rw [List.getElem?_eq_none (by simp; omega)] at hz; cases hz
      rw [h2] at hz
      simp at hz
      subst hz
      have : i = n := by omega
      subst this
      exact hy

end
end Go.Jq

/-! The abstract layer, part 26: a row's reading of a value, told as data. -/
namespace Go.Jq
open Go

section
variable {H : Type} {enc : TypeId × Value → H} {P : Program} {w : World} {base : Nat} {spare : Nat → Bool} {held : Bool} {I : Nat → Prop} (hI : ∀ b, b < w.heap.size → I b)

theorem cells_get {a : Addr} {n : Nat} {cs : List Value} (h : w.cells? base a n = some cs) : cs.length = n ∧ ∀ i, i < n → w.cell? (a.add i) = cs[i]? := by
  unfold World.cells? at h
  split at h
  · exact ⟨by simpa using mapM_some_length h, fun i hi => mapM_some_get h i i (by simp [hi])⟩
  · cases h

theorem cell_lt {a : Addr} {v : Value} (h : w.cell? a = some v) : a.block < w.heap.size ∧ a.spot = none := by
  unfold World.cell? at h
  split at h
  · rename_i c T f hb
    refine ⟨?_, ?_⟩
    · rcases Nat.lt_or_ge a.block w.heap.size with h1 | h1
      · exact h1
      · rw [Array.getElem?_eq_none h1] at hb; cases hb
    · split at h
      · cases h
      · rename_i hs; simpa using hs
  · cases h

theorem shFs_trod {f : TypeId → Option (List Sh)} {g : TypeId → List Value → Option (DataW H × List MemPlace)} (hfg : ∀ t ss cs x, f t = some ss → g t cs = some x → ∃ ds, FitsL ss ds ∧ RelDL I w ds cs) (cs : List Value) :
    ∀ (fs : List Field) (acc : Nat) (ss : List Sh), shFs P f fs acc = some ss → acc + ss.length = cs.length → (∀ fd ∈ fs, ∃ x, g fd.type ((cs.drop fd.offset).take (P.cellsOf fd.type)) = some x) → ∃ ds, FitsL ss ds ∧ RelDL I w ds (cs.drop acc)
  | [], acc, ss, h, hl, _ => by
    simp only [shFs, Option.some.injEq] at h
    subst h
    exact ⟨[], rfl, by simp only [RelDL]; exact List.drop_eq_nil_of_le (by simpa using Nat.le_of_eq hl.symm)⟩
  | fd :: fs, acc, ss, h, hl, hx => by
    simp only [shFs] at h
    split at h
    · rename_i s hs
      split at h
      · rename_i hc
        rw [Option.map_eq_some_iff] at h
        obtain ⟨r, hr, rfl⟩ := h
        obtain ⟨x, hx1⟩ := hx fd List.mem_cons_self
        obtain ⟨ds, h1, h2⟩ := hfg _ _ _ _ hs hx1
        obtain ⟨ds', h3, h4⟩ := shFs_trod hfg cs fs (acc + s.length) r hr (by simp at hl; omega) fun fd' h => hx fd' (List.mem_cons_of_mem _ h)
        refine ⟨ds ++ ds', h1.append h3, ?_⟩
        have h5 := h2.append h4
        rw [hc.1, hc.2, ← List.drop_drop, List.take_append_drop] at h5
        exact h5
      · cases h
    · cases h

include hI in
theorem trod_rel : ∀ (k : Nat) (t : TypeId) (ss : List Sh) (fuel : Nat) (cs : List Value) (x : DataW H × List MemPlace), shOf P k t = some ss → DataW.trod enc P w base spare held fuel t cs = some x → ∃ ds, FitsL ss ds ∧ RelDL I w ds cs
  | 0, _, _, _, _, _, h, _ => by simp [shOf] at h
  | k + 1, t, ss, fuel, cs, x, h, hx => by
    simp only [shOf] at h
    split at h
    · rename_i hu
      cases h
      obtain ⟨b, rfl, _⟩ := DataW.trod_bool hu hx
      exact ⟨[.bool b], by simp only [FitsL, Fits]; exact ⟨_, _, rfl, ⟨b, rfl⟩, rfl⟩, by simp [RelDL, RelD]⟩
    · rename_i q hu
      cases h
      obtain ⟨n, rfl, _, hw⟩ := DataW.trod_int hu hx
      exact ⟨[.int q n], by simp only [FitsL, Fits]; exact ⟨_, _, rfl, ⟨n, rfl, hw⟩, rfl⟩, by simp [RelDL, RelD]⟩
    · rename_i hu
      cases h
      obtain ⟨s, rfl, _, hw⟩ := DataW.trod_string hu hx
      exact ⟨[.str s.data.toList], by simp only [FitsL, Fits]; exact ⟨_, _, rfl, ⟨_, rfl, by simpa using hw⟩, rfl⟩, by simp [RelDL, RelD]⟩
    · rename_i e hu
      split at h
      · rename_i es hes
        split at h
        · rename_i hc
          cases h
          obtain ⟨hlen, hne⟩ := hc
          rcases DataW.trod_slice hu hx with ⟨rfl, _⟩ | ⟨a, len, cap, elems, rest, n, _, rfl, _, hb, hl, hm, hel, hcell, _⟩
          · exact ⟨[.nsl], by simp only [FitsL, Fits]; exact ⟨_, _, rfl, .inl rfl, rfl⟩, by simp [RelDL, RelD]⟩
          · have each : ∀ i, i < len → ∃ r : List DV, ∃ csi, w.cells? base (a.add (i * P.cellsOf e)) (P.cellsOf e) = some csi ∧ FitsL es r ∧ RelDL I w r csi := by
              intro i hi
              have h1 := hcell i hi
              rw [List.getElem?_eq_getElem (by omega), Option.bind_eq_some_iff] at h1
              obtain ⟨csi, h2, h3⟩ := h1
              obtain ⟨r, h4, h5⟩ := trod_rel k e es n csi _ hes h3
              exact ⟨r, csi, h2, h4, h5⟩
            obtain ⟨rows, hrl, hrows⟩ := list_of len each
            have hfit : ∀ r ∈ rows, FitsL es r := fun r hr => by
              obtain ⟨i, hi⟩ := List.mem_iff_getElem?.1 hr
              obtain ⟨_, _, h2, _⟩ := hrows i r hi
              exact h2
            refine ⟨[.sl rows.length rows.flatten], by simp only [FitsL, Fits]; exact ⟨_, _, rfl, .inr ⟨rows, rfl, by omega, hfit⟩, rfl⟩, ?_⟩
            simp only [RelDL, RelD]
            refine ⟨_, _, rfl, ⟨some a, cap, by rw [hrl], by omega, ?_⟩, rfl⟩
            rcases Nat.eq_zero_or_pos len with h0 | h0
            · have : rows = [] := List.eq_nil_of_length_eq_zero (by omega)
              subst this
              exact .inl ⟨rfl, rfl⟩
            · right
              have hr0 : rows[0]? = some rows[0] := List.getElem?_eq_getElem (by omega)
              obtain ⟨cs0, h1, h2, h3⟩ := hrows 0 _ hr0
              obtain ⟨hl0, hg0⟩ := cells_get h1
              have hpos : 0 < P.cellsOf e := by omega
              have hc0 : ∃ v, w.cell? a = some v := by
                have := hg0 0 hpos
                rw [List.getElem?_eq_getElem (by omega)] at this
                have e1 : (a.add (0 * P.cellsOf e)).add 0 = a := by simp [Addr.add]
                rw [e1] at this
                exact ⟨_, this⟩
              obtain ⟨v, hv⟩ := hc0
              obtain ⟨hlt, hsp⟩ := cell_lt hv
              obtain ⟨ab, ao, asp⟩ := a
              simp only at hlt hsp
              subst hsp
              refine ⟨ab, ao, rfl, hI ab hlt, ?_⟩
              have := RelDs.flatten (I := I) (w := w) (k := es.length) (b := ab) (o := ao) (rows := rows) (i0 := 0) (fun r hr => (hfit r hr).length) fun i r hi => by
                obtain ⟨csi, h4, h5, h6⟩ := hrows i r hi
                obtain ⟨_, hg⟩ := cells_get h4
                refine RelDs.of_get fun j d hj => ?_
                obtain ⟨v, hv, hr⟩ := h6.get j d hj
                have hjl : j < P.cellsOf e := by
                  have := (List.getElem?_eq_some_iff.1 hj).1
                  rw [h5.length] at this
                  omega
                refine ⟨v, ?_, hr⟩
                have := hg j hjl
                rw [hv, addr_add, addr_add] at this
                rw [Nat.zero_add, hlen]
                exact this
              simpa using this
        · cases h
      · cases h
    · rename_i fs hu
      split at h
      · rename_i ss' hss
        split at h
        · rename_i hc
          cases h
          obtain ⟨xs, n, _, _, hcl, hxl, hget⟩ := DataW.trod_struct hu hx
          have := shFs_trod (P := P) (I := I) (w := w) (f := shOf P k) (g := fun t cs => DataW.trod enc P w base spare held n t cs) (fun t ss cs x h1 h2 => trod_rel k t ss n cs x h1 h2) cs fs.toList 0 ss hss (by omega) fun fd hfd => by
            obtain ⟨i, hi⟩ := List.mem_iff_getElem?.1 hfd
            rw [Array.getElem?_toList] at hi
            have h1 := hget i fd hi
            have h2 : i < fs.size := (Array.getElem?_eq_some_iff.1 hi).1
            rw [List.getElem?_eq_getElem (by omega)] at h1
            exact ⟨_, h1⟩
          simpa using this
        · cases h
      · cases h
    · rename_i n e hu
      split at h
      · rename_i es hes
        split at h
        · rename_i hc
          cases h
          obtain ⟨xs, m, _, _, hcl, hxl, hget⟩ := DataW.trod_array hu hx
          have key : ∀ q, q ≤ n → ∃ ds, FitsL (List.replicate q es).flatten ds ∧ RelDL I w ds (cs.take (q * es.length)) := by
            intro q
            induction q with
            | zero => intro _; exact ⟨[], by simp [FitsL], by simp [RelDL]⟩
            | succ q ih =>
              intro hq
              obtain ⟨ds, h1, h2⟩ := ih (by omega)
              have h3 := hget q (by omega)
              rw [List.getElem?_eq_getElem (by omega)] at h3
              obtain ⟨ds', h4, h5⟩ := trod_rel k e es m _ _ hes h3
              refine ⟨ds ++ ds', ?_, ?_⟩
              · rw [List.replicate_succ', List.flatten_append]
                simpa using h1.append h4
              · have := h2.append h5
                rw [← hc.1] at this
                rw [Nat.succ_mul, List.take_add]
                exact this
          obtain ⟨ds, h1, h2⟩ := key n (Nat.le_refl _)
          exact ⟨ds, h1, by rwa [List.take_of_length_le (by omega)] at h2⟩
        · cases h
      · cases h
    · cases h

end
end Go.Jq

/-! The abstract layer, part 27: from a law's contract to what its row asks. -/
namespace Go.Jq
open Go Go.RowKit Go.ChangeAt Go.ChangeShapes Go.WideShapes

/-- The context at the row's call: all blocks are data's. -/
def ctx0 (w : World) : Ctx := ⟨fun _ => .free, fun b => b < w.heap.size⟩

theorem calls_of_pure {P : Program} {f : Nat} {args : List AV} (h : Pure P f args (.d (.bool true))) {w : World} {vs : List Value} (hr : RelL (ctx0 w) w args vs)
    (htab : ∀ g Φ, tabC g = some Φ → ∃ cs T f, w.heap[g]? = some (.cells cs T f) ∧ Φ cs := by intro g Φ h; simp [tabC] at h) :
    Calls P f vs.toArray w fun e w' => e = .returned (.bool true) ∧ Below w.heap.size w w' := by
  have hM : MR (ctx0 w) [] w := ⟨fun id cells h => by simp [mget] at h, fun id id' b h => by simp [mget] at h, fun b hb => hb, fun g Φ hg => by
    obtain ⟨cs, T, f, h1, h2⟩ := htab g Φ hg
    exact ⟨(Array.getElem?_eq_some_iff.1 h1).1, cs, T, f, h1, h2⟩⟩
  refine (h (ctx0 w) w vs hr hM fun id _ => rfl).mono ?_
  rintro e w' ⟨v, r, m', c', rfl, ⟨rfl, rfl⟩, hrel, _, hs, _⟩
  simp only [Rel, RelD] at hrel
  subst hrel
  exact ⟨rfl, hs.os, hs.tape, hs.output, hs.size, fun b hb => hs.keep b hb fun ⟨id, h1, _⟩ => by simp [mget] at h1⟩

section
variable {H : Type} {enc : TypeId × Value → H} {P : Program} {w : World} {base : Nat} {spare : Nat → Bool} {held : Bool} {t : TypeId} {v : Value} {d : DataW H} {p : List MemPlace}

theorem arg_one {k : Nat} {s : Sh} (hs : shOf P k t = some [s]) (hv : v.cells = #[v]) (h : DataW.Trod enc P w base spare held t v d p) : ∃ x, Fits s x ∧ Rel (ctx0 w) w (.d x) v := by
  obtain ⟨fuel, hf⟩ := h
  obtain ⟨ds, h1, h2⟩ := trod_rel (I := (ctx0 w).imm) (fun b hb => hb) k t [s] fuel _ _ hs hf
  simp only [FitsL] at h1
  obtain ⟨x, r, rfl, h3, rfl⟩ := h1
  rw [hv] at h2
  simp only [RelDL, List.cons.injEq] at h2
  obtain ⟨u, r, ⟨h4, _⟩, h5, _⟩ := h2
  subst h4
  exact ⟨x, h3, by simp only [Rel]; exact h5⟩

end

theorem fits_sl_ints {d : DV} (h : Fits (.sl [.int .i64]) d) : ∃ l : List Int, IsInts l d := by
  simp only [Fits] at h
  rcases h with rfl | ⟨rows, rfl, hm, hr⟩
  · exact ⟨[], by simp, .inl ⟨rfl, rfl⟩⟩
  · have : ∀ rows : List (List DV), (∀ r ∈ rows, FitsL [.int .i64] r) → ∃ l : List Int, l.length = rows.length ∧ rows.flatten = l.map (.int .i64) := by
      intro rows
      induction rows with
      | nil => intro _; exact ⟨[], rfl, rfl⟩
      | cons r rows ih =>
        intro h
        obtain ⟨l, h1, h2⟩ := ih fun r hr => h r (List.mem_cons_of_mem _ hr)
        have h3 := h r List.mem_cons_self
        simp only [FitsL, Fits] at h3
        obtain ⟨d, r', rfl, ⟨n, rfl, _⟩, rfl⟩ := h3
        exact ⟨n :: l, by simp [h1], by simp [h2]⟩
    obtain ⟨l, h1, h2⟩ := this rows hr
    refine ⟨l, ?_, .inr ?_⟩
    · have : maxLen = 9223372036854775807 := rfl
      simp; omega
    · simp [h1, h2]

end Go.Jq

/-! The abstract layer, part 30: slices of structs, and of slices of them, out of a row's reading. -/
namespace Go.Jq
open Go

end Go.Jq

/-! The abstract layer, part 33: more values out of a row's reading. -/
namespace Go.Jq
open Go Go.ChangeShapes

section
variable {H : Type} {enc : TypeId × Value → H} {P : Program} {w : World} {base : Nat} {spare : Nat → Bool} {held : Bool}

theorem trodAll_1 {t0 : TypeId} {args : Array Value} {ds : List (DataW H)} {ps : List MemPlace} (h : DataW.TrodAll enc P w base spare held [t0] args.toList ds ps) :
    ∃ v0 d0 p0, args = #[v0] ∧ ds = [d0] ∧ ps = p0 ∧ DataW.Trod enc P w base spare held t0 v0 d0 p0 := by
  obtain ⟨v0, a0, d0, b0, p0, q0, ha, rfl, rfl, h0, h⟩ := trodAll_cons h
  obtain ⟨rfl, rfl, rfl⟩ := trodAll_nil h
  exact ⟨v0, d0, p0, by cases args; simp_all, rfl, by simp, h0⟩

end
end Go.Jq

/- What the listed tables give the calls. -/
namespace Go.Proofs.YtpfbljkfbjjlkaaDoor
open Go Go.Jq Go.ChangeShapes Go.WideShapes Go.ChangeAt Go.RowKit
set_option linter.unusedVariables false

theorem own : ownKnob Tryd.prog.godebug = none := by kernel_rfl
theorem laidOut : laidOutB Tryd.prog = true := by kernel_rfl

def laidL : List (String × DataW Unit) := [("math/bits.deBruijn32tab", Rows.laid_math_bits_deBruijn32tab), ("math/bits.deBruijn64tab", Rows.laid_math_bits_deBruijn64tab), ("internal/strconv.uint64pow10", Rows.laid_internal_strconv_uint64pow10), ("strconv.ErrRange", Rows.laid_strconv_ErrRange), ("strconv.ErrSyntax", Rows.laid_strconv_ErrSyntax)]

/-- The door's own heap meets the condition. -/
theorem door_met (os : Os) (args : Array Value) : laidMetH Tryd.prog laidL ((World.doorLaid Tryd.prog 400 os).forCall (fun _ _ => 0) ⟨#[], args, []⟩).memory :=
  laidMetH_of_parts3 (fuel := 8) (laidMet_of_run' 8 (by kernel_rfl) (by kernel_rfl)) (by kernel_rfl) (by kernel_rfl)

theorem err_iface : ∃ ms, Tryd.prog.underlying 109 = some (.interface ms) := by
  have h : (match Tryd.prog.underlying 109 with | some (.interface _) => true | _ => false) = true := by kernel_rfl
  split at h
  · rename_i ms hms
    exact ⟨ms, hms⟩
  · cases h

set_option maxRecDepth 100000 in
theorem tab_of_laid {W : World} (h : laidMetH Tryd.prog laidL W) : ∀ g Φ, tabC g = some Φ → ∃ cs T f, W.heap[g]? = some (.cells cs T f) ∧ Φ cs := by
  rw [MakeChecks.laidMetH_plain _ _ _ (by kernel_rfl)] at h
  obtain ⟨ps, ⟨g0, t0, cs0, f0, p0, q0, hg0, ht0, hv0, hd0, ⟨g1, t1, cs1, f1, p1, q1, hg1, ht1, hv1, hd1, ⟨g2, t2, cs2, f2, p2, q2, hg2, ht2, hv2, hd2, ⟨g3, t3, cs3, f3, p3, q3, hg3, ht3, hv3, hd3, ⟨g4, t4, cs4, f4, p4, q4, hg4, ht4, hv4, hd4, _, _⟩, _⟩, _⟩, _⟩, _⟩, _, _⟩ := h
  obtain rfl := Option.some.inj (gTab.symm.trans hg2)
  have gR : Tryd.prog.globalNamed "strconv.ErrRange" = some 1 := by kernel_rfl
  have gS : Tryd.prog.globalNamed "strconv.ErrSyntax" = some 0 := by kernel_rfl
  obtain rfl := Option.some.inj (gR.symm.trans hg3)
  obtain rfl := Option.some.inj (gS.symm.trans hg4)
  have hty : (Tryd.prog.globals[3]?).map (·.type) = some 150 := by kernel_rfl
  have ty1 : (Tryd.prog.globals[0]?).map (·.type) = some 109 := by kernel_rfl
  have ty2 : (Tryd.prog.globals[1]?).map (·.type) = some 109 := by kernel_rfl
  obtain rfl := Option.some.inj (hty.symm.trans ht2)
  obtain rfl := Option.some.inj (ty2.symm.trans ht3)
  obtain rfl := Option.some.inj (ty1.symm.trans ht4)
  obtain ⟨ms, hms⟩ := err_iface
  obtain ⟨_, u3, v3, hc3, _⟩ := iface_of_trod hms hd3
  obtain ⟨_, u4, v4, hc4, _⟩ := iface_of_trod hms hd4
  have hcs := Lib.cells_of_tab (n := 20) (e := 69) (k := .u64) (zs := Lib.pow10Tab) (by kernel_rfl) (by kernel_rfl) (by kernel_rfl) (by kernel_rfl) hd2
  unfold World.var? at hv2 hv3 hv4
  rw [gTab] at hv2
  rw [gR] at hv3
  rw [gS] at hv4
  simp only [Option.bind_some] at hv2 hv3 hv4
  have row : ∀ {b : Nat} {cs : Array Value}, (match W.heap[b]? with | some (Obj.cells cs _ _) => some cs | _ => none) = some cs → ∃ T f, W.heap[b]? = some (.cells cs T f) := by
    intro b cs h
    split at h
    · rename_i c T f hc
      obtain rfl := Option.some.inj h
      exact ⟨T, f, hc⟩
    · cases h
  obtain ⟨T2, f2', r2⟩ := row hv2
  obtain ⟨T3, f3', r3⟩ := row hv3
  obtain ⟨T4, f4', r4⟩ := row hv4
  intro g Φ hg
  simp only [tabC] at hg
  split at hg
  · rename_i h0
    subst h0
    refine ⟨_, _, _, r2, ?_⟩
    obtain rfl := Option.some.inj hg
    show cs2 = _
    apply Array.ext'
    rw [hcs]
    rfl
  · split at hg
    · rename_i h12
      obtain rfl := Option.some.inj hg
      rcases h12 with rfl | rfl
      · exact ⟨_, _, _, r4, u4, v4, Array.ext' hc4⟩
      · exact ⟨_, _, _, r3, u3, v3, Array.ext' hc3⟩
    · cases hg

end Go.Proofs.YtpfbljkfbjjlkaaDoor

/- num.Parse: in the model's words. -/
namespace Go.Proofs.YtpfbljkfbjjlkaaDoor
open Go Go.Jq Go.RowKit
set_option maxRecDepth 100000
set_option linter.unusedSimpArgs false

theorem bytes_eq {a b : ByteArray} (h : a.data.toList = b.data.toList) : a = b := by
  cases a; cases b
  simp only [Array.toList_inj] at h
  rw [h]

theorem tab_below {w w' : World} (h : Lib.TabIs Tryd.prog w "internal/strconv.uint64pow10" .u64 Lib.pow10Tab) (hb : Below w.heap.size w w') : Lib.TabIs Tryd.prog w' "internal/strconv.uint64pow10" .u64 Lib.pow10Tab := by
  unfold Lib.TabIs World.var? at h ⊢
  rw [gTab] at h ⊢
  simp only [Option.bind_some] at h ⊢
  cases h0 : w.heap[3]? with
  | none => rw [h0] at h; cases h
  | some o =>
    have hlt : 3 < w.heap.size := by
      rcases Nat.lt_or_ge 3 w.heap.size with h' | h'
      · exact h'
      · rw [Array.getElem?_eq_none h'] at h0; cases h0
    rw [hb.block 3 hlt]
    exact h

theorem below_of_grow {w w' : World} {k : Nat} {os : Array Obj} (h : w' = Go.Sort.grow (w.drewN k) os) : Below w.heap.size w w' := by
  subst h
  refine ⟨rfl, rfl, rfl, ?_, fun j hj => ?_⟩
  · simp [Go.Sort.grow, World.drewN]
  · simp only [Go.Sort.grow, World.drewN]
    exact Array.getElem?_append_left hj

set_option maxHeartbeats 2000000 in
theorem calls_text {n : Int} (hn : I64 n) (s : ByteArray) (hs : s.data.toList = Lib.itoa n) (w : World) (htab : Lib.TabIs Tryd.prog w "internal/strconv.uint64pow10" .u64 Lib.pow10Tab) :
    Calls Tryd.prog 69 #[.int .i64 n] w fun e w' => e = .returned (.string s) ∧ Below w.heap.size w w' := by
  have hI := Tryd.strconv_FormatInt_10 n hn.1 hn.2 w htab
  have hs' : (⟨(Lib.itoa n).toArray⟩ : ByteArray) = s := by
    cases s with
    | mk d => cases d with
      | mk l => simp only at hs; rw [hs]
  rw [hs'] at hI
  clear hs hs' htab hn
  go_enter Tryd.func69, Tryd.ntmps69
  go_wp2_with (go_at_call 89; refine hI.mono ?_)
  rintro e W1 ⟨rfl, k, os, hW⟩
  have hb := below_of_grow hW
  clear hW
  go_wp2
  go_ret
  exact ⟨rfl, hb⟩

set_option maxHeartbeats 2000000 in
theorem calls_parse_ok (s : ByteArray) (hmax : s.size ≤ 9223372036854775806) (n : Int) (h : Lib.parseIntB 64 s.data.toList = .ok n) (hn : I64 n) (w : World) (htab : Lib.TabIs Tryd.prog w "internal/strconv.uint64pow10" .u64 Lib.pow10Tab)
    (s' : ByteArray) (hs : s'.data.toList = Lib.itoa n) : Calls Tryd.prog 37 #[.string s] w fun e w' => e = .returned (.tuple #[.int .i64 (if s' = s then n else 0), .bool (decide (s' = s))]) ∧ Below w.heap.size w w' := by
  have hI := Any.strconv_ParseInt_10_at64_ok Tryd.laysC174 s hmax n h w
  have hT : ∀ W1, Below w.heap.size w W1 → Calls Tryd.prog 69 #[.int .i64 n] W1 fun e w' => e = .returned (.string s') ∧ Below W1.heap.size W1 w' := fun W1 hb => calls_text hn s' hs W1 (tab_below htab hb)
  clear h htab hs hn
  go_enter Tryd.func37, Tryd.ntmps37
  go_wp2_with (go_at_call 68; refine hI.mono ?_)
  rintro e W1 ⟨rfl, hW⟩
  have hb1 : Below w.heap.size w W1 := by
    rcases hW with rfl | ⟨t, rfl⟩
    · exact Below.refl _ _
    · exact Lib.bytesWorld_below _ _ _
  have hT1 := hT W1 hb1
  clear hW hT hI
  go_wp2_with (go_at_call 69; refine hT1.mono ?_)
  rintro e W2 ⟨rfl, hb2⟩
  have hb := hb1.trans (hb2.mono hb1.size)
  clear hT1 hb1 hb2
  by_cases hss : s' = s
  · subst hss
    go_wp2
    go_ret2
    simp only [if_true, decide_true]
    exact ⟨rfl, hb⟩
  · have ht : ¬ s'.toList = s.toList := fun e => hss (by
      simp only [ByteArray.toList_eq] at e
      exact bytes_eq e)
    go_wp2
    · go_ret2
      simp only [hss, if_false, decide_false]
      exact ⟨rfl, hb⟩
    · rename_i hx
      exact absurd (by simpa using hx) ht

theorem calls_pint_err (s : ByteArray) (hlim : s.size ≤ 281474976710656) (w : World) (h : Lib.parseIntB 64 s.data.toList = Lib.parseIntB 64 [] ∨ Lib.parseIntB 64 s.data.toList = .range)
    (h1 : ∃ t p, w.cell? ⟨0, 0, none⟩ = some (.iface t p)) (h2 : ∃ t p, w.cell? ⟨1, 0, none⟩ = some (.iface t p)) :
    Calls Tryd.prog 68 #[.string s, .int .i64 10, .int .i64 64] w fun e w' => ∃ v N, e = .returned (.tuple #[.int .i64 v, .iface 130 (.pointer (some ⟨N, 0, none⟩))]) ∧ Below w.heap.size w w' := by
  rcases h with h | h
  · obtain ⟨t, p, hv⟩ := h1
    refine (Any.strconv_ParseInt_10_at64_syntax Tryd.laysC174 s hlim h _ w hv (.inr ⟨t, p, rfl⟩)).mono ?_
    rintro e w' ⟨N, rfl, _, _, hb⟩
    exact ⟨0, N, rfl, hb⟩
  · obtain ⟨t, p, hv⟩ := h2
    refine (Any.strconv_ParseInt_10_at64_range Tryd.laysC174 s hlim h _ w hv (.inr ⟨t, p, rfl⟩)).mono ?_
    rintro e w' ⟨N, rfl, _, _, hb⟩
    exact ⟨_, N, rfl, hb⟩

set_option maxHeartbeats 2000000 in
theorem calls_parse_err (s : ByteArray) (hlim : s.size ≤ 281474976710656) (w : World) (h : Lib.parseIntB 64 s.data.toList = Lib.parseIntB 64 [] ∨ Lib.parseIntB 64 s.data.toList = .range)
    (h1 : ∃ t p, w.cell? ⟨0, 0, none⟩ = some (.iface t p)) (h2 : ∃ t p, w.cell? ⟨1, 0, none⟩ = some (.iface t p)) :
    Calls Tryd.prog 37 #[.string s] w fun e w' => e = .returned (.tuple #[.int .i64 0, .bool false]) ∧ Below w.heap.size w w' := by
  have hI := calls_pint_err s hlim w h h1 h2
  clear h h1 h2
  go_enter Tryd.func37, Tryd.ntmps37
  go_wp2_with (go_at_call 68; refine hI.mono ?_)
  rintro e W1 ⟨v, N, rfl, hb⟩
  go_wp2
  go_ret2
  exact ⟨rfl, hb⟩

/-- What num.Parse tells. -/
def parseW (s : List UInt8) : Int × Bool :=
  match Lib.parseIntB 64 s with
  | .ok n => if Lib.itoa n = s then (n, true) else (0, false)
  | _ => (0, false)

theorem ofItoa (n : Int) : (⟨(Lib.itoa n).toArray⟩ : ByteArray).data.toList = Lib.itoa n := by simp

theorem bytes_mk (s : List UInt8) : (⟨s.toArray⟩ : ByteArray).data.toList = s := by simp

theorem bytes_size (s : List UInt8) : (⟨s.toArray⟩ : ByteArray).size = s.length := by simp [ByteArray.size]

theorem tab_cell {c : Ctx} {m : Mem} {w : World} (h : MR c m w) (g : Nat) (hg : g = 0 ∨ g = 1) : ∃ t p, w.cell? ⟨g, 0, none⟩ = some (.iface t p) := by
  have : ∃ Φ, tabC g = some Φ ∧ ∀ cs, Φ cs → ∃ t p, cs = #[Value.iface t p] := by
    rcases hg with rfl | rfl <;> exact ⟨_, rfl, fun _ h => h⟩
  obtain ⟨Φ, hΦ, hc⟩ := this
  obtain ⟨_, cs, T, f, h1, h2⟩ := h.tab g Φ hΦ
  obtain ⟨t, p, rfl⟩ := hc cs h2
  refine ⟨t, p, ?_⟩
  simp [World.cell?, h1]

theorem parse_pure {s : List UInt8} (h : s.length ≤ 281474976710656) : Pure Tryd.prog 37 [.d (.str s)] (.tup [.d (.int .i64 (parseW s).1), .d (.bool (parseW s).2)]) := by
  refine pure_of_below fun c w vs hr hM => ?_
  simp only [RelL, Rel, RelD] at hr
  obtain ⟨v1, vs1, rfl, rfl, rfl⟩ := hr
  have hs := bytes_mk s
  have hz := bytes_size s
  have key : Calls Tryd.prog 37 #[.string ⟨s.toArray⟩] w fun e w' => e = .returned (.tuple #[.int .i64 (parseW s).1, .bool (parseW s).2]) ∧ Below w.heap.size w w' := by
    have hE := calls_parse_err ⟨s.toArray⟩ (by omega) w
    rw [hs] at hE
    unfold parseW
    rcases hp : Lib.parseIntB 64 s with n | _ | _
    rotate_left
    · exact hE (.inl hp) (tab_cell hM 0 (.inl rfl)) (tab_cell hM 1 (.inr rfl))
    · exact hE (.inr hp) (tab_cell hM 0 (.inl rfl)) (tab_cell hM 1 (.inr rfl))
    · have hn : I64 n := by
        have := Lib.parseIntB_bounds hp
        simp at this
        unfold I64; omega
      have := calls_parse_ok ⟨s.toArray⟩ (by omega) n (by rw [hs]; exact hp) hn w (tabIs hM) ⟨(Lib.itoa n).toArray⟩ (ofItoa n)
      refine this.mono ?_
      rintro e w' ⟨rfl, hb⟩
      refine ⟨?_, hb⟩
      by_cases he : Lib.itoa n = s
      · simp [he]
      · have : ¬ (⟨(Lib.itoa n).toArray⟩ : ByteArray) = ⟨s.toArray⟩ := fun e => he (by have := congrArg (fun b : ByteArray => b.data.toList) e; simpa using this)
        simp [he, this]
  refine key.mono ?_
  rintro e w' ⟨rfl, hb⟩
  exact ⟨_, rfl, hb.os, hb.tape, hb.output, hb.size, fun k hk => hb.block k hk, (by simp [Rel, RelL, RelD])⟩

end Go.Proofs.YtpfbljkfbjjlkaaDoor

/- Whole numbers of 64 bits: plain laws. -/
namespace Go.Proofs.YtpfbljkfbjjlkaaDoor
open Go Go.Jq
set_option maxRecDepth 100000
set_option linter.unusedSimpArgs false

theorem u64_mod (n : Int) : IntKind.u64.wrap n = n % 18446744073709551616 := by
  simp only [IntKind.wrap, IntKind.signed, IntKind.bits, Bool.false_and, Bool.false_eq_true, if_false]
  rfl

theorem i64_mod (n : Int) : IntKind.i64.wrap (n % 18446744073709551616) = IntKind.i64.wrap n := by
  have e : (2 : Int) ^ 64 = 18446744073709551616 := rfl
  simp only [IntKind.wrap, IntKind.signed, IntKind.bits, e, Int.emod_emod]

/-! ### Bits -/

def bv (n : Int) : BitVec 64 := BitVec.ofInt 64 n

theorem wrap_bv (n : Int) : IntKind.i64.wrap n = (bv n).toInt := by
  unfold bv
  rw [BitVec.toInt_ofInt, Int.bmod_def]
  have e1 : (2 : Int) ^ 64 = 18446744073709551616 := rfl
  have e2 : (2 : Int) ^ 63 = 9223372036854775808 := rfl
  simp only [IntKind.wrap, IntKind.signed, IntKind.bits, Bool.true_and, Nat.reduceSub, e1, e2, decide_eq_true_eq, ge_iff_le]
  simp only [Nat.reducePow]
  split <;> split <;> omega

theorem bv_id {n : Int} (h : I64 n) : (bv n).toInt = n := by
  rw [← wrap_bv]
  unfold I64 at h
  have e1 : (2 : Int) ^ 64 = 18446744073709551616 := rfl
  have e2 : (2 : Int) ^ 63 = 9223372036854775808 := rfl
  simp only [IntKind.wrap, IntKind.signed, IntKind.bits, Bool.true_and, Nat.reduceSub, e1, e2, decide_eq_true_eq, ge_iff_le]
  split <;> omega

theorem wrap_id {n : Int} (h : I64 n) : IntKind.i64.wrap n = n := by rw [wrap_bv, bv_id h]

theorem wrap_nat (v : BitVec 64) : IntKind.i64.wrap v.toNat = v.toInt := by
  rw [wrap_bv]
  congr 1
  unfold bv
  simp

theorem bits_and_bv (a b : Int) : bits .and .i64 a b = (bv a &&& bv b).toInt := wrap_nat _
theorem and_mask (k : Int) (m : Nat) (hm : m < 9223372036854775808) : 0 ≤ bits .and .i64 k m ∧ bits .and .i64 k m ≤ m := by
  have h : (bv k &&& bv m).toNat ≤ m := by
    rw [BitVec.toNat_and]
    refine Nat.le_trans Nat.and_le_right ?_
    unfold bv
    simp
    omega
  rw [bits_and_bv, ← wrap_nat, wrap_id (by unfold I64; omega)]
  omega

end Go.Proofs.YtpfbljkfbjjlkaaDoor

/- Numbers' texts: plain laws. -/
namespace Go.Proofs.YtpfbljkfbjjlkaaDoor
open Go Go.Jq
set_option maxRecDepth 100000
set_option linter.unusedSimpArgs false

/-! ### Texts -/

theorem parseUintM_digit (M acc d : Nat) (r : List UInt8) (hd : d < 10) (ha : acc < 1844674407370955162) (hM : acc * 10 + d ≤ M) : Lib.parseUintM M acc (UInt8.ofNat (48 + d) :: r) = Lib.parseUintM M (acc * 10 + d) r := by
  have h1 : (UInt8.ofNat (48 + d)).toNat = 48 + d := by simp; omega
  rw [Lib.parseUintM, h1, if_pos (by omega), if_neg (by omega), if_neg (by omega)]
  congr 1
  omega

theorem parseUintM_dec (u : Nat) : ∀ (r : List UInt8), u ≤ 18446744073709551615 → Lib.parseUintM 18446744073709551615 0 (Lib.decDigits u ++ r) = Lib.parseUintM 18446744073709551615 u r := by
  induction u using Nat.strongRecOn with
  | _ u ih =>
    intro r hu
    by_cases h : u < 10
    · rw [Lib.decDigits_one h]
      have := parseUintM_digit 18446744073709551615 0 u r h (by omega) (by omega)
      simpa using this
    · rw [Lib.decDigits, dif_neg h, List.append_assoc, ih (u / 10) (by omega) _ (by omega), List.singleton_append, parseUintM_digit _ _ _ _ (by omega) (by omega) (by omega)]
      congr 1
      omega

theorem decDigits_ne (u : Nat) : Lib.decDigits u ≠ [] := by
  intro h
  have := Lib.decDigits_length u
  rw [h] at this
  have := Lib.nDigits_pos u
  simp at *
  omega

theorem parseUintB_dec {u : Nat} (hu : u ≤ 18446744073709551615) : Lib.parseUintB 64 (Lib.decDigits u) = .ok u := by
  unfold Lib.parseUintB
  rw [if_neg (decDigits_ne u)]
  have := parseUintM_dec u [] hu
  rw [List.append_nil] at this
  rw [show 2 ^ 64 - 1 = 18446744073709551615 from rfl, this]
  rfl

/-- The head of a number's digits is a digit; it is a nought of nought alone. -/
theorem decDigits_head (u : Nat) : ∃ (d : Nat) (r : List UInt8), Lib.decDigits u = UInt8.ofNat (48 + d) :: r ∧ d < 10 ∧ (d = 0 → u = 0) := by
  induction u using Nat.strongRecOn with
  | _ u ih =>
    by_cases h : u < 10
    · exact ⟨u, [], Lib.decDigits_one h, h, id⟩
    · obtain ⟨d, r, h1, h2, h3⟩ := ih (u / 10) (by omega)
      refine ⟨d, r ++ [UInt8.ofNat (48 + u % 10)], ?_, h2, fun hd => ?_⟩
      · rw [Lib.decDigits, dif_neg h, h1]; rfl
      · have := h3 hd; omega

theorem parse_itoa {n : Int} (h : I64 n) : Lib.parseIntB 64 (Lib.itoa n) = .ok n := by
  obtain ⟨h0, h1⟩ := h
  unfold Lib.itoa
  split
  · rename_i hn
    rw [Lib.parseIntB_minus, parseUintB_dec (by omega)]
    simp only [Lib.signedC]
    rw [if_neg (by simp; omega)]
    congr 1
    omega
  · rename_i hn
    obtain ⟨d, r, hd, hd1, _⟩ := decDigits_head n.toNat
    have hc : (UInt8.ofNat (48 + d)).toNat = 48 + d := by simp; omega
    have hp := parseUintB_dec (u := n.toNat) (by omega)
    rw [hd] at hp ⊢
    rw [Lib.parseIntB_plain _ _ _ (by omega) (by omega), hp]
    simp only [Lib.signlessC]
    rw [if_neg (by simp; omega)]
    congr 1
    omega

theorem parseW_itoa {n : Int} (h : I64 n) : parseW (Lib.itoa n) = (n, true) := by
  unfold parseW
  rw [parse_itoa h]
  simp

theorem parseW_text {s : List UInt8} (h : (parseW s).2 = true) : Lib.itoa (parseW s).1 = s ∧ I64 (parseW s).1 := by
  unfold parseW at h ⊢
  rcases hp : Lib.parseIntB 64 s with n | _ | _
  · rw [hp] at h
    simp only at h ⊢
    split at h
    · rename_i he
      rw [if_pos he]
      refine ⟨he, ?_⟩
      have := Lib.parseIntB_bounds hp
      simp at this
      unfold I64; omega
    · cases h
  · rw [hp] at h; cases h
  · rw [hp] at h; cases h

theorem parseW_no {s : List UInt8} (h : (parseW s).2 = false) : parseW s = (0, false) := by
  unfold parseW at h ⊢
  rcases hp : Lib.parseIntB 64 s with n | _ | _
  · rw [hp] at h
    simp only at h ⊢
    split at h
    · cases h
    · rename_i he
      rw [if_neg he]
  · rfl
  · rfl

end Go.Proofs.YtpfbljkfbjjlkaaDoor

/- The abstract layer: guards that hang on a test not yet decided. -/
namespace Go.Jq
open Go

section
variable {P : Program} {dst : Option Nat} {op : AOp} {r : List AOper} {K : St → Prop} {t : Fr} {m : Mem} {n : Nat} {want b : Bool} {acc : List Foot} {ms : List Nat}

theorem gateK_split (h1 : b = true → gateK P dst op r K t m n want (.d (.bool true))) (h0 : b = false → gateK P dst op r K t m n want (.d (.bool false))) : gateK P dst op r K t m n want (.d (.bool b)) := by
  cases b
  · exact h0 rfl
  · exact h1 rfl

theorem dGateK_split (h1 : b = true → dGateK P dst op r acc ms K t m n want (.d (.bool true))) (h0 : b = false → dGateK P dst op r acc ms K t m n want (.d (.bool false))) : dGateK P dst op r acc ms K t m n want (.d (.bool b)) := by
  cases b
  · exact h0 rfl
  · exact h1 rfl

end

end Go.Jq

/- The document's numbers' texts. -/
namespace Go.Proofs.YtpfbljkfbjjlkaaDoor
open Go Go.Jq
set_option maxRecDepth 100000
set_option linter.unusedSimpArgs false

def dropSeq : Nat → ACode → ACode
  | 0, c => c
  | n + 1, .seq _ b => dropSeq n b
  | _, c => c

theorem digits_at : ∀ k : Fin 10, List.drop k.1 ((48 : UInt8) :: List.take k.1 [49, 50, 51, 52, 53, 54, 55, 56, 57]) = [UInt8.ofNat (48 + k.1)] := by decide

theorem wrap_u64_neg {n : Int} (h0 : -9223372036854775808 ≤ n) (h1 : n < 0) : IntKind.u64.wrap n = n + 18446744073709551616 := by
  unfold IntKind.wrap
  simp only [IntKind.signed, IntKind.bits, Bool.false_and, Bool.false_eq_true, if_false]
  omega

/-- The state in Text. -/
def rtS (u : Nat) (s sg : List UInt8) : St := ⟨[(3, .d (.int .u64 u)), (5, .d (.str s)), (4, .d (.str sg))], [], 0⟩

set_option maxHeartbeats 2000000 in
theorem rt_loop {u0 : Nat} (hu : u0 < 18446744073709551616) {sg : List UInt8} {Q : Exit → St → Prop}
    (hQ : ∀ u s, u < 10 → Lib.decDigits u0 = UInt8.ofNat (48 + u) :: s → Q (.exit 0) (rtS u s sg)) :
    BWP Tryd.prog (mbound []) 37 (.loop ac19L0) (rtS u0 [] sg) Q := by
  refine bwp_fam (ι := { p : Nat × List UInt8 // p.1 ≤ u0 ∧ Lib.decDigits u0 = Lib.decDigits p.1 ++ p.2 ∧ p.2.length + Lib.nDigits p.1 = Lib.nDigits u0 }) (fun p => rtS p.1.1 p.1.2 sg) (fun p => p.1.1) ⟨(u0, []), Nat.le_refl _, by simp, by simp⟩ ?_
  rintro ⟨⟨u, s⟩, hle, he, hln⟩
  simp only at hle he hln ⊢
  have hn0 := nDigits_le 19 u0 (by simp; omega)
  unfold ac19L0 rtS
  by_cases hb : 9 < u
  · have hb' : (9 : Int) < (u : Int) := by omega
    have hr : u % 10 < 10 := Nat.mod_lt _ (by omega)
    have hw : IntKind.i64.wrap ((u % 10 : Nat) : Int) = ((u % 10 : Nat) : Int) := wrap_i64 (by omega) (by omega)
    have hw1 : IntKind.i64.wrap (((u % 10 : Nat) : Int) + 1) = ((u % 10 + 1 : Nat) : Int) := by rw [wrap_i64 (by omega) (by omega)]; rfl
    have hw2 : IntKind.u64.wrap ((u / 10 : Nat) : Int) = ((u / 10 : Nat) : Int) := wrap_u64 (by omega) (by omega)
    have hdg := digits_at ⟨u % 10, hr⟩
    have e1 : (u : Int).tmod 10 = ((u % 10 : Nat) : Int) := rfl
    have e2 : (u : Int).tdiv 10 = ((u / 10 : Nat) : Int) := rfl
    have hd : Lib.decDigits u = Lib.decDigits (u / 10) ++ [UInt8.ofNat (48 + u % 10)] := by rw [Lib.decDigits, dif_neg (by omega)]
    have hnd : Lib.nDigits u = Lib.nDigits (u / 10) + 1 := Lib.nDigits_big (by omega)
    have b1 : 1 + s.length ≤ 9223372036854775807 := by have := Lib.nDigits_pos u; omega
    simp only at hdg
    refine bwp_seq fun K1 hK1 => ?_
    refine bwp_seq fun K hK => bwp_region rfl ?_
    simp -implicitDefEqProofs only [go_sem, ↓reduceIte, Nat.reduceEqDiff, Nat.reduceAdd, Nat.reduceLeDiff, Nat.reduceMul, Nat.reduceSub, Int.reduceLE, Int.reduceLT, Int.reduceEq, Int.reduceToNat, Int.reducePow, Int.reduceNeg, hb']
    refine hK _ ?_; clear hK
    refine bwp_cond true (by simp [ev, fget, hb']) (fun _ => ?_) (fun h => nomatch h)
    refine bwp_skip ?_
    refine hK1 _ ?_; clear hK1
    refine bwp_block ?_
    generalize hq : u % 10 = q at *
    have q1 : (0 : Int) ≤ (q : Int) := Int.natCast_nonneg _
    have q2 : q ≤ q + 1 ∧ q + 1 ≤ 10 := by omega
    have q3 : (0 : Int) ≤ ((q + 1 : Nat) : Int) := Int.natCast_nonneg _
    have q4 : q ≤ q + 1 := by omega
    have q5 : q + 1 ≤ 10 := by omega
    refine bwp_seq fun K hK => bwp_region rfl ?_
    simp -implicitDefEqProofs only [go_sem, ↓reduceIte, Nat.reduceEqDiff, Nat.reduceAdd, Nat.reduceLeDiff, Nat.reduceMul, Nat.reduceSub, Int.reduceLE, Int.reduceLT, Int.reduceEq, Int.reduceToNat, Int.reducePow, Int.reduceNeg, e1, hw]
    refine hK _ ?_; clear hK
    refine bwp_seq fun K hK => bwp_region rfl ?_
    simp -implicitDefEqProofs only [go_sem, ↓reduceIte, Nat.reduceEqDiff, Nat.reduceAdd, Nat.reduceLeDiff, Nat.reduceMul, Nat.reduceSub, Int.reduceLE, Int.reduceLT, Int.reduceEq, Int.reduceToNat, Int.reducePow, Int.reduceNeg, hw1, q1, q3, Int.toNat_natCast, List.length_cons, List.length_nil, Nat.zero_add, q2, q4, q5, hdg, b1, Option.map_some]
    refine hK _ ?_; clear hK
    refine bwp_region rfl ?_
    simp -implicitDefEqProofs only [go_sem, ↓reduceIte, Nat.reduceEqDiff, Nat.reduceAdd, Nat.reduceLeDiff, Nat.reduceMul, Nat.reduceSub, Int.reduceLE, Int.reduceLT, Int.reduceEq, Int.reduceToNat, Int.reducePow, Int.reduceNeg, e2, hw2]
    refine ⟨⟨(u / 10, UInt8.ofNat (48 + q) :: s), by simp only; omega, by simp only; rw [he, hd]; simp, by simp only [List.length_cons]; omega⟩, by simp only; omega, ?_⟩
    exact Leads.ent [] ⟨by simp [entT, fget, AV.ren, renL, pget, rtS], by simp [entM, rtS], rfl, rfl⟩
  · have hb' : ¬ (9 : Int) < (u : Int) := by omega
    refine bwp_seq fun K1 hK1 => ?_
    refine bwp_seq fun K hK => bwp_region rfl ?_
    simp -implicitDefEqProofs only [go_sem, ↓reduceIte, Nat.reduceEqDiff, Nat.reduceAdd, Nat.reduceLeDiff, Nat.reduceMul, Nat.reduceSub, Int.reduceLE, Int.reduceLT, Int.reduceEq, Int.reduceToNat, Int.reducePow, Int.reduceNeg, hb']
    refine hK _ ?_; clear hK
    refine bwp_cond false (by simp [ev, fget, hb']) (fun h => nomatch h) (fun _ => ?_)
    refine bwp_leads (S' := rtS u s sg) (Leads.ent [] ⟨by simp [entT, fget, AV.ren, renL, pget, rtS], by simp [entM, pinv, mget, mset, renL, AV.ren, pget, renL_append, -List.map_map, rtS], rfl, rfl⟩) ?_
    refine bwp_exit (hQ u s (by omega) ?_)
    rw [he, Lib.decDigits, dif_pos (by omega)]
    rfl

set_option maxHeartbeats 2000000 in
theorem refText_pure {n : Int} (h : I64 n) : Pure Tryd.prog 19 [.d (.int .i64 n)] (.d (.str (Lib.itoa n))) := by
  obtain ⟨h0, h1⟩ := h
  have hfin : ∀ (S : St) (sg : List UInt8) (K : St → Prop), sg.length ≤ 1 → Lib.itoa n = sg ++ Lib.decDigits n.natAbs → Leads (mbound []) 37 S ⟨[(3, .d (.int .u64 n.natAbs)), (4, .d (.str sg))], [], 0⟩ →
      (∀ S', BWP Tryd.prog (mbound []) 37 (dropSeq 4 ac19) S' (AEnd Tryd.prog #[.tmp 2] (mbound []) fun r m' => r = .d (.str (Lib.itoa n)) ∧ m' = []) → K S') → K S := by
    intro S sg K hsg hit hS hK
    refine hK _ ?_; clear hK
    refine bwp_leads hS ?_
    unfold ac19
    simp only [dropSeq]
    refine bwp_seq fun K hK => bwp_region rfl ?_
    simp -implicitDefEqProofs only [go_sem, ↓reduceIte, Nat.reduceEqDiff, Nat.reduceAdd, Nat.reduceLeDiff, Nat.reduceMul, Nat.reduceSub, Int.reduceLE, Int.reduceLT, Int.reduceEq, Int.reduceToNat, Int.reducePow, Int.reduceNeg]
    refine hK _ ?_; clear hK
    refine bwp_seq fun K1 hK1 => ?_
    refine bwp_block ?_
    refine bwp_leads (S' := rtS n.natAbs [] sg) (Leads.ent [] ⟨by simp [entT, fget, AV.ren, renL, pget, rtS], by simp [entM, pinv, mget, mset, renL, AV.ren, pget, renL_append, -List.map_map, rtS], rfl, rfl⟩) ?_
    refine rt_loop (by omega) ?_
    intro u s hu hd
    have hl := itoa_len (n := n) ⟨h0, h1⟩
    rw [hit, hd] at hl
    simp only [List.length_append, List.length_cons] at hl
    unfold rtS
    simp -implicitDefEqProofs only [go_sem, ↓reduceIte, Nat.reduceEqDiff, Nat.reduceAdd, Nat.reduceLeDiff, Nat.reduceMul, Nat.reduceSub, Int.reduceLE, Int.reduceLT, Int.reduceEq, Int.reduceToNat, Int.reducePow, Int.reduceNeg]
    refine hK1 _ ?_; clear hK1
    have hw : IntKind.i64.wrap (u : Int) = (u : Int) := wrap_i64 (by omega) (by omega)
    have hw1 : IntKind.i64.wrap ((u : Int) + 1) = ((u + 1 : Nat) : Int) := by rw [wrap_i64 (by omega) (by omega)]; rfl
    have hdg := digits_at ⟨u, hu⟩
    simp only at hdg
    have q1 : (0 : Int) ≤ (u : Int) := Int.natCast_nonneg _
    have q3 : (0 : Int) ≤ ((u + 1 : Nat) : Int) := Int.natCast_nonneg _
    have q4 : u ≤ u + 1 := by omega
    have q5 : u + 1 ≤ 10 := by omega
    have q2 : u ≤ u + 1 ∧ u + 1 ≤ 10 := ⟨q4, q5⟩
    have b1 : sg.length + 1 ≤ 9223372036854775807 := by omega
    have b2 : sg.length + 1 + s.length ≤ 9223372036854775807 := by omega
    refine bwp_seq fun K hK => bwp_region rfl ?_
    simp -implicitDefEqProofs only [go_sem, ↓reduceIte, Nat.reduceEqDiff, Nat.reduceAdd, Nat.reduceLeDiff, Nat.reduceMul, Nat.reduceSub, Int.reduceLE, Int.reduceLT, Int.reduceEq, Int.reduceToNat, Int.reducePow, Int.reduceNeg, hw]
    refine hK _ ?_; clear hK
    refine bwp_seq fun K hK => bwp_region rfl ?_
    simp -implicitDefEqProofs only [go_sem, ↓reduceIte, Nat.reduceEqDiff, Nat.reduceAdd, Nat.reduceLeDiff, Nat.reduceMul, Nat.reduceSub, Int.reduceLE, Int.reduceLT, Int.reduceEq, Int.reduceToNat, Int.reducePow, Int.reduceNeg, hw1, q1, q3, Int.toNat_natCast, List.length_cons, List.length_nil, List.length_append, Nat.zero_add, q2, q4, q5, hdg, b1, b2, Option.map_some]
    refine hK _ ?_; clear hK
    refine bwp_ret ?_
    simp only [go_sem]
    refine aend_ret _ rfl rfl ⟨?_, rfl⟩
    simp [fget, hit, hd]
  refine acalls_of Tryd.func19 ac19_ok Tryd.ntmps19 Tryd.results19 rfl ?_
  unfold ac19
  refine bwp_seq fun K hK => bwp_region rfl ?_
  simp -implicitDefEqProofs only [go_sem, ↓reduceIte, Nat.reduceEqDiff, Nat.reduceAdd, Nat.reduceLeDiff, Nat.reduceMul, Nat.reduceSub, Int.reduceLE, Int.reduceLT, Int.reduceEq, Int.reduceToNat, Int.reducePow, Int.reduceNeg]
  refine hK _ ?_; clear hK
  by_cases hn : n < 0
  · have hw := wrap_u64_neg h0 hn
    have hw2 : IntKind.u64.wrap (0 - (n + 18446744073709551616)) = (n.natAbs : Int) := by
      unfold IntKind.wrap
      simp only [IntKind.signed, IntKind.bits, Bool.false_and, Bool.false_eq_true, if_false]
      omega
    refine bwp_seq fun K hK => bwp_region rfl ?_
    simp -implicitDefEqProofs only [go_sem, ↓reduceIte, Nat.reduceEqDiff, Nat.reduceAdd, Nat.reduceLeDiff, Nat.reduceMul, Nat.reduceSub, Int.reduceLE, Int.reduceLT, Int.reduceEq, Int.reduceToNat, Int.reducePow, Int.reduceNeg, hw]
    refine hK _ ?_; clear hK
    refine bwp_seq fun K hK => bwp_region rfl ?_
    simp -implicitDefEqProofs only [go_sem, ↓reduceIte, Nat.reduceEqDiff, Nat.reduceAdd, Nat.reduceLeDiff, Nat.reduceMul, Nat.reduceSub, Int.reduceLE, Int.reduceLT, Int.reduceEq, Int.reduceToNat, Int.reducePow, Int.reduceNeg]
    refine hK _ ?_; clear hK
    refine bwp_seq fun K0 hK0 => ?_
    refine bwp_seq fun K hK => bwp_region rfl ?_
    simp -implicitDefEqProofs only [go_sem, ↓reduceIte, Nat.reduceEqDiff, Nat.reduceAdd, Nat.reduceLeDiff, Nat.reduceMul, Nat.reduceSub, Int.reduceLE, Int.reduceLT, Int.reduceEq, Int.reduceToNat, Int.reducePow, Int.reduceNeg, hn]
    refine hK _ ?_; clear hK
    refine bwp_cond true (by simp [ev, fget, hn]) (fun _ => ?_) (fun h => nomatch h)
    refine bwp_seq fun K hK => bwp_region rfl ?_
    simp -implicitDefEqProofs only [go_sem, ↓reduceIte, Nat.reduceEqDiff, Nat.reduceAdd, Nat.reduceLeDiff, Nat.reduceMul, Nat.reduceSub, Int.reduceLE, Int.reduceLT, Int.reduceEq, Int.reduceToNat, Int.reducePow, Int.reduceNeg, hw2]
    refine hK _ ?_; clear hK
    refine bwp_region rfl ?_
    simp -implicitDefEqProofs only [go_sem, ↓reduceIte, Nat.reduceEqDiff, Nat.reduceAdd, Nat.reduceLeDiff, Nat.reduceMul, Nat.reduceSub, Int.reduceLE, Int.reduceLT, Int.reduceEq, Int.reduceToNat, Int.reducePow, Int.reduceNeg]
    refine hfin _ [45] K0 (by simp) (by simp [Lib.itoa, hn]) ?_ hK0
    exact Leads.ent [] ⟨by simp [entT, fget, AV.ren, renL, pget], by simp [entM], rfl, rfl⟩
  · have hw : IntKind.u64.wrap n = (n.natAbs : Int) := by rw [wrap_u64 (by omega) (by omega)]; omega
    refine bwp_seq fun K hK => bwp_region rfl ?_
    simp -implicitDefEqProofs only [go_sem, ↓reduceIte, Nat.reduceEqDiff, Nat.reduceAdd, Nat.reduceLeDiff, Nat.reduceMul, Nat.reduceSub, Int.reduceLE, Int.reduceLT, Int.reduceEq, Int.reduceToNat, Int.reducePow, Int.reduceNeg, hw]
    refine hK _ ?_; clear hK
    refine bwp_seq fun K hK => bwp_region rfl ?_
    simp -implicitDefEqProofs only [go_sem, ↓reduceIte, Nat.reduceEqDiff, Nat.reduceAdd, Nat.reduceLeDiff, Nat.reduceMul, Nat.reduceSub, Int.reduceLE, Int.reduceLT, Int.reduceEq, Int.reduceToNat, Int.reducePow, Int.reduceNeg]
    refine hK _ ?_; clear hK
    refine bwp_seq fun K0 hK0 => ?_
    refine bwp_seq fun K hK => bwp_region rfl ?_
    simp -implicitDefEqProofs only [go_sem, ↓reduceIte, Nat.reduceEqDiff, Nat.reduceAdd, Nat.reduceLeDiff, Nat.reduceMul, Nat.reduceSub, Int.reduceLE, Int.reduceLT, Int.reduceEq, Int.reduceToNat, Int.reducePow, Int.reduceNeg, hn]
    refine hK _ ?_; clear hK
    refine bwp_cond false (by simp [ev, fget, hn]) (fun h => nomatch h) (fun _ => ?_)
    refine bwp_skip ?_
    refine hfin _ [] K0 (by simp) (by have : n.toNat = n.natAbs := by omega
                                      simp [Lib.itoa, hn, this]) ?_ hK0
    exact Leads.ent [] ⟨by simp [entT, fget, AV.ren, renL, pget], by simp [entM], rfl, rfl⟩

end Go.Proofs.YtpfbljkfbjjlkaaDoor

/- The document's numbers of texts. -/
namespace Go.Proofs.YtpfbljkfbjjlkaaDoor
open Go Go.Jq
set_option maxRecDepth 100000
set_option linter.unusedSimpArgs false

/-! ### Digits -/

def digB (c : UInt8) : Bool := decide (48 ≤ c.toNat) && decide (c.toNat ≤ 57)
def valD (d : List UInt8) : Nat := d.foldl (fun a c => 10 * a + (c.toNat - 48)) 0

theorem valD_snoc (d : List UInt8) (c : UInt8) : valD (d ++ [c]) = 10 * valD d + (c.toNat - 48) := by simp [valD, List.foldl_append]

theorem digB_ofNat {k : Nat} (h : k < 10) : digB (UInt8.ofNat (48 + k)) = true ∧ (UInt8.ofNat (48 + k)).toNat - 48 = k := by
  have h1 : (UInt8.ofNat (48 + k)).toNat = 48 + k := by simp; omega
  unfold digB
  rw [h1]
  simp
  omega

theorem dig_dec (u : Nat) : (Lib.decDigits u).all digB = true ∧ valD (Lib.decDigits u) = u := by
  induction u using Nat.strongRecOn with
  | _ u ih =>
    by_cases h : u < 10
    · rw [Lib.decDigits_one h]
      obtain ⟨h1, h2⟩ := digB_ofNat h
      refine ⟨by rw [List.all_cons, h1]; rfl, ?_⟩
      have := valD_snoc [] (UInt8.ofNat (48 + u))
      rw [List.nil_append] at this
      rw [this, h2]
      simp [valD]
    · obtain ⟨h1, h2⟩ := digB_ofNat (Nat.mod_lt u (by decide : 0 < 10))
      obtain ⟨i1, i2⟩ := ih (u / 10) (by omega)
      rw [Lib.decDigits, dif_neg h]
      refine ⟨by rw [List.all_append, i1, List.all_cons, h1]; rfl, ?_⟩
      rw [valD_snoc, i2, h2]
      omega

theorem valD_pos {c : UInt8} {r : List UInt8} (hd : (c :: r).all digB = true) (hc : c ≠ 48) : 1 ≤ valD (c :: r) := by
  have hc1 : 49 ≤ c.toNat := by
    simp only [List.all_cons, digB, Bool.and_eq_true, decide_eq_true_eq] at hd
    have : c.toNat ≠ 48 := fun h => hc (by apply UInt8.toNat_inj.1; exact h)
    omega
  have key : ∀ (r : List UInt8) (a : Nat), 1 ≤ a → 1 ≤ r.foldl (fun a c => 10 * a + (c.toNat - 48)) a := by
    intro r
    induction r with
    | nil => intro a h; exact h
    | cons x r ih => intro a h; exact ih _ (by show 1 ≤ 10 * a + _; omega)
  exact key r _ (by show 1 ≤ 10 * 0 + (c.toNat - 48); omega)

/-- A row of digits without a nought ahead is the text of its number. -/
theorem dec_val : ∀ (n : Nat) (d : List UInt8), d.length = n → d ≠ [] → d.all digB = true → (d.getD 0 0 = 48 → d.length = 1) → Lib.decDigits (valD d) = d := by
  intro n
  induction n with
  | zero => intro d h hd; exact absurd (List.eq_nil_of_length_eq_zero h) hd
  | succ n ih =>
    intro d hl hne ha hz
    obtain ⟨e, c, rfl⟩ : ∃ e c, d = e ++ [c] := ⟨d.dropLast, d.getLast hne, (List.dropLast_concat_getLast hne).symm⟩
    rw [List.all_append, Bool.and_eq_true] at ha
    obtain ⟨ha1, ha2⟩ := ha
    simp only [List.all_cons, List.all_nil, Bool.and_true, digB, Bool.and_eq_true, decide_eq_true_eq] at ha2
    have hc : UInt8.ofNat (48 + (c.toNat - 48)) = c := by
      apply UInt8.toNat_inj.1
      simp
      omega
    rw [valD_snoc]
    cases e with
    | nil =>
      simp only [List.nil_append, valD, List.foldl_nil, Nat.mul_zero, Nat.zero_add]
      rw [Lib.decDigits_one (by omega), hc]
    | cons x r =>
      have hx : x ≠ 48 := by
        intro h
        have := hz (by simp [h])
        simp at this
      have hv := valD_pos ha1 hx
      have := ih (x :: r) (by simpa using hl) (by simp) ha1 (fun h => absurd (by simpa using h) hx)
      rw [Lib.decDigits, dif_neg (by omega)]
      rw [show (10 * valD (x :: r) + (c.toNat - 48)) / 10 = valD (x :: r) by omega, show (10 * valD (x :: r) + (c.toNat - 48)) % 10 = c.toNat - 48 by omega, this, hc]

/-! ### What the document's Parse and Number tell -/

def refD (neg : Bool) (d : List UInt8) : Int × Bool :=
  if d = [] ∨ 19 < d.length ∨ (d.getD 0 0 = 48 ∧ (1 < d.length ∨ neg = true)) then (0, false)
  else if d.all digB = true then
    (if neg = true then (IntKind.i64.wrap (IntKind.u64.wrap (0 - (valD d : Int))), decide ((valD d : Int) ≤ 9223372036854775808)) else (IntKind.i64.wrap (valD d), decide ((valD d : Int) < 9223372036854775808)))
  else (0, false)

def refW (s : List UInt8) : Int × Bool :=
  match s with
  | [] => refD false []
  | c :: r => if c = 45 then refD true r else refD false (c :: r)

def numW (s : List UInt8) : Int × Bool := if (refW s).2 = true then refW s else (0, false)

theorem refD_itoa_neg {u : Nat} (h1 : 1 ≤ u) (h2 : u ≤ 9223372036854775808) : refD true (Lib.decDigits u) = (-(u : Int), true) := by
  obtain ⟨a1, a2⟩ := dig_dec u
  obtain ⟨d, r, e, hd, hz⟩ := decDigits_head u
  have hl : (Lib.decDigits u).length ≤ 19 := by
    rw [Lib.decDigits_length]
    exact nDigits_le 18 u (by simp; omega)
  have hh : (Lib.decDigits u).getD 0 0 ≠ 48 := by
    rw [e]
    intro h
    have : (UInt8.ofNat (48 + d)).toNat = 48 := congrArg UInt8.toNat h
    simp at this
    have := hz (by omega)
    omega
  unfold refD
  rw [if_neg (by rintro (h | h | h); exact decDigits_ne u h; omega; exact hh h.1), if_pos a1, if_pos rfl, a2]
  have : IntKind.i64.wrap (IntKind.u64.wrap (0 - (u : Int))) = -(u : Int) := by
    rw [u64_mod, i64_mod, wrap_id (by unfold I64; omega)]; omega
  rw [this]
  simp
  omega

theorem refD_itoa_pos {u : Nat} (h2 : u < 9223372036854775808) : refD false (Lib.decDigits u) = ((u : Int), true) := by
  obtain ⟨a1, a2⟩ := dig_dec u
  obtain ⟨d, r, e, hd, hz⟩ := decDigits_head u
  have hl : (Lib.decDigits u).length ≤ 19 := by
    rw [Lib.decDigits_length]
    exact nDigits_le 18 u (by simp; omega)
  have hh : (Lib.decDigits u).getD 0 0 = 48 → (Lib.decDigits u).length = 1 := by
    intro h
    rw [e] at h
    have : (UInt8.ofNat (48 + d)).toNat = 48 := congrArg UInt8.toNat h
    simp at this
    have := hz (by omega)
    subst this
    rw [Lib.decDigits_one (by decide)]
    rfl
  unfold refD
  rw [if_neg (by rintro (h | h | ⟨h, h' | h'⟩); exact decDigits_ne u h; omega; have := hh h; omega; cases h'), if_pos a1, if_neg (by decide), a2, wrap_id (by unfold I64; omega)]
  simp
  omega

theorem refW_itoa {n : Int} (h : I64 n) : refW (Lib.itoa n) = (n, true) := by
  obtain ⟨h0, h1⟩ := h
  unfold Lib.itoa
  split
  · simp only [refW]
    rw [if_pos trivial, refD_itoa_neg (by omega) (by omega)]
    congr 1
    omega
  · obtain ⟨d, r, e, hd, hz⟩ := decDigits_head n.toNat
    have hp := refD_itoa_pos (u := n.toNat) (by omega)
    rw [e] at hp ⊢
    simp only [refW]
    rw [if_neg (by intro h; have := congrArg UInt8.toNat h; simp at this; omega), hp]
    congr 1
    omega

theorem refW_text {s : List UInt8} (h : (refW s).2 = true) : Lib.itoa (refW s).1 = s ∧ I64 (refW s).1 := by
  have key : ∀ (neg : Bool) (d : List UInt8), (refD neg d).2 = true → d ≠ [] ∧ Lib.decDigits (valD d) = d ∧ (if neg = true then (refD neg d).1 = -(valD d : Int) ∧ 1 ≤ valD d ∧ valD d ≤ 9223372036854775808 else (refD neg d).1 = (valD d : Int) ∧ valD d < 9223372036854775808) := by
    intro neg d hd
    unfold refD at hd ⊢
    split at hd
    · cases hd
    rename_i hc
    rw [if_neg hc]
    split at hd
    · rename_i ha
      rw [if_pos ha]
      have hne : d ≠ [] := fun h => hc (.inl h)
      have hz : d.getD 0 0 = 48 → d.length = 1 ∧ neg = false := fun h => by
        refine ⟨?_, ?_⟩
        · have : ¬ 1 < d.length := fun h' => hc (.inr (.inr ⟨h, .inl h'⟩))
          have : d.length ≠ 0 := fun h' => hne (List.eq_nil_of_length_eq_zero h')
          omega
        · cases neg with
          | false => rfl
          | true => exact absurd (.inr (.inr ⟨h, .inr rfl⟩)) hc
      refine ⟨hne, dec_val _ d rfl hne ha (fun h => (hz h).1), ?_⟩
      cases neg with
      | true =>
        rw [if_pos rfl] at hd ⊢
        simp only [if_true, decide_eq_true_eq] at hd ⊢
        have h1 : 1 ≤ valD d := by
          cases d with
          | nil => exact absurd rfl hne
          | cons c r => exact valD_pos ha (fun h => by have := (hz (by simp [h])).2; cases this)
        refine ⟨?_, h1, by omega⟩
        rw [u64_mod, i64_mod, wrap_id (by unfold I64; omega)]; omega
      | false =>
        rw [if_neg (by decide)] at hd ⊢
        simp only [if_false, decide_eq_true_eq, Bool.false_eq_true] at hd ⊢
        exact ⟨wrap_id (by unfold I64; omega), by omega⟩
    · cases hd
  cases s with
  | nil => exact absurd rfl (key false [] h).1
  | cons c r =>
    simp only [refW] at h ⊢
    split at h
    · rename_i hc
      subst hc
      rw [if_pos rfl]
      obtain ⟨_, k2, k3⟩ := key true r h
      rw [if_pos rfl] at k3
      rw [k3.1]
      refine ⟨?_, by unfold I64; omega⟩
      unfold Lib.itoa
      rw [if_pos (by omega), show (-(valD r : Int)).natAbs = valD r by omega, k2]
    · rename_i hc
      rw [if_neg hc]
      obtain ⟨_, k2, k3⟩ := key false (c :: r) h
      rw [if_neg (by decide)] at k3
      rw [k3.1]
      refine ⟨?_, by unfold I64; omega⟩
      unfold Lib.itoa
      rw [if_neg (by omega), show ((valD (c :: r) : Int)).toNat = valD (c :: r) by omega, k2]

theorem numW_eq (s : List UInt8) : numW s = parseW s := by
  unfold numW
  cases h : (refW s).2 with
  | true =>
    obtain ⟨h1, h2⟩ := refW_text h
    rw [if_pos rfl]
    have := parseW_itoa h2
    rw [h1] at this
    rw [this, ← h]
  | false =>
    rw [if_neg (by decide)]
    cases hp : (parseW s).2 with
    | true =>
      obtain ⟨h1, h2⟩ := parseW_text hp
      have := refW_itoa h2
      rw [h1] at this
      rw [this] at h
      cases h
    | false => rw [parseW_no hp]

end Go.Proofs.YtpfbljkfbjjlkaaDoor

/- Tokens of a text: what they are, in plain words. -/
namespace Go.Proofs.YtpfbljkfbjjlkaaDoor
open Go Go.Jq
set_option maxRecDepth 100000
set_option linter.unusedSimpArgs false

structure Tok where
  kd : Int
  tx : List UInt8
  pl : Nat
  deriving DecidableEq

def Tok.cells (t : Tok) : List DV := [.int .i64 t.kd, .str t.tx, .int .i64 t.pl]

def blankB (c : UInt8) : Bool := c == 32 || c == 9 || c == 10
def letB (c : UInt8) : Bool := decide (97 ≤ c.toNat) && decide (c.toNat ≤ 122)
def alnB (c : UInt8) : Bool := letB c || digB c

/-- How many bytes are blanks and comments; whether a comment is open. -/
def skipN : Bool → List UInt8 → Nat
  | _, [] => 0
  | true, c :: r => 1 + skipN (c != 10) r
  | false, c :: r => if blankB c = true then 1 + skipN false r else if c = 35 then 1 + skipN true r else 0

def skipA (s : List UInt8) (at' : Nat) : Nat := at' + skipN false (s.drop at')

/-- How many letters and digits. -/
def runL : List UInt8 → Nat
  | [] => 0
  | c :: r => if alnB c = true then 1 + runL r else 0

def ones : List UInt8 := [123, 125, 59, 58, 61, 43, 45, 42, 38, 124, 94, 60]

/-- How long the sign is that stands there. -/
def signL : List UInt8 → Nat
  | [] => 0
  | c :: r =>
    if (c = 60 ∧ r.head? = some 60) ∨ (c = 62 ∧ r.head? = some 62) ∨ ((c = 61 ∨ c = 33) ∧ r.head? = some 61) then 2
    else if c ∈ ones then 1 else 0

def noTok : Tok := ⟨0, [], 0⟩

/-- Where a token at a place ends, which it is, the error. -/
def tokAt (a : Nat) : List UInt8 → Tok × Nat × Int
  | [] => (⟨4, [], a⟩, a, 0)
  | c :: r =>
    if letB c = true then (⟨1, c :: r.take (runL r), a⟩, a + (1 + runL r), 0)
    else if digB c = true ∨ (c = 45 ∧ (r.head?.map digB).getD false = true) then
      (if (parseW (c :: r.take (runL r))).2 = true then (⟨2, c :: r.take (runL r), a⟩, a + (1 + runL r), 0) else (noTok, a, 5))
    else if signL (c :: r) = 0 then (noTok, a, 4)
    else (⟨3, (c :: r).take (signL (c :: r)), a⟩, a + signL (c :: r), 0)

def nextW (s : List UInt8) (at' : Nat) : Tok × Nat × Int := tokAt (skipA s at') (s.drop (skipA s at'))

/-- An error's place. -/
def errAt (s : List UInt8) (at' : Nat) : Nat := if (nextW s at').2.2 = 0 then 0 else skipA s at'

/-! ### Bounds -/

theorem skipN_le : ∀ (b : Bool) (l : List UInt8), skipN b l ≤ l.length
  | _, [] => by simp [skipN]
  | true, c :: r => by have := skipN_le (c != 10) r; simp only [skipN, List.length_cons]; omega
  | false, c :: r => by
    have h1 := skipN_le false r
    have h2 := skipN_le true r
    simp only [skipN, List.length_cons]
    split
    · omega
    · split <;> omega

theorem skipA_le {s : List UInt8} {a : Nat} (h : a ≤ s.length) : skipA s a ≤ s.length := by
  have := skipN_le false (s.drop a)
  rw [List.length_drop] at this
  unfold skipA
  omega

theorem le_skipA (s : List UInt8) (a : Nat) : a ≤ skipA s a := Nat.le_add_right ..

theorem runL_le : ∀ l : List UInt8, runL l ≤ l.length
  | [] => by simp [runL]
  | c :: r => by have := runL_le r; simp only [runL, List.length_cons]; split <;> omega

theorem signL_le : ∀ l : List UInt8, signL l ≤ l.length ∧ signL l ≤ 2
  | [] => by simp [signL]
  | c :: r => by
    rw [signL]
    split
    · rename_i h
      cases r with
      | nil => simp at h
      | cons d r => simp
    · split <;> simp

theorem tokAt_to (a : Nat) (l : List UInt8) : a ≤ (tokAt a l).2.1 ∧ (tokAt a l).2.1 ≤ a + l.length ∧ ((tokAt a l).2.2 = 0 → (tokAt a l).1.kd ≠ 4 → a < (tokAt a l).2.1) := by
  cases l with
  | nil => simp [tokAt]
  | cons c r =>
    have h1 := runL_le r
    have h2 := signL_le (c :: r)
    rw [tokAt]
    simp only [List.length_cons] at h2 ⊢
    split
    · simp only; omega
    · split
      · split
        · simp only; omega
        · simp
      · split
        · simp
        · simp only; omega

theorem nextW_to {s : List UInt8} {a : Nat} (h : a ≤ s.length) : a ≤ (nextW s a).2.1 ∧ (nextW s a).2.1 ≤ s.length ∧ ((nextW s a).2.2 = 0 → (nextW s a).1.kd ≠ 4 → a < (nextW s a).2.1) := by
  have h1 := tokAt_to (skipA s a) (s.drop (skipA s a))
  have h2 := skipA_le h
  have h3 := le_skipA s a
  rw [List.length_drop] at h1
  unfold nextW
  refine ⟨by omega, by omega, fun h4 h5 => ?_⟩
  have := h1.2.2 h4 h5
  omega

/-- What a token says of itself: its text stands where it says. -/
theorem tokAt_text (a : Nat) (l : List UInt8) (h : (tokAt a l).2.2 = 0) : (tokAt a l).1.pl = a ∧ (tokAt a l).1.tx = l.take ((tokAt a l).2.1 - a) ∧ (tokAt a l).2.1 = a + (tokAt a l).1.tx.length ∧ ((tokAt a l).1.kd = 4 ↔ l = []) := by
  cases l with
  | nil => simp [tokAt]
  | cons c r =>
    have h1 := runL_le r
    have h2 := signL_le (c :: r)
    rw [tokAt] at h ⊢
    split
    · simp [Nat.add_sub_cancel_left, Nat.add_comm 1]; omega
    · rename_i hc
      rw [if_neg hc] at h
      split
      · rename_i hd
        rw [if_pos hd] at h
        split
        · simp [Nat.add_sub_cancel_left, Nat.add_comm 1]; omega
        · rename_i hp
          rw [if_neg hp] at h
          cases h
      · rename_i hd
        rw [if_neg hd] at h
        split
        · rename_i hs
          rw [if_pos hs] at h
          cases h
        · simp only [List.length_cons] at h2; simp [Nat.add_sub_cancel_left]; omega

end Go.Proofs.YtpfbljkfbjjlkaaDoor

/- Tokens of a text: plain laws. -/
namespace Go.Proofs.YtpfbljkfbjjlkaaDoor
open Go Go.Jq
set_option maxRecDepth 100000
set_option linter.unusedSimpArgs false

/-- What begins a token. -/
def heads (c : UInt8) : Prop := blankB c = false ∧ c ≠ 35

theorem skip_zero {c : UInt8} (r : List UInt8) (h : heads c) : skipN false (c :: r) = 0 := by
  simp [skipN, h.1, h.2]

theorem let_heads {c : UInt8} (h : letB c = true) : heads c := by
  simp only [letB, Bool.and_eq_true, decide_eq_true_eq] at h
  constructor
  · simp only [blankB, Bool.or_eq_false_iff, beq_eq_false_iff_ne]
    refine ⟨⟨?_, ?_⟩, ?_⟩ <;> (rintro rfl; simp at h)
  · rintro rfl; simp at h

theorem dig_heads {c : UInt8} (h : digB c = true) : heads c := by
  simp only [digB, Bool.and_eq_true, decide_eq_true_eq] at h
  constructor
  · simp only [blankB, Bool.or_eq_false_iff, beq_eq_false_iff_ne]
    refine ⟨⟨?_, ?_⟩, ?_⟩ <;> (rintro rfl; simp at h)
  · rintro rfl; simp at h

end Go.Proofs.YtpfbljkfbjjlkaaDoor

/- Tokens with blanks between: plain laws. -/
namespace Go.Proofs.YtpfbljkfbjjlkaaDoor
open Go Go.Jq
set_option maxRecDepth 100000
set_option linter.unusedSimpArgs false

end Go.Proofs.YtpfbljkfbjjlkaaDoor

/- Rows of tokens: plain laws. -/
namespace Go.Proofs.YtpfbljkfbjjlkaaDoor
open Go Go.Jq
set_option maxRecDepth 100000
set_option linter.unusedSimpArgs false

/-- The tokens from a place on, to the end. -/
def TL (s : List UInt8) : Nat → List Tok → Prop
  | _, [] => False
  | a, t :: r => ∃ e, nextW s a = (t, e, 0) ∧ (if t.kd = 4 then r = [] else TL s e r)

/-- What a token tells of itself. -/
theorem next_text {s : List UInt8} {a e : Nat} {t : Tok} (ha : a ≤ s.length) (h : nextW s a = (t, e, 0)) : t.pl = skipA s a ∧ t.tx = (s.drop t.pl).take t.tx.length ∧ e = t.pl + t.tx.length ∧ a ≤ t.pl ∧ e ≤ s.length ∧ (t.kd = 4 ↔ t.pl = s.length) ∧ (t.kd = 4 → t.tx = [] ∧ e = s.length) := by
  have h1 := tokAt_text (skipA s a) (s.drop (skipA s a)) (by unfold nextW at h; rw [h])
  have h2 := nextW_to ha
  have h3 := skipA_le ha
  have h4 := le_skipA s a
  unfold nextW at h
  rw [h] at h1
  rw [show nextW s a = (t, e, 0) from h] at h2
  simp only at h1 h2
  obtain ⟨p1, p2, p3, p4⟩ := h1
  have hk : t.kd = 4 ↔ t.pl = s.length := by
    rw [p4, p1]
    constructor
    · intro h5
      have := congrArg List.length h5
      rw [List.length_drop, List.length_nil] at this
      omega
    · intro h5; rw [h5, List.drop_length]
  have ht : t.tx = (s.drop t.pl).take t.tx.length := by
    have : e - skipA s a = t.tx.length := by omega
    rw [p1, ← this]
    exact p2
  refine ⟨p1, ht, by omega, by omega, h2.2.1, hk, fun h5 => ?_⟩
  have h6 := hk.1 h5
  have : t.tx = [] := by
    rw [ht, h6, List.drop_length, List.take_nil]
  refine ⟨this, ?_⟩
  rw [this] at p3
  simp at p3
  omega

end Go.Proofs.YtpfbljkfbjjlkaaDoor

/- The functions' code with its types resolved, as the layer's 'cCode' gives it. Written by a program of this session's (wip/x/dump.lean). -/
namespace Go.Proofs.YtpfbljkfbjjlkaaDoor
open Go Go.Jq
set_option maxRecDepth 100000

-- 11 jacquard/jacquardlaw3.ParseWords
-- 12 jacquard/jacquardlaw3.ParseNames
-- 13 jacquard/jacquardlaw3.ParseConds
def ac13L0 : ACode := (.seq (.seq (.region false [ ⟨(some 15), .mv (.t 5), none⟩, ⟨(some 16), .mv (.t 0), none⟩, ⟨(some 17), .lenl (.t 16), none⟩, ⟨(some 18), .bin .lss (.t 15) (.t 17), none⟩, ⟨(some 19), .mv (.t 18), none⟩, ⟨(some 20), .mv (.t 5), (some (19, true))⟩, ⟨(some 21), .bin .lss (.t 20) (.c (.d (.int .i64 10))), (some (19, true))⟩, ⟨(some 22), .pick (.t 19) (.t 21) (.c (.d (.bool false))), none⟩] []) (.cond (.t 22) .skip (.exit 0))) (.seq (.block 1 (.seq (.seq (.region false [ ⟨(some 25), .mv (.t 5), none⟩, ⟨(some 26), .bin .gtr (.t 25) (.c (.d (.int .i64 0))), none⟩] []) (.cond (.t 26) (.seq (.region false [ ⟨(some 27), .mv (.t 0), none⟩, ⟨(some 28), .mv (.t 5), none⟩, ⟨(some 29), .iaddr 1 none (.t 27) (.t 28), none⟩, ⟨(some 30), .load none (.t 29), none⟩, ⟨(some 31), .bin .and (.t 30) (.c (.d (.int .i64 1))), none⟩, ⟨(some 32), .bin .eql (.t 31) (.c (.d (.int .i64 1))), none⟩] []) (.cond (.t 32) (.seq (.region false [ ⟨(some 33), .mv (.t 3), none⟩, ⟨(some 34), .bin .add (.t 33) (.c (.d (.str [32, 124]))), none⟩, ⟨(some 3), .mv (.t 34), none⟩] []) (.region false [ ⟨(some 35), .mv (.t 4), none⟩, ⟨(some 36), .bslice 1 1 [(.d .nsl)] [(0, 1, (.c (.d .nsl)))], none⟩, ⟨(some 37), .app 1 24 62 (.t 35) (.t 36), none⟩, ⟨(some 4), .mv (.t 37), none⟩] [])) (.region false [ ⟨(some 38), .mv (.t 3), none⟩, ⟨(some 39), .bin .add (.t 38) (.c (.d (.str [32, 38]))), none⟩, ⟨(some 3), .mv (.t 39), none⟩] []))) .skip)) (.seq (.region false [ ⟨(some 40), .mv (.t 0), none⟩, ⟨(some 41), .mv (.t 5), none⟩, ⟨(some 42), .iaddr 1 none (.t 40) (.t 41), none⟩, ⟨(some 43), .load none (.t 42), none⟩, ⟨(some 44), .bin .shr (.t 43) (.c (.d (.int .u64 1))), none⟩, ⟨(some 45), .bin .and (.t 44) (.c (.d (.int .i64 7))), none⟩, ⟨(some 6), .mv (.t 45), none⟩] []) (.seq (.region false [ ⟨(some 46), .mv (.t 6), none⟩, ⟨(some 47), .build [(.d (.int .i64 0)), (.d (.int .i64 0)), (.d (.int .i64 0)), (.d (.int .i64 0))] [(0, 1, (.c (.d (.int .i64 (-1))))), (2, 1, (.c (.d (.int .i64 120)))), (3, 1, (.t 46))], none⟩, ⟨(some 7), .alloc [(.d (.int .i64 0)), (.d (.int .i64 0)), (.d (.int .i64 0)), (.d (.int .i64 0))], none⟩, ⟨none, .store 4 (.t 7) (.t 47), none⟩] []) (.seq (.seq (.region false [ ⟨(some 48), .mv (.t 0), none⟩, ⟨(some 49), .mv (.t 5), none⟩, ⟨(some 50), .iaddr 1 none (.t 48) (.t 49), none⟩, ⟨(some 51), .load none (.t 50), none⟩, ⟨(some 52), .bin .shr (.t 51) (.c (.d (.int .u64 4))), none⟩, ⟨(some 53), .bin .and (.t 52) (.c (.d (.int .i64 1))), none⟩, ⟨(some 54), .bin .eql (.t 53) (.c (.d (.int .i64 1))), none⟩] []) (.cond (.t 54) (.seq (.region false [ ⟨(some 55), .mv (.t 6), none⟩, ⟨(some 56), .mv (.t 0), none⟩, ⟨(some 57), .mv (.t 5), none⟩, ⟨(some 58), .iaddr 1 none (.t 56) (.t 57), none⟩, ⟨(some 59), .load none (.t 58), none⟩, ⟨(some 60), .bin .shr (.t 59) (.c (.d (.int .u64 5))), none⟩, ⟨(some 61), .bin .and (.t 60) (.c (.d (.int .i64 3))), none⟩, ⟨(some 62), .mv (.t 6), none⟩, ⟨(some 63), .un .neg (.t 62), none⟩, ⟨(some 64), .build [(.d (.int .i64 0)), (.d (.int .i64 0)), (.d (.int .i64 0)), (.d (.int .i64 0))] [(0, 1, (.t 55)), (1, 1, (.t 61)), (3, 1, (.t 63))], none⟩, ⟨none, .store 4 (.t 7) (.t 64), none⟩] []) (.region true [ ⟨(some 65), .mv (.t 3), none⟩, ⟨(some 66), .bin .add (.t 65) (.c (.d (.str [32]))), none⟩, ⟨(some 67), .mv (.t 6), none⟩, ⟨(some 68), .callf 19 [(.t 67)], none⟩, ⟨(some 69), .bin .add (.t 66) (.t 68), none⟩, ⟨(some 70), .bin .add (.t 69) (.c (.d (.str [32, 58, 32, 114]))), none⟩, ⟨(some 71), .faddr (.t 7) 1, none⟩, ⟨(some 72), .load none (.t 71), none⟩, ⟨(some 73), .callf 19 [(.t 72)], none⟩, ⟨(some 74), .bin .add (.t 70) (.t 73), none⟩, ⟨(some 75), .bin .add (.t 74) (.c (.d (.str [32, 61, 32]))), none⟩, ⟨(some 76), .mv (.t 6), none⟩, ⟨(some 77), .un .neg (.t 76), none⟩, ⟨(some 78), .callf 19 [(.t 77)], none⟩, ⟨(some 79), .bin .add (.t 75) (.t 78), none⟩, ⟨(some 3), .mv (.t 79), none⟩] [0, 1, 0, 4, 10, 16, 0, 64, 136, 288, 512, 0, 2048, 4352, 9216, 32767])) (.region false [ ⟨(some 80), .mv (.t 3), none⟩, ⟨(some 81), .bin .add (.t 80) (.c (.d (.str [32, 120, 32, 61, 32]))), none⟩, ⟨(some 82), .mv (.t 6), none⟩, ⟨(some 83), .callf 19 [(.t 82)], none⟩, ⟨(some 84), .bin .add (.t 81) (.t 83), none⟩, ⟨(some 3), .mv (.t 84), none⟩] []))) (.region true [ ⟨(some 85), .mv (.t 4), none⟩, ⟨(some 86), .mv (.t 4), none⟩, ⟨(some 87), .lenl (.t 86), none⟩, ⟨(some 88), .bin .sub (.t 87) (.c (.d (.int .i64 1))), none⟩, ⟨(some 89), .mv (.t 4), none⟩, ⟨(some 90), .mv (.t 4), none⟩, ⟨(some 91), .lenl (.t 90), none⟩, ⟨(some 92), .bin .sub (.t 91) (.c (.d (.int .i64 1))), none⟩, ⟨(some 93), .iaddr 1 none (.t 89) (.t 92), none⟩, ⟨(some 94), .load none (.t 93), none⟩, ⟨(some 95), .load (some 4) (.t 7), none⟩, ⟨(some 96), .bslice 4 1 [(.d (.int .i64 0)), (.d (.int .i64 0)), (.d (.int .i64 0)), (.d (.int .i64 0))] [(0, 4, (.t 95))], none⟩, ⟨(some 97), .app 4 32 61 (.t 94) (.t 96), none⟩, ⟨(some 98), .iaddr 1 none (.t 85) (.t 88), none⟩, ⟨none, .store 1 (.t 98) (.t 97), none⟩] [0, 0, 2, 4, 0, 0, 32, 64, 144, 256, 0, 1024, 2560, 8191, 16383])))))) (.region false [ ⟨(some 23), .mv (.t 5), none⟩, ⟨(some 24), .bin .add (.t 23) (.c (.d (.int .i64 1))), none⟩, ⟨(some 5), .mv (.t 24), none⟩] [])))
def ac13 : ACode := (.seq (.region false [ ⟨(some 2), .mv (.c (.d (.bool false))), none⟩] []) (.seq (.seq (.region false [ ⟨(some 10), .mv (.t 0), none⟩, ⟨(some 11), .lenl (.t 10), none⟩, ⟨(some 12), .bin .eql (.t 11) (.c (.d (.int .i64 0))), none⟩] []) (.cond (.t 12) (.seq (.region false [ ⟨(some 13), .callf 24 [], none⟩, ⟨(some 2), .mv (.t 13), none⟩] []) .ret) .skip)) (.seq (.region false [ ⟨(some 3), .mv (.c (.d (.str [116, 101, 115, 116, 32, 97, 32, 123, 32, 116, 104, 114, 101, 97, 100, 32, 123, 32, 125, 32, 102, 111, 114, 97, 108, 108]))), none⟩] []) (.seq (.region false [ ⟨(some 14), .bslice 1 1 [(.d .nsl)] [(0, 1, (.c (.d .nsl)))], none⟩, ⟨(some 4), .mv (.t 14), none⟩] []) (.seq (.seq (.region false [ ⟨(some 5), .mv (.c (.d (.int .i64 0))), none⟩] []) (.block 0 (.loop ac13L0))) (.seq (.region false [ ⟨(some 100), .mv (.t 3), none⟩, ⟨(some 101), .bin .add (.t 100) (.c (.d (.str [32, 59, 32, 125]))), none⟩, ⟨(some 102), .callf 25 [(.t 101)], none⟩, ⟨(some 99), .mv (.t 102), none⟩, ⟨(some 103), .ext (.t 99) 0, none⟩, ⟨(some 104), .ext (.t 99) 1, none⟩, ⟨(some 8), .alloc [(.d (.str [])), (.d .nsl), (.d .nsl), (.d (.int .i64 0)), (.d .nsl)], none⟩, ⟨(some 9), .alloc [(.d (.int .i64 0)), (.d (.int .i64 0))], none⟩, ⟨none, .store 5 (.t 8) (.t 103), none⟩, ⟨none, .store 2 (.t 9) (.t 104), none⟩] []) (.seq (.region false [ ⟨(some 105), .load (some 2) (.t 9), none⟩, ⟨(some 106), .build [(.d (.int .i64 0)), (.d (.int .i64 0))] [], none⟩, ⟨(some 107), .eqs [0, 0] false (.t 105) (.t 106), none⟩, ⟨(some 108), .mv (.t 107), none⟩, ⟨(some 109), .faddr (.t 8) 3, (some (108, true))⟩, ⟨(some 110), .load (some 2) (.t 109), (some (108, true))⟩, ⟨(some 111), .mv (.t 4), (some (108, true))⟩, ⟨(some 112), .build [(.d (.int .i64 0)), (.d .nsl)] [(0, 1, (.c (.d (.int .i64 2)))), (1, 1, (.t 111))], (some (108, true))⟩, ⟨(some 113), .callf 28 [(.t 110), (.t 112)], (some (108, true))⟩, ⟨(some 114), .pick (.t 108) (.t 113) (.c (.d (.bool false))), none⟩, ⟨(some 115), .mv (.t 114), none⟩, ⟨(some 116), .callf 24 [], (some (115, true))⟩, ⟨(some 117), .pick (.t 115) (.t 116) (.c (.d (.bool false))), none⟩, ⟨(some 2), .mv (.t 117), none⟩] []) .ret)))))))
theorem ac13_ok : Tryd.f13.body.bind (cCode Tryd.prog Tryd.f13.ntmps) = some ac13 := by kernel_rfl

-- 14 jacquard/jacquardlaw3.ParseBack
-- 15 jacquard/jacquardlaw3.ParseFirst
-- 24 jacquard/jacquardlaw3.awake
def ac24 : ACode := (.seq (.region false [ ⟨(some 0), .mv (.c (.d (.bool false))), none⟩] []) (.seq (.region false [ ⟨(some 4), .callf 25 [(.c (.d (.str [116, 101, 115, 116, 32, 97, 32, 123, 32, 116, 104, 114, 101, 97, 100, 32, 123, 32, 102, 101, 110, 99, 101, 32, 59, 32, 125, 32, 125])))], none⟩, ⟨(some 3), .mv (.t 4), none⟩, ⟨(some 5), .ext (.t 3) 0, none⟩, ⟨(some 6), .ext (.t 3) 1, none⟩, ⟨(some 1), .alloc [(.d (.str [])), (.d .nsl), (.d .nsl), (.d (.int .i64 0)), (.d .nsl)], none⟩, ⟨(some 2), .alloc [(.d (.int .i64 0)), (.d (.int .i64 0))], none⟩, ⟨none, .store 5 (.t 1) (.t 5), none⟩, ⟨none, .store 2 (.t 2) (.t 6), none⟩] []) (.seq (.region false [ ⟨(some 7), .load (some 2) (.t 2), none⟩, ⟨(some 8), .build [(.d (.int .i64 0)), (.d (.int .i64 0))] [], none⟩, ⟨(some 9), .eqs [0, 0] false (.t 7) (.t 8), none⟩, ⟨(some 10), .mv (.t 9), none⟩, ⟨(some 11), .faddr (.t 1) 0, (some (10, true))⟩, ⟨(some 12), .load none (.t 11), (some (10, true))⟩, ⟨(some 13), .bin .eql (.t 12) (.c (.d (.str [97]))), (some (10, true))⟩, ⟨(some 14), .pick (.t 10) (.t 13) (.c (.d (.bool false))), none⟩, ⟨(some 15), .mv (.t 14), none⟩, ⟨(some 16), .faddr (.t 1) 2, (some (15, true))⟩, ⟨(some 17), .load none (.t 16), (some (15, true))⟩, ⟨(some 18), .lenl (.t 17), (some (15, true))⟩, ⟨(some 19), .bin .eql (.t 18) (.c (.d (.int .i64 1))), (some (15, true))⟩, ⟨(some 20), .pick (.t 15) (.t 19) (.c (.d (.bool false))), none⟩, ⟨(some 21), .mv (.t 20), none⟩, ⟨(some 22), .faddr (.t 1) 2, (some (21, true))⟩, ⟨(some 23), .load none (.t 22), (some (21, true))⟩, ⟨(some 24), .iaddr 1 none (.t 23) (.c (.d (.int .i64 0))), (some (21, true))⟩, ⟨(some 25), .load none (.t 24), (some (21, true))⟩, ⟨(some 26), .lenl (.t 25), (some (21, true))⟩, ⟨(some 27), .bin .eql (.t 26) (.c (.d (.int .i64 1))), (some (21, true))⟩, ⟨(some 28), .pick (.t 21) (.t 27) (.c (.d (.bool false))), none⟩, ⟨(some 29), .mv (.t 28), none⟩, ⟨(some 30), .faddr (.t 1) 2, (some (29, true))⟩, ⟨(some 31), .load none (.t 30), (some (29, true))⟩, ⟨(some 32), .iaddr 1 none (.t 31) (.c (.d (.int .i64 0))), (some (29, true))⟩, ⟨(some 33), .load none (.t 32), (some (29, true))⟩, ⟨(some 34), .iaddr 9 none (.t 33) (.c (.d (.int .i64 0))), (some (29, true))⟩, ⟨(some 35), .load (some 9) (.t 34), (some (29, true))⟩, ⟨(some 36), .build [(.d (.int .i64 0)), (.d (.int .i64 0)), (.d (.int .i64 0)), (.d (.int .i64 0)), (.d (.int .i64 0)), (.d (.int .i64 0)), (.d (.int .i64 0)), (.d (.int .i64 0)), (.d (.int .i64 0))] [(0, 1, (.c (.d (.int .i64 3))))], (some (29, true))⟩, ⟨(some 37), .eqs [0, 0, 0, 0, 0, 0, 0, 0, 0] false (.t 35) (.t 36), (some (29, true))⟩, ⟨(some 38), .pick (.t 29) (.t 37) (.c (.d (.bool false))), none⟩, ⟨(some 0), .mv (.t 38), none⟩] []) .ret)))
theorem ac24_ok : Tryd.f24.body.bind (cCode Tryd.prog Tryd.f24.ntmps) = some ac24 := by kernel_rfl

-- 25 jacquard/parse.Parse
def ac25L0 : ACode := (.seq (.seq (.region false [ ⟨(some 32), .mv (.t 5), none⟩, ⟨(some 33), .callf 47 [(.t 32), (.c (.d (.str [116, 104, 114, 101, 97, 100])))], none⟩] []) (.cond (.t 33) .skip (.exit 0))) (.block 1 (.region true [ ⟨(some 34), .faddr (.t 6) 2, none⟩, ⟨(some 35), .load none (.t 34), none⟩, ⟨(some 36), .mv (.t 5), none⟩, ⟨(some 37), .callf 49 [(.t 36)], none⟩, ⟨(some 38), .bslice 1 1 [(.d .nsl)] [(0, 1, (.t 37))], none⟩, ⟨(some 39), .app 1 24 82 (.t 35) (.t 38), none⟩, ⟨(some 40), .faddr (.t 6) 2, none⟩, ⟨none, .store 1 (.t 40) (.t 39), none⟩] [0, 1, 0, 4, 8, 26, 63, 127])))
def ac25 : ACode := (.seq (.region false [ ⟨(some 2), .alloc [(.d (.str [])), (.d .nsl), (.d .nsl), (.d (.int .i64 0)), (.d .nsl)], none⟩, ⟨(some 3), .alloc [(.d (.int .i64 0)), (.d (.int .i64 0))], none⟩] []) (.seq (.seq (.region false [ ⟨(some 7), .mv (.t 0), none⟩, ⟨(some 8), .callf 31 [(.t 7)], none⟩, ⟨(some 4), .alloc [(.d (.int .i64 0)), (.d (.int .i64 0))], none⟩, ⟨none, .store 2 (.t 4) (.t 8), none⟩] []) (.seq (.region false [ ⟨(some 9), .faddr (.t 4) 0, none⟩, ⟨(some 10), .load none (.t 9), none⟩, ⟨(some 11), .bin .neq (.t 10) (.c (.d (.int .i64 0))), none⟩] []) (.cond (.t 11) (.seq (.region true [ ⟨(some 12), .build [(.d (.str [])), (.d .nsl), (.d .nsl), (.d (.int .i64 0)), (.d .nsl)] [], none⟩, ⟨(some 13), .load (some 2) (.t 4), none⟩, ⟨none, .store 5 (.t 2) (.t 12), none⟩, ⟨none, .store 2 (.t 3) (.t 13), none⟩] [0, 0, 1, 7]) .ret) .skip))) (.seq (.region false [ ⟨(some 14), .mv (.t 0), none⟩, ⟨(some 15), .callf 20 [(.t 14)], none⟩, ⟨(some 16), .build [(.d .nptr), (.d (.int .i64 0)), (.d (.str [])), (.d (.int .i64 0)), (.d (.int .i64 0)), (.d (.int .i64 0))] [(0, 1, (.t 15))], none⟩, ⟨(some 17), .box (.t 16), none⟩, ⟨(some 5), .mv (.t 17), none⟩] []) (.seq (.region false [ ⟨(some 18), .mv (.t 5), none⟩, ⟨(some 19), .callf 44 [(.t 18)], none⟩] []) (.seq (.region false [ ⟨(some 6), .alloc [(.d (.str [])), (.d .nsl), (.d .nsl), (.d (.int .i64 0)), (.d .nsl)], none⟩] []) (.seq (.region false [ ⟨(some 20), .mv (.t 5), none⟩, ⟨(some 21), .callf 45 [(.t 20), (.c (.d (.str [116, 101, 115, 116])))], none⟩] []) (.seq (.region false [ ⟨(some 22), .mv (.t 5), none⟩, ⟨(some 23), .callf 46 [(.t 22)], none⟩, ⟨(some 24), .faddr (.t 6) 0, none⟩, ⟨none, .store 1 (.t 24) (.t 23), none⟩] []) (.seq (.region false [ ⟨(some 25), .mv (.t 5), none⟩, ⟨(some 26), .callf 45 [(.t 25), (.c (.d (.str [123])))], none⟩] []) (.seq (.seq (.region false [ ⟨(some 27), .mv (.t 5), none⟩, ⟨(some 28), .callf 47 [(.t 27), (.c (.d (.str [105, 110, 105, 116])))], none⟩] []) (.cond (.t 28) (.region false [ ⟨(some 29), .mv (.t 5), none⟩, ⟨(some 30), .callf 48 [(.t 29)], none⟩, ⟨(some 31), .faddr (.t 6) 1, none⟩, ⟨none, .store 1 (.t 31) (.t 30), none⟩] []) .skip)) (.seq (.block 0 (.loop ac25L0)) (.seq (.block 2 (.seq (.region false [ ⟨(some 42), .mv (.t 5), none⟩, ⟨(some 43), .callf 47 [(.t 42), (.c (.d (.str [101, 120, 105, 115, 116, 115])))], none⟩, ⟨(some 41), .mv (.t 43), none⟩] []) (.cond (.t 41) (.region false [ ⟨(some 44), .mv (.t 5), none⟩, ⟨(some 45), .callf 50 [(.t 44), (.c (.d (.int .i64 1)))], none⟩, ⟨(some 46), .faddr (.t 6) 3, none⟩, ⟨none, .store 2 (.t 46) (.t 45), none⟩] []) (.seq (.region false [ ⟨(some 48), .mv (.t 5), none⟩, ⟨(some 49), .callf 47 [(.t 48), (.c (.d (.str [102, 111, 114, 97, 108, 108])))], none⟩, ⟨(some 47), .mv (.t 49), none⟩] []) (.cond (.t 47) (.region false [ ⟨(some 50), .mv (.t 5), none⟩, ⟨(some 51), .callf 50 [(.t 50), (.c (.d (.int .i64 2)))], none⟩, ⟨(some 52), .faddr (.t 6) 3, none⟩, ⟨none, .store 2 (.t 52) (.t 51), none⟩] []) .skip))))) (.seq (.region false [ ⟨(some 53), .mv (.t 5), none⟩, ⟨(some 54), .callf 45 [(.t 53), (.c (.d (.str [125])))], none⟩] []) (.seq (.seq (.region false [ ⟨(some 55), .mv (.t 5), none⟩, ⟨(some 56), .callf 51 [(.t 55)], none⟩, ⟨(some 57), .mv (.t 56), none⟩, ⟨(some 58), .mv (.t 5), (some (57, true))⟩, ⟨(some 59), .nilck (.t 58), (some (57, true))⟩, ⟨(some 60), .faddr (.t 59) 1, (some (57, true))⟩, ⟨(some 61), .faddr (.t 60) 0, (some (57, true))⟩, ⟨(some 62), .load none (.t 61), (some (57, true))⟩, ⟨(some 63), .bin .neq (.t 62) (.c (.d (.int .i64 4))), (some (57, true))⟩, ⟨(some 64), .pick (.t 57) (.t 63) (.c (.d (.bool false))), none⟩] []) (.cond (.t 64) (.region false [ ⟨(some 65), .mv (.t 5), none⟩, ⟨(some 66), .callf 52 [(.t 65), (.c (.d (.int .i64 6)))], none⟩] []) .skip)) (.seq (.seq (.region false [ ⟨(some 67), .mv (.t 5), none⟩, ⟨(some 68), .callf 51 [(.t 67)], none⟩, ⟨(some 69), .un .not (.t 68), none⟩] []) (.cond (.t 69) (.seq (.region true [ ⟨(some 70), .build [(.d (.str [])), (.d .nsl), (.d .nsl), (.d (.int .i64 0)), (.d .nsl)] [], none⟩, ⟨(some 71), .mv (.t 5), none⟩, ⟨(some 72), .nilck (.t 71), none⟩, ⟨(some 73), .faddr (.t 72) 4, none⟩, ⟨(some 74), .load (some 2) (.t 73), none⟩, ⟨none, .store 5 (.t 2) (.t 70), none⟩, ⟨none, .store 2 (.t 3) (.t 74), none⟩] [0, 0, 2, 4, 8, 1, 63]) .ret) .skip)) (.seq (.region false [ ⟨(some 75), .load (some 5) (.t 6), none⟩, ⟨(some 76), .build [(.d (.int .i64 0)), (.d (.int .i64 0))] [], none⟩, ⟨none, .store 5 (.t 2) (.t 75), none⟩, ⟨none, .store 2 (.t 3) (.t 76), none⟩] []) .ret)))))))))))))))
theorem ac25_ok : Tryd.f25.body.bind (cCode Tryd.prog Tryd.f25.ntmps) = some ac25 := by kernel_rfl

-- 26 jacquard/jacquardref2.Tree
-- 27 jacquard/jacquardref2.Same
-- 28 jacquard/jacquardref2.SameCond
def ac28L0 : ACode := (.seq (.seq (.region false [ ⟨(some 41), .mv (.t 6), none⟩, ⟨(some 42), .faddr (.t 2) 1, none⟩, ⟨(some 43), .load none (.t 42), none⟩, ⟨(some 44), .mv (.t 5), none⟩, ⟨(some 45), .iaddr 1 none (.t 43) (.t 44), none⟩, ⟨(some 46), .load none (.t 45), none⟩, ⟨(some 47), .lenl (.t 46), none⟩, ⟨(some 48), .bin .lss (.t 41) (.t 47), none⟩] []) (.cond (.t 48) .skip (.exit 2))) (.seq (.block 3 (.seq (.region true [ ⟨(some 51), .faddr (.t 2) 1, none⟩, ⟨(some 52), .load none (.t 51), none⟩, ⟨(some 53), .mv (.t 5), none⟩, ⟨(some 54), .iaddr 1 none (.t 52) (.t 53), none⟩, ⟨(some 55), .load none (.t 54), none⟩, ⟨(some 56), .mv (.t 6), none⟩, ⟨(some 57), .iaddr 4 none (.t 55) (.t 56), none⟩, ⟨(some 58), .load (some 4) (.t 57), none⟩, ⟨(some 59), .faddr (.t 3) 1, none⟩, ⟨(some 60), .load none (.t 59), none⟩, ⟨(some 61), .mv (.t 5), none⟩, ⟨(some 62), .iaddr 1 none (.t 60) (.t 61), none⟩, ⟨(some 63), .load none (.t 62), none⟩, ⟨(some 64), .mv (.t 6), none⟩, ⟨(some 65), .iaddr 4 none (.t 63) (.t 64), none⟩, ⟨(some 66), .load (some 4) (.t 65), none⟩, ⟨(some 67), .eqs [0, 0, 0, 0] true (.t 58) (.t 66), none⟩] [0, 1, 0, 6, 8, 0, 48, 64, 0, 256, 0, 1536, 2048, 0, 12288, 16384, 32896]) (.cond (.t 67) (.seq (.region false [ ⟨(some 4), .mv (.c (.d (.bool false))), none⟩] []) .ret) .skip))) (.region false [ ⟨(some 49), .mv (.t 6), none⟩, ⟨(some 50), .bin .add (.t 49) (.c (.d (.int .i64 1))), none⟩, ⟨(some 6), .mv (.t 50), none⟩] [])))
def ac28L1 : ACode := (.seq (.seq (.region false [ ⟨(some 21), .mv (.t 5), none⟩, ⟨(some 22), .faddr (.t 2) 1, none⟩, ⟨(some 23), .load none (.t 22), none⟩, ⟨(some 24), .lenl (.t 23), none⟩, ⟨(some 25), .bin .lss (.t 21) (.t 24), none⟩] []) (.cond (.t 25) .skip (.exit 0))) (.seq (.block 1 (.seq (.seq (.region true [ ⟨(some 28), .faddr (.t 2) 1, none⟩, ⟨(some 29), .load none (.t 28), none⟩, ⟨(some 30), .mv (.t 5), none⟩, ⟨(some 31), .iaddr 1 none (.t 29) (.t 30), none⟩, ⟨(some 32), .load none (.t 31), none⟩, ⟨(some 33), .lenl (.t 32), none⟩, ⟨(some 34), .faddr (.t 3) 1, none⟩, ⟨(some 35), .load none (.t 34), none⟩, ⟨(some 36), .mv (.t 5), none⟩, ⟨(some 37), .iaddr 1 none (.t 35) (.t 36), none⟩, ⟨(some 38), .load none (.t 37), none⟩, ⟨(some 39), .lenl (.t 38), none⟩, ⟨(some 40), .bin .neq (.t 33) (.t 39), none⟩] [0, 1, 0, 6, 8, 16, 0, 64, 0, 384, 512, 1024, 2080]) (.cond (.t 40) (.seq (.region false [ ⟨(some 4), .mv (.c (.d (.bool false))), none⟩] []) .ret) .skip)) (.seq (.region false [ ⟨(some 6), .mv (.c (.d (.int .i64 0))), none⟩] []) (.block 2 (.loop ac28L0))))) (.region false [ ⟨(some 26), .mv (.t 5), none⟩, ⟨(some 27), .bin .add (.t 26) (.c (.d (.int .i64 1))), none⟩, ⟨(some 5), .mv (.t 27), none⟩] [])))
def ac28 : ACode := (.seq (.region false [ ⟨(some 2), .box (.t 0), none⟩, ⟨(some 3), .box (.t 1), none⟩, ⟨(some 4), .mv (.c (.d (.bool false))), none⟩] []) (.seq (.seq (.region false [ ⟨(some 7), .faddr (.t 2) 0, none⟩, ⟨(some 8), .load none (.t 7), none⟩, ⟨(some 9), .faddr (.t 3) 0, none⟩, ⟨(some 10), .load none (.t 9), none⟩, ⟨(some 11), .bin .neq (.t 8) (.t 10), none⟩, ⟨(some 12), .mv (.t 11), none⟩, ⟨(some 13), .faddr (.t 2) 1, (some (12, false))⟩, ⟨(some 14), .load none (.t 13), (some (12, false))⟩, ⟨(some 15), .lenl (.t 14), (some (12, false))⟩, ⟨(some 16), .faddr (.t 3) 1, (some (12, false))⟩, ⟨(some 17), .load none (.t 16), (some (12, false))⟩, ⟨(some 18), .lenl (.t 17), (some (12, false))⟩, ⟨(some 19), .bin .neq (.t 15) (.t 18), (some (12, false))⟩, ⟨(some 20), .pick (.t 12) (.c (.d (.bool true))) (.t 19), none⟩] []) (.cond (.t 20) (.seq (.region false [ ⟨(some 4), .mv (.c (.d (.bool false))), none⟩] []) .ret) .skip)) (.seq (.seq (.region false [ ⟨(some 5), .mv (.c (.d (.int .i64 0))), none⟩] []) (.block 0 (.loop ac28L1))) (.seq (.region false [ ⟨(some 4), .mv (.c (.d (.bool true))), none⟩] []) .ret))))
theorem ac28_ok : Tryd.f28.body.bind (cCode Tryd.prog Tryd.f28.ntmps) = some ac28 := by kernel_rfl

-- 29 jacquard/jacquardlaw3.Small
-- 30 jacquard/jacquardref2.Print
-- 44 (*jacquard/parse.parser).next
def ac44 : ACode := (.seq (.region false [ ⟨(some 2), .mv (.t 0), none⟩, ⟨(some 3), .nilck (.t 2), none⟩, ⟨(some 4), .faddr (.t 3) 4, none⟩, ⟨(some 5), .faddr (.t 4) 0, none⟩, ⟨(some 6), .load none (.t 5), none⟩, ⟨(some 7), .bin .eql (.t 6) (.c (.d (.int .i64 0))), none⟩] []) (.cond (.t 7) (.region false [ ⟨(some 9), .mv (.t 0), none⟩, ⟨(some 10), .mv (.t 0), none⟩, ⟨(some 11), .mv (.t 0), none⟩, ⟨(some 12), .nilck (.t 11), none⟩, ⟨(some 13), .faddr (.t 12) 0, none⟩, ⟨(some 14), .load none (.t 13), none⟩, ⟨(some 15), .callf 22 [(.t 14)], none⟩, ⟨(some 8), .mv (.t 15), none⟩, ⟨(some 16), .ext (.t 8) 0, none⟩, ⟨(some 17), .ext (.t 8) 1, none⟩, ⟨(some 18), .nilck (.t 9), none⟩, ⟨(some 19), .faddr (.t 18) 1, none⟩, ⟨none, .store 3 (.t 19) (.t 16), none⟩, ⟨(some 20), .nilck (.t 10), none⟩, ⟨(some 21), .faddr (.t 20) 4, none⟩, ⟨none, .store 2 (.t 21) (.t 17), none⟩] []) .skip))
theorem ac44_ok : Tryd.f44.body.bind (cCode Tryd.prog Tryd.f44.ntmps) = some ac44 := by kernel_rfl

-- 45 (*jacquard/parse.parser).must
def ac45 : ACode := (.seq (.region false [ ⟨(some 4), .mv (.t 0), none⟩, ⟨(some 5), .mv (.t 1), none⟩, ⟨(some 6), .callf 47 [(.t 4), (.t 5)], none⟩, ⟨(some 7), .un .not (.t 6), none⟩] []) (.cond (.t 7) (.region false [ ⟨(some 8), .mv (.t 0), none⟩, ⟨(some 9), .callf 52 [(.t 8), (.c (.d (.int .i64 6)))], none⟩] []) .skip))
theorem ac45_ok : Tryd.f45.body.bind (cCode Tryd.prog Tryd.f45.ntmps) = some ac45 := by kernel_rfl

-- 46 (*jacquard/parse.parser).word
def ac46 : ACode := (.seq (.region false [ ⟨(some 2), .mv (.c (.d (.str []))), none⟩] []) (.seq (.region false [ ⟨(some 4), .mv (.t 0), none⟩, ⟨(some 5), .nilck (.t 4), none⟩, ⟨(some 6), .faddr (.t 5) 1, none⟩, ⟨(some 7), .faddr (.t 6) 1, none⟩, ⟨(some 8), .load none (.t 7), none⟩, ⟨(some 3), .mv (.t 8), none⟩] []) (.seq (.seq (.region false [ ⟨(some 9), .mv (.t 0), none⟩, ⟨(some 10), .nilck (.t 9), none⟩, ⟨(some 11), .faddr (.t 10) 1, none⟩, ⟨(some 12), .faddr (.t 11) 0, none⟩, ⟨(some 13), .load none (.t 12), none⟩, ⟨(some 14), .bin .neq (.t 13) (.c (.d (.int .i64 1))), none⟩] []) (.cond (.t 14) (.seq (.region false [ ⟨(some 15), .mv (.t 0), none⟩, ⟨(some 16), .callf 52 [(.t 15), (.c (.d (.int .i64 6)))], none⟩] []) (.seq (.region false [ ⟨(some 2), .mv (.c (.d (.str []))), none⟩] []) .ret)) .skip)) (.seq (.region false [ ⟨(some 17), .mv (.t 0), none⟩, ⟨(some 18), .callf 44 [(.t 17)], none⟩] []) (.seq (.region false [ ⟨(some 19), .mv (.t 3), none⟩, ⟨(some 2), .mv (.t 19), none⟩] []) .ret)))))
theorem ac46_ok : Tryd.f46.body.bind (cCode Tryd.prog Tryd.f46.ntmps) = some ac46 := by kernel_rfl

-- 47 (*jacquard/parse.parser).take
def ac47 : ACode := (.seq (.region false [ ⟨(some 4), .mv (.c (.d (.bool false))), none⟩] []) (.seq (.seq (.region false [ ⟨(some 5), .mv (.t 0), none⟩, ⟨(some 6), .mv (.t 1), none⟩, ⟨(some 7), .callf 71 [(.t 5), (.t 6)], none⟩, ⟨(some 8), .un .not (.t 7), none⟩] []) (.cond (.t 8) (.seq (.region false [ ⟨(some 4), .mv (.c (.d (.bool false))), none⟩] []) .ret) .skip)) (.seq (.region false [ ⟨(some 9), .mv (.t 0), none⟩, ⟨(some 10), .callf 44 [(.t 9)], none⟩] []) (.seq (.region false [ ⟨(some 4), .mv (.c (.d (.bool true))), none⟩] []) .ret))))
theorem ac47_ok : Tryd.f47.body.bind (cCode Tryd.prog Tryd.f47.ntmps) = some ac47 := by kernel_rfl

-- 48 (*jacquard/parse.parser).init
def ac48L0 : ACode := (.seq (.seq (.region false [ ⟨(some 7), .mv (.t 0), none⟩, ⟨(some 8), .callf 51 [(.t 7)], none⟩, ⟨(some 9), .mv (.t 8), none⟩, ⟨(some 10), .mv (.t 0), (some (9, true))⟩, ⟨(some 11), .callf 47 [(.t 10), (.c (.d (.str [125])))], (some (9, true))⟩, ⟨(some 12), .un .not (.t 11), (some (9, true))⟩, ⟨(some 13), .pick (.t 9) (.t 12) (.c (.d (.bool false))), none⟩] []) (.cond (.t 13) .skip (.exit 0))) (.block 1 (.seq (.region false [ ⟨(some 14), .mv (.t 0), none⟩, ⟨(some 15), .callf 72 [(.t 14), (.c (.fn 73 []))], none⟩, ⟨(some 16), .build [(.d (.int .i64 0)), (.d (.int .i64 0))] [(0, 1, (.t 15))], none⟩, ⟨(some 4), .alloc [(.d (.int .i64 0)), (.d (.int .i64 0))], none⟩, ⟨none, .store 2 (.t 4) (.t 16), none⟩] []) (.seq (.region false [ ⟨(some 17), .mv (.t 0), none⟩, ⟨(some 18), .callf 45 [(.t 17), (.c (.d (.str [61])))], none⟩] []) (.seq (.region false [ ⟨(some 19), .mv (.t 0), none⟩, ⟨(some 20), .callf 74 [(.t 19)], none⟩, ⟨(some 21), .faddr (.t 4) 1, none⟩, ⟨none, .store 1 (.t 21) (.t 20), none⟩] []) (.seq (.region false [ ⟨(some 22), .mv (.t 0), none⟩, ⟨(some 23), .callf 45 [(.t 22), (.c (.d (.str [59])))], none⟩] []) (.region false [ ⟨(some 24), .mv (.t 3), none⟩, ⟨(some 25), .load (some 2) (.t 4), none⟩, ⟨(some 26), .bslice 2 1 [(.d (.int .i64 0)), (.d (.int .i64 0))] [(0, 2, (.t 25))], none⟩, ⟨(some 27), .app 2 16 99 (.t 24) (.t 26), none⟩, ⟨(some 3), .mv (.t 27), none⟩] [])))))))
def ac48 : ACode := (.seq (.region false [ ⟨(some 2), .mv (.c (.d .nsl)), none⟩] []) (.seq (.region false [ ⟨(some 3), .mv (.c (.d .nsl)), none⟩] []) (.seq (.region false [ ⟨(some 5), .mv (.t 0), none⟩, ⟨(some 6), .callf 45 [(.t 5), (.c (.d (.str [123])))], none⟩] []) (.seq (.block 0 (.loop ac48L0)) (.seq (.region false [ ⟨(some 28), .mv (.t 3), none⟩, ⟨(some 2), .mv (.t 28), none⟩] []) .ret)))))
theorem ac48_ok : Tryd.f48.body.bind (cCode Tryd.prog Tryd.f48.ntmps) = some ac48 := by kernel_rfl

-- 49 (*jacquard/parse.parser).thread
def ac49L0 : ACode := (.seq (.seq (.region false [ ⟨(some 6), .mv (.t 0), none⟩, ⟨(some 7), .callf 51 [(.t 6)], none⟩, ⟨(some 8), .mv (.t 7), none⟩, ⟨(some 9), .mv (.t 0), (some (8, true))⟩, ⟨(some 10), .callf 47 [(.t 9), (.c (.d (.str [125])))], (some (8, true))⟩, ⟨(some 11), .un .not (.t 10), (some (8, true))⟩, ⟨(some 12), .pick (.t 8) (.t 11) (.c (.d (.bool false))), none⟩] []) (.cond (.t 12) .skip (.exit 0))) (.block 1 (.seq (.region false [ ⟨(some 13), .mv (.t 3), none⟩, ⟨(some 14), .mv (.t 0), none⟩, ⟨(some 15), .callf 75 [(.t 14)], none⟩, ⟨(some 16), .bslice 9 1 [(.d (.int .i64 0)), (.d (.int .i64 0)), (.d (.int .i64 0)), (.d (.int .i64 0)), (.d (.int .i64 0)), (.d (.int .i64 0)), (.d (.int .i64 0)), (.d (.int .i64 0)), (.d (.int .i64 0))] [(0, 9, (.t 15))], none⟩, ⟨(some 17), .app 9 72 86 (.t 13) (.t 16), none⟩, ⟨(some 3), .mv (.t 17), none⟩] []) (.region false [ ⟨(some 18), .mv (.t 0), none⟩, ⟨(some 19), .callf 45 [(.t 18), (.c (.d (.str [59])))], none⟩] []))))
def ac49 : ACode := (.seq (.region false [ ⟨(some 2), .mv (.c (.d .nsl)), none⟩] []) (.seq (.region false [ ⟨(some 3), .mv (.c (.d .nsl)), none⟩] []) (.seq (.region false [ ⟨(some 4), .mv (.t 0), none⟩, ⟨(some 5), .callf 45 [(.t 4), (.c (.d (.str [123])))], none⟩] []) (.seq (.block 0 (.loop ac49L0)) (.seq (.region false [ ⟨(some 20), .mv (.t 3), none⟩, ⟨(some 2), .mv (.t 20), none⟩] []) .ret)))))
theorem ac49_ok : Tryd.f49.body.bind (cCode Tryd.prog Tryd.f49.ntmps) = some ac49 := by kernel_rfl

-- 50 (*jacquard/parse.parser).cond
def ac50L0 : ACode := (.seq (.seq (.region false [ ⟨(some 12), .mv (.t 0), none⟩, ⟨(some 13), .callf 47 [(.t 12), (.c (.d (.str [38])))], none⟩] []) (.cond (.t 13) .skip (.exit 2))) (.block 3 (.region false [ ⟨(some 14), .mv (.t 6), none⟩, ⟨(some 15), .mv (.t 0), none⟩, ⟨(some 16), .callf 76 [(.t 15)], none⟩, ⟨(some 17), .bslice 4 1 [(.d (.int .i64 0)), (.d (.int .i64 0)), (.d (.int .i64 0)), (.d (.int .i64 0))] [(0, 4, (.t 16))], none⟩, ⟨(some 18), .app 4 32 61 (.t 14) (.t 17), none⟩, ⟨(some 6), .mv (.t 18), none⟩] [])))
def ac50L1 : ACode := (.block 1 (.seq (.region false [ ⟨(some 9), .mv (.t 0), none⟩, ⟨(some 10), .callf 76 [(.t 9)], none⟩, ⟨(some 11), .bslice 4 1 [(.d (.int .i64 0)), (.d (.int .i64 0)), (.d (.int .i64 0)), (.d (.int .i64 0))] [(0, 4, (.t 10))], none⟩, ⟨(some 6), .mv (.t 11), none⟩] []) (.seq (.block 2 (.loop ac50L0)) (.seq (.region false [ ⟨(some 19), .faddr (.t 5) 1, none⟩, ⟨(some 20), .load none (.t 19), none⟩, ⟨(some 21), .mv (.t 6), none⟩, ⟨(some 22), .bslice 1 1 [(.d .nsl)] [(0, 1, (.t 21))], none⟩, ⟨(some 23), .app 1 24 62 (.t 20) (.t 22), none⟩, ⟨(some 24), .faddr (.t 5) 1, none⟩, ⟨none, .store 1 (.t 24) (.t 23), none⟩] []) (.seq (.region false [ ⟨(some 25), .mv (.t 0), none⟩, ⟨(some 26), .callf 47 [(.t 25), (.c (.d (.str [124])))], none⟩, ⟨(some 27), .un .not (.t 26), none⟩] []) (.cond (.t 27) (.seq (.region false [ ⟨(some 28), .mv (.t 0), none⟩, ⟨(some 29), .callf 45 [(.t 28), (.c (.d (.str [59])))], none⟩] []) (.seq (.region false [ ⟨(some 30), .load (some 2) (.t 5), none⟩, ⟨none, .store 2 (.t 4) (.t 30), none⟩] []) .ret)) .skip))))))
def ac50 : ACode := (.seq (.region false [ ⟨(some 4), .alloc [(.d (.int .i64 0)), (.d .nsl)], none⟩] []) (.seq (.region false [ ⟨(some 7), .mv (.t 1), none⟩, ⟨(some 8), .build [(.d (.int .i64 0)), (.d .nsl)] [(0, 1, (.t 7))], none⟩, ⟨(some 5), .alloc [(.d (.int .i64 0)), (.d .nsl)], none⟩, ⟨none, .store 2 (.t 5) (.t 8), none⟩] []) (.block 0 (.loop ac50L1))))
theorem ac50_ok : Tryd.f50.body.bind (cCode Tryd.prog Tryd.f50.ntmps) = some ac50 := by kernel_rfl

-- 51 (*jacquard/parse.parser).ok
def ac51 : ACode := (.seq (.region false [ ⟨(some 2), .mv (.c (.d (.bool false))), none⟩] []) (.seq (.region false [ ⟨(some 3), .mv (.t 0), none⟩, ⟨(some 4), .nilck (.t 3), none⟩, ⟨(some 5), .faddr (.t 4) 4, none⟩, ⟨(some 6), .faddr (.t 5) 0, none⟩, ⟨(some 7), .load none (.t 6), none⟩, ⟨(some 8), .bin .eql (.t 7) (.c (.d (.int .i64 0))), none⟩, ⟨(some 2), .mv (.t 8), none⟩] []) .ret))
theorem ac51_ok : Tryd.f51.body.bind (cCode Tryd.prog Tryd.f51.ntmps) = some ac51 := by kernel_rfl

-- 52 (*jacquard/parse.parser).fail
def ac52 : ACode := (.seq (.region false [ ⟨(some 4), .mv (.t 0), none⟩, ⟨(some 5), .nilck (.t 4), none⟩, ⟨(some 6), .faddr (.t 5) 4, none⟩, ⟨(some 7), .faddr (.t 6) 0, none⟩, ⟨(some 8), .load none (.t 7), none⟩, ⟨(some 9), .bin .eql (.t 8) (.c (.d (.int .i64 0))), none⟩] []) (.cond (.t 9) (.region false [ ⟨(some 10), .mv (.t 0), none⟩, ⟨(some 11), .mv (.t 1), none⟩, ⟨(some 12), .mv (.t 0), none⟩, ⟨(some 13), .nilck (.t 12), none⟩, ⟨(some 14), .faddr (.t 13) 1, none⟩, ⟨(some 15), .faddr (.t 14) 2, none⟩, ⟨(some 16), .load none (.t 15), none⟩, ⟨(some 17), .build [(.d (.int .i64 0)), (.d (.int .i64 0))] [(0, 1, (.t 11)), (1, 1, (.t 16))], none⟩, ⟨(some 18), .nilck (.t 10), none⟩, ⟨(some 19), .faddr (.t 18) 4, none⟩, ⟨none, .store 2 (.t 19) (.t 17), none⟩] []) .skip))
theorem ac52_ok : Tryd.f52.body.bind (cCode Tryd.prog Tryd.f52.ntmps) = some ac52 := by kernel_rfl

-- 53 (*jacquard/jacquardref2.reader).eat
-- 54 (*jacquard/jacquardref2.reader).word
-- 55 (*jacquard/jacquardref2.reader).is
-- 56 (*jacquard/jacquardref2.reader).go1
-- 57 (*jacquard/jacquardref2.reader).loc
-- 58 (*jacquard/jacquardref2.reader).num
-- 59 (*jacquard/jacquardref2.reader).ins
-- 60 (*jacquard/jacquardref2.reader).atom
-- 61 (*jacquard/jacquardref2.reader).look
-- 62 (*jacquard/jacquardref2.reader).fail
-- 63 jacquard/jacquardlaw3.Small$1
-- 64 jacquard/jacquardref2.TestOk
-- 65 jacquard/jacquardref2.locText
-- 66 jacquard/jacquardref2.Ins
-- 67 jacquard/jacquardref2.Cond
-- 71 (*jacquard/parse.parser).is
def ac71 : ACode := (.seq (.region false [ ⟨(some 4), .mv (.c (.d (.bool false))), none⟩] []) (.seq (.region false [ ⟨(some 5), .mv (.t 0), none⟩, ⟨(some 6), .callf 51 [(.t 5)], none⟩, ⟨(some 7), .mv (.t 6), none⟩, ⟨(some 8), .mv (.t 0), (some (7, true))⟩, ⟨(some 9), .nilck (.t 8), (some (7, true))⟩, ⟨(some 10), .faddr (.t 9) 1, (some (7, true))⟩, ⟨(some 11), .faddr (.t 10) 0, (some (7, true))⟩, ⟨(some 12), .load none (.t 11), (some (7, true))⟩, ⟨(some 13), .bin .eql (.t 12) (.c (.d (.int .i64 3))), (some (7, true))⟩, ⟨(some 14), .mv (.t 13), (some (7, true))⟩, ⟨(some 15), .mv (.t 0), (some (14, false))⟩, ⟨(some 16), .nilck (.t 15), (some (14, false))⟩, ⟨(some 17), .faddr (.t 16) 1, (some (14, false))⟩, ⟨(some 18), .faddr (.t 17) 0, (some (14, false))⟩, ⟨(some 19), .load none (.t 18), (some (14, false))⟩, ⟨(some 20), .bin .eql (.t 19) (.c (.d (.int .i64 1))), (some (14, false))⟩, ⟨(some 21), .pick (.t 14) (.c (.d (.bool true))) (.t 20), (some (7, true))⟩, ⟨(some 22), .pick (.t 7) (.t 21) (.c (.d (.bool false))), none⟩, ⟨(some 23), .mv (.t 22), none⟩, ⟨(some 24), .mv (.t 0), (some (23, true))⟩, ⟨(some 25), .nilck (.t 24), (some (23, true))⟩, ⟨(some 26), .faddr (.t 25) 1, (some (23, true))⟩, ⟨(some 27), .faddr (.t 26) 1, (some (23, true))⟩, ⟨(some 28), .load none (.t 27), (some (23, true))⟩, ⟨(some 29), .mv (.t 1), (some (23, true))⟩, ⟨(some 30), .bin .eql (.t 28) (.t 29), (some (23, true))⟩, ⟨(some 31), .pick (.t 23) (.t 30) (.c (.d (.bool false))), none⟩, ⟨(some 4), .mv (.t 31), none⟩] []) .ret))
theorem ac71_ok : Tryd.f71.body.bind (cCode Tryd.prog Tryd.f71.ntmps) = some ac71 := by kernel_rfl

-- 72 (*jacquard/parse.parser).named
def ac72 : ACode := (.seq (.region false [ ⟨(some 4), .mv (.c (.d (.int .i64 0))), none⟩] []) (.seq (.seq (.region false [ ⟨(some 7), .mv (.t 0), none⟩, ⟨(some 8), .nilck (.t 7), none⟩, ⟨(some 9), .faddr (.t 8) 1, none⟩, ⟨(some 10), .faddr (.t 9) 0, none⟩, ⟨(some 11), .load none (.t 10), none⟩, ⟨(some 12), .bin .neq (.t 11) (.c (.d (.int .i64 1))), none⟩] []) (.cond (.t 12) (.seq (.region false [ ⟨(some 13), .mv (.t 0), none⟩, ⟨(some 14), .callf 52 [(.t 13), (.c (.d (.int .i64 6)))], none⟩] []) (.seq (.region false [ ⟨(some 4), .mv (.c (.d (.int .i64 0))), none⟩] []) .ret)) .skip)) (.seq (.region false [ ⟨(some 16), .mv (.t 1), none⟩, ⟨(some 17), .mv (.t 0), none⟩, ⟨(some 18), .nilck (.t 17), none⟩, ⟨(some 19), .faddr (.t 18) 1, none⟩, ⟨(some 20), .faddr (.t 19) 1, none⟩, ⟨(some 21), .load none (.t 20), none⟩, ⟨(some 22), .callv (.t 16) [(.t 21)], none⟩, ⟨(some 15), .mv (.t 22), none⟩, ⟨(some 23), .ext (.t 15) 0, none⟩, ⟨(some 24), .ext (.t 15) 1, none⟩, ⟨(some 5), .mv (.t 23), none⟩, ⟨(some 6), .mv (.t 24), none⟩] []) (.seq (.seq (.region false [ ⟨(some 25), .mv (.t 6), none⟩, ⟨(some 26), .un .not (.t 25), none⟩] []) (.cond (.t 26) (.seq (.region false [ ⟨(some 27), .mv (.t 0), none⟩, ⟨(some 28), .callf 52 [(.t 27), (.c (.d (.int .i64 7)))], none⟩] []) (.seq (.region false [ ⟨(some 4), .mv (.c (.d (.int .i64 0))), none⟩] []) .ret)) .skip)) (.seq (.region false [ ⟨(some 29), .mv (.t 0), none⟩, ⟨(some 30), .callf 44 [(.t 29)], none⟩] []) (.seq (.region false [ ⟨(some 31), .mv (.t 5), none⟩, ⟨(some 4), .mv (.t 31), none⟩] []) .ret))))))
theorem ac72_ok : Tryd.f72.body.bind (cCode Tryd.prog Tryd.f72.ntmps) = some ac72 := by kernel_rfl

-- 73 jacquard/parse.isLoc
def ac73 : ACode := (.seq (.region false [ ⟨(some 2), .mv (.c (.d (.int .i64 0))), none⟩, ⟨(some 3), .mv (.c (.d (.bool false))), none⟩] []) (.seq (.region false [ ⟨(some 4), .mv (.t 0), none⟩, ⟨(some 5), .idxs (.t 4) (.c (.d (.int .i64 0))), none⟩, ⟨(some 6), .cvi .i64 (.t 5), none⟩, ⟨(some 7), .mv (.t 0), none⟩, ⟨(some 8), .lens (.t 7), none⟩, ⟨(some 9), .bin .eql (.t 8) (.c (.d (.int .i64 1))), none⟩, ⟨(some 2), .mv (.t 6), none⟩, ⟨(some 3), .mv (.t 9), none⟩] []) .ret))
theorem ac73_ok : Tryd.f73.body.bind (cCode Tryd.prog Tryd.f73.ntmps) = some ac73 := by kernel_rfl

-- 74 (*jacquard/parse.parser).number
def ac74 : ACode := (.seq (.region false [ ⟨(some 2), .mv (.c (.d (.int .i64 0))), none⟩] []) (.seq (.seq (.region false [ ⟨(some 5), .mv (.t 0), none⟩, ⟨(some 6), .nilck (.t 5), none⟩, ⟨(some 7), .faddr (.t 6) 1, none⟩, ⟨(some 8), .faddr (.t 7) 0, none⟩, ⟨(some 9), .load none (.t 8), none⟩, ⟨(some 10), .bin .neq (.t 9) (.c (.d (.int .i64 2))), none⟩] []) (.cond (.t 10) (.region false [ ⟨(some 11), .mv (.t 0), none⟩, ⟨(some 12), .callf 52 [(.t 11), (.c (.d (.int .i64 6)))], none⟩] []) .skip)) (.seq (.seq (.region false [ ⟨(some 13), .mv (.t 0), none⟩, ⟨(some 14), .callf 51 [(.t 13)], none⟩, ⟨(some 15), .un .not (.t 14), none⟩] []) (.cond (.t 15) (.seq (.region false [ ⟨(some 2), .mv (.c (.d (.int .i64 0))), none⟩] []) .ret) .skip)) (.seq (.region false [ ⟨(some 17), .mv (.t 0), none⟩, ⟨(some 18), .nilck (.t 17), none⟩, ⟨(some 19), .faddr (.t 18) 1, none⟩, ⟨(some 20), .faddr (.t 19) 1, none⟩, ⟨(some 21), .load none (.t 20), none⟩, ⟨(some 22), .callf 37 [(.t 21)], none⟩, ⟨(some 16), .mv (.t 22), none⟩, ⟨(some 23), .ext (.t 16) 0, none⟩, ⟨(some 24), .ext (.t 16) 1, none⟩, ⟨(some 3), .mv (.t 23), none⟩, ⟨(some 4), .mv (.t 24), none⟩] []) (.seq (.region false [ ⟨(some 25), .mv (.t 0), none⟩, ⟨(some 26), .callf 44 [(.t 25)], none⟩] []) (.seq (.region false [ ⟨(some 27), .mv (.t 3), none⟩, ⟨(some 2), .mv (.t 27), none⟩] []) .ret))))))
theorem ac74_ok : Tryd.f74.body.bind (cCode Tryd.prog Tryd.f74.ntmps) = some ac74 := by kernel_rfl

-- 75 (*jacquard/parse.parser).ins
def ac75 : ACode := (.seq (.region false [ ⟨(some 2), .alloc [(.d (.int .i64 0)), (.d (.int .i64 0)), (.d (.int .i64 0)), (.d (.int .i64 0)), (.d (.int .i64 0)), (.d (.int .i64 0)), (.d (.int .i64 0)), (.d (.int .i64 0)), (.d (.int .i64 0))], none⟩] []) (.seq (.region false [ ⟨(some 6), .build [(.d (.int .i64 0)), (.d (.int .i64 0)), (.d (.int .i64 0)), (.d (.int .i64 0)), (.d (.int .i64 0)), (.d (.int .i64 0)), (.d (.int .i64 0)), (.d (.int .i64 0)), (.d (.int .i64 0))] [], none⟩, ⟨(some 3), .alloc [(.d (.int .i64 0)), (.d (.int .i64 0)), (.d (.int .i64 0)), (.d (.int .i64 0)), (.d (.int .i64 0)), (.d (.int .i64 0)), (.d (.int .i64 0)), (.d (.int .i64 0)), (.d (.int .i64 0))], none⟩, ⟨none, .store 9 (.t 3) (.t 6), none⟩] []) (.seq (.block 0 (.seq (.region false [ ⟨(some 15), .mv (.t 0), none⟩, ⟨(some 16), .callf 47 [(.t 15), (.c (.d (.str [115, 116, 111, 114, 101])))], none⟩, ⟨(some 14), .mv (.t 16), none⟩] []) (.cond (.t 14) (.seq (.region false [ ⟨(some 17), .mv (.t 0), none⟩, ⟨(some 18), .callf 72 [(.t 17), (.c (.fn 73 []))], none⟩, ⟨(some 19), .faddr (.t 3) 0, none⟩, ⟨none, .store 1 (.t 19) (.c (.d (.int .i64 1))), none⟩, ⟨(some 20), .faddr (.t 3) 2, none⟩, ⟨none, .store 1 (.t 20) (.t 18), none⟩] []) (.region false [ ⟨(some 21), .mv (.t 0), none⟩, ⟨(some 22), .callf 91 [(.t 21)], none⟩, ⟨(some 23), .faddr (.t 3) 3, none⟩, ⟨none, .store 2 (.t 23) (.t 22), none⟩] [])) (.seq (.region false [ ⟨(some 25), .mv (.t 0), none⟩, ⟨(some 26), .callf 47 [(.t 25), (.c (.d (.str [102, 101, 110, 99, 101])))], none⟩, ⟨(some 24), .mv (.t 26), none⟩] []) (.cond (.t 24) (.region false [ ⟨(some 27), .faddr (.t 3) 0, none⟩, ⟨none, .store 1 (.t 27) (.c (.d (.int .i64 3))), none⟩] []) (.seq (.region false [ ⟨(some 29), .mv (.t 0), none⟩, ⟨(some 30), .callf 47 [(.t 29), (.c (.d (.str [115, 107, 105, 112])))], none⟩, ⟨(some 28), .mv (.t 30), none⟩] []) (.cond (.t 28) (.seq (.region false [ ⟨(some 31), .faddr (.t 3) 0, none⟩, ⟨none, .store 1 (.t 31) (.c (.d (.int .i64 6))), none⟩] []) (.seq (.seq (.region false [ ⟨(some 33), .mv (.t 0), none⟩, ⟨(some 34), .nilck (.t 33), none⟩, ⟨(some 35), .faddr (.t 34) 1, none⟩, ⟨(some 36), .faddr (.t 35) 1, none⟩, ⟨(some 37), .load none (.t 36), none⟩, ⟨(some 38), .callf 37 [(.t 37)], none⟩, ⟨(some 32), .mv (.t 38), none⟩, ⟨(some 39), .ext (.t 32) 0, none⟩, ⟨(some 40), .ext (.t 32) 1, none⟩, ⟨(some 4), .mv (.t 39), none⟩, ⟨(some 5), .mv (.t 40), none⟩] []) (.seq (.region false [ ⟨(some 41), .mv (.t 0), none⟩, ⟨(some 42), .nilck (.t 41), none⟩, ⟨(some 43), .faddr (.t 42) 1, none⟩, ⟨(some 44), .faddr (.t 43) 0, none⟩, ⟨(some 45), .load none (.t 44), none⟩, ⟨(some 46), .bin .eql (.t 45) (.c (.d (.int .i64 2))), none⟩, ⟨(some 47), .mv (.t 46), none⟩, ⟨(some 48), .mv (.t 4), (some (47, true))⟩, ⟨(some 49), .bin .lss (.t 48) (.c (.d (.int .i64 0))), (some (47, true))⟩, ⟨(some 50), .pick (.t 47) (.t 49) (.c (.d (.bool false))), none⟩] []) (.cond (.t 50) (.region false [ ⟨(some 51), .mv (.t 0), none⟩, ⟨(some 52), .callf 52 [(.t 51), (.c (.d (.int .i64 6)))], none⟩] []) .skip))) (.seq (.region false [ ⟨(some 53), .mv (.t 0), none⟩, ⟨(some 54), .callf 74 [(.t 53)], none⟩, ⟨(some 55), .faddr (.t 3) 8, none⟩, ⟨none, .store 1 (.t 55) (.t 54), none⟩] []) (.seq (.region false [ ⟨(some 56), .mv (.t 0), none⟩, ⟨(some 57), .callf 45 [(.t 56), (.c (.d (.str [105, 102])))], none⟩] []) (.seq (.region false [ ⟨(some 58), .mv (.t 0), none⟩, ⟨(some 59), .callf 91 [(.t 58)], none⟩, ⟨(some 60), .faddr (.t 3) 3, none⟩, ⟨none, .store 2 (.t 60) (.t 59), none⟩] []) (.seq (.region false [ ⟨(some 61), .mv (.t 0), none⟩, ⟨(some 62), .callf 45 [(.t 61), (.c (.d (.str [61, 61])))], none⟩] []) (.region false [ ⟨(some 63), .mv (.t 0), none⟩, ⟨(some 64), .callf 91 [(.t 63)], none⟩, ⟨(some 65), .faddr (.t 3) 6, none⟩, ⟨none, .store 2 (.t 65) (.t 64), none⟩] []))))))) (.seq (.region false [ ⟨(some 7), .mv (.t 0), none⟩, ⟨(some 8), .callf 72 [(.t 7), (.c (.fn 92 []))], none⟩, ⟨(some 9), .faddr (.t 3) 1, none⟩, ⟨none, .store 1 (.t 9) (.t 8), none⟩] []) (.seq (.region false [ ⟨(some 10), .mv (.t 0), none⟩, ⟨(some 11), .callf 45 [(.t 10), (.c (.d (.str [61])))], none⟩] []) (.region false [ ⟨(some 12), .mv (.t 0), none⟩, ⟨(some 13), .callf 93 [(.t 12), (.t 3)], none⟩] [])))))))))) (.seq (.region false [ ⟨(some 66), .load (some 9) (.t 3), none⟩, ⟨none, .store 9 (.t 2) (.t 66), none⟩] []) .ret))))
theorem ac75_ok : Tryd.f75.body.bind (cCode Tryd.prog Tryd.f75.ntmps) = some ac75 := by kernel_rfl

-- 76 (*jacquard/parse.parser).atom
def ac76 : ACode := (.seq (.region false [ ⟨(some 2), .alloc [(.d (.int .i64 0)), (.d (.int .i64 0)), (.d (.int .i64 0)), (.d (.int .i64 0))], none⟩] []) (.seq (.region false [ ⟨(some 6), .build [(.d (.int .i64 0)), (.d (.int .i64 0)), (.d (.int .i64 0)), (.d (.int .i64 0))] [(0, 1, (.c (.d (.int .i64 (-1)))))], none⟩, ⟨(some 3), .alloc [(.d (.int .i64 0)), (.d (.int .i64 0)), (.d (.int .i64 0)), (.d (.int .i64 0))], none⟩, ⟨none, .store 4 (.t 3) (.t 6), none⟩] []) (.seq (.seq (.region false [ ⟨(some 7), .mv (.t 0), none⟩, ⟨(some 8), .callf 51 [(.t 7)], none⟩, ⟨(some 9), .mv (.t 8), none⟩, ⟨(some 10), .mv (.t 0), (some (9, true))⟩, ⟨(some 11), .nilck (.t 10), (some (9, true))⟩, ⟨(some 12), .faddr (.t 11) 1, (some (9, true))⟩, ⟨(some 13), .faddr (.t 12) 0, (some (9, true))⟩, ⟨(some 14), .load none (.t 13), (some (9, true))⟩, ⟨(some 15), .bin .eql (.t 14) (.c (.d (.int .i64 2))), (some (9, true))⟩, ⟨(some 16), .pick (.t 9) (.t 15) (.c (.d (.bool false))), none⟩] []) (.cond (.t 16) (.seq (.region false [ ⟨(some 18), .mv (.t 0), none⟩, ⟨(some 19), .nilck (.t 18), none⟩, ⟨(some 20), .faddr (.t 19) 1, none⟩, ⟨(some 21), .faddr (.t 20) 1, none⟩, ⟨(some 22), .load none (.t 21), none⟩, ⟨(some 23), .callf 37 [(.t 22)], none⟩, ⟨(some 17), .mv (.t 23), none⟩, ⟨(some 24), .ext (.t 17) 0, none⟩, ⟨(some 25), .ext (.t 17) 1, none⟩, ⟨(some 4), .mv (.t 24), none⟩, ⟨(some 5), .mv (.t 25), none⟩] []) (.seq (.seq (.region false [ ⟨(some 26), .mv (.t 4), none⟩, ⟨(some 27), .bin .lss (.t 26) (.c (.d (.int .i64 0))), none⟩, ⟨(some 28), .mv (.t 27), none⟩, ⟨(some 29), .mv (.t 4), (some (28, false))⟩, ⟨(some 30), .bin .gtr (.t 29) (.c (.d (.int .i64 9))), (some (28, false))⟩, ⟨(some 31), .pick (.t 28) (.c (.d (.bool true))) (.t 30), none⟩] []) (.cond (.t 31) (.seq (.region false [ ⟨(some 32), .mv (.t 0), none⟩, ⟨(some 33), .callf 52 [(.t 32), (.c (.d (.int .i64 7)))], none⟩] []) (.seq (.region false [ ⟨(some 34), .build [(.d (.int .i64 0)), (.d (.int .i64 0)), (.d (.int .i64 0)), (.d (.int .i64 0))] [], none⟩, ⟨none, .store 4 (.t 2) (.t 34), none⟩] []) .ret)) .skip)) (.seq (.region false [ ⟨(some 35), .mv (.t 4), none⟩, ⟨(some 36), .faddr (.t 3) 0, none⟩, ⟨none, .store 1 (.t 36) (.t 35), none⟩] []) (.seq (.region false [ ⟨(some 37), .mv (.t 0), none⟩, ⟨(some 38), .callf 44 [(.t 37)], none⟩] []) (.seq (.region false [ ⟨(some 39), .mv (.t 0), none⟩, ⟨(some 40), .callf 45 [(.t 39), (.c (.d (.str [58])))], none⟩] []) (.region false [ ⟨(some 41), .mv (.t 0), none⟩, ⟨(some 42), .callf 72 [(.t 41), (.c (.fn 92 []))], none⟩, ⟨(some 43), .faddr (.t 3) 1, none⟩, ⟨none, .store 1 (.t 43) (.t 42), none⟩] [])))))) (.region false [ ⟨(some 44), .mv (.t 0), none⟩, ⟨(some 45), .callf 72 [(.t 44), (.c (.fn 73 []))], none⟩, ⟨(some 46), .faddr (.t 3) 2, none⟩, ⟨none, .store 1 (.t 46) (.t 45), none⟩] []))) (.seq (.region false [ ⟨(some 47), .mv (.t 0), none⟩, ⟨(some 48), .callf 45 [(.t 47), (.c (.d (.str [61])))], none⟩] []) (.seq (.region false [ ⟨(some 49), .mv (.t 0), none⟩, ⟨(some 50), .callf 74 [(.t 49)], none⟩, ⟨(some 51), .faddr (.t 3) 3, none⟩, ⟨none, .store 1 (.t 51) (.t 50), none⟩] []) (.seq (.region false [ ⟨(some 52), .load (some 4) (.t 3), none⟩, ⟨none, .store 4 (.t 2) (.t 52), none⟩] []) .ret))))))
theorem ac76_ok : Tryd.f76.body.bind (cCode Tryd.prog Tryd.f76.ntmps) = some ac76 := by kernel_rfl

-- 77 (*jacquard/jacquardref2.reader).operand
-- 78 (*jacquard/jacquardref2.reader).register
-- 79 jacquard/jacquardref2.Op
-- 80 jacquard/jacquardref2.word
-- 81 jacquard/jacquardref2.CondOk
-- 82 jacquard/jacquardref2.named
-- 84 jacquard/jacquardref2.operandText
-- 85 jacquard/jacquardref2.regText
-- 86 jacquard/jacquardref2.Sign
-- 91 (*jacquard/parse.parser).operand
def ac91 : ACode := (.seq (.region false [ ⟨(some 2), .alloc [(.d (.int .i64 0)), (.d (.int .i64 0))], none⟩] []) (.seq (.seq (.region false [ ⟨(some 3), .mv (.t 0), none⟩, ⟨(some 4), .callf 51 [(.t 3)], none⟩, ⟨(some 5), .mv (.t 4), none⟩, ⟨(some 6), .mv (.t 0), (some (5, true))⟩, ⟨(some 7), .nilck (.t 6), (some (5, true))⟩, ⟨(some 8), .faddr (.t 7) 1, (some (5, true))⟩, ⟨(some 9), .faddr (.t 8) 0, (some (5, true))⟩, ⟨(some 10), .load none (.t 9), (some (5, true))⟩, ⟨(some 11), .bin .eql (.t 10) (.c (.d (.int .i64 2))), (some (5, true))⟩, ⟨(some 12), .pick (.t 5) (.t 11) (.c (.d (.bool false))), none⟩] []) (.cond (.t 12) (.seq (.region false [ ⟨(some 13), .mv (.t 0), none⟩, ⟨(some 14), .callf 74 [(.t 13)], none⟩, ⟨(some 15), .build [(.d (.int .i64 0)), (.d (.int .i64 0))] [(0, 1, (.c (.d (.int .i64 (-1))))), (1, 1, (.t 14))], none⟩, ⟨none, .store 2 (.t 2) (.t 15), none⟩] []) .ret) .skip)) (.seq (.region false [ ⟨(some 16), .mv (.t 0), none⟩, ⟨(some 17), .callf 72 [(.t 16), (.c (.fn 92 []))], none⟩, ⟨(some 18), .build [(.d (.int .i64 0)), (.d (.int .i64 0))] [(0, 1, (.t 17))], none⟩, ⟨none, .store 2 (.t 2) (.t 18), none⟩] []) .ret)))
theorem ac91_ok : Tryd.f91.body.bind (cCode Tryd.prog Tryd.f91.ntmps) = some ac91 := by kernel_rfl

-- 92 jacquard/parse.isReg
def ac92 : ACode := (.seq (.region false [ ⟨(some 2), .mv (.c (.d (.int .i64 0))), none⟩, ⟨(some 3), .mv (.c (.d (.bool false))), none⟩] []) (.seq (.seq (.region false [ ⟨(some 4), .mv (.t 0), none⟩, ⟨(some 5), .lens (.t 4), none⟩, ⟨(some 6), .bin .neq (.t 5) (.c (.d (.int .i64 2))), none⟩, ⟨(some 7), .mv (.t 6), none⟩, ⟨(some 8), .mv (.t 0), (some (7, false))⟩, ⟨(some 9), .idxs (.t 8) (.c (.d (.int .i64 0))), (some (7, false))⟩, ⟨(some 10), .bin .neq (.t 9) (.c (.d (.int .u8 114))), (some (7, false))⟩, ⟨(some 11), .pick (.t 7) (.c (.d (.bool true))) (.t 10), none⟩, ⟨(some 12), .mv (.t 11), none⟩, ⟨(some 13), .mv (.t 0), (some (12, false))⟩, ⟨(some 14), .idxs (.t 13) (.c (.d (.int .i64 1))), (some (12, false))⟩, ⟨(some 15), .bin .lss (.t 14) (.c (.d (.int .u8 48))), (some (12, false))⟩, ⟨(some 16), .pick (.t 12) (.c (.d (.bool true))) (.t 15), none⟩, ⟨(some 17), .mv (.t 16), none⟩, ⟨(some 18), .mv (.t 0), (some (17, false))⟩, ⟨(some 19), .idxs (.t 18) (.c (.d (.int .i64 1))), (some (17, false))⟩, ⟨(some 20), .bin .gtr (.t 19) (.c (.d (.int .u8 51))), (some (17, false))⟩, ⟨(some 21), .pick (.t 17) (.c (.d (.bool true))) (.t 20), none⟩] []) (.cond (.t 21) (.seq (.region false [ ⟨(some 2), .mv (.c (.d (.int .i64 0))), none⟩, ⟨(some 3), .mv (.c (.d (.bool false))), none⟩] []) .ret) .skip)) (.seq (.region false [ ⟨(some 22), .mv (.t 0), none⟩, ⟨(some 23), .idxs (.t 22) (.c (.d (.int .i64 1))), none⟩, ⟨(some 24), .bin .and (.t 23) (.c (.d (.int .u8 3))), none⟩, ⟨(some 25), .cvi .i64 (.t 24), none⟩, ⟨(some 2), .mv (.t 25), none⟩, ⟨(some 3), .mv (.c (.d (.bool true))), none⟩] []) .ret)))
theorem ac92_ok : Tryd.f92.body.bind (cCode Tryd.prog Tryd.f92.ntmps) = some ac92 := by kernel_rfl

-- 93 (*jacquard/parse.parser).right
def ac93 : ACode := (.block 0 (.seq (.region false [ ⟨(some 51), .mv (.t 0), none⟩, ⟨(some 52), .callf 47 [(.t 51), (.c (.d (.str [108, 111, 97, 100])))], none⟩, ⟨(some 50), .mv (.t 52), none⟩] []) (.cond (.t 50) (.region false [ ⟨(some 53), .mv (.t 1), none⟩, ⟨(some 54), .mv (.t 1), none⟩, ⟨(some 55), .mv (.t 0), none⟩, ⟨(some 56), .callf 72 [(.t 55), (.c (.fn 73 []))], none⟩, ⟨(some 57), .nilck (.t 53), none⟩, ⟨(some 58), .faddr (.t 57) 0, none⟩, ⟨none, .store 1 (.t 58) (.c (.d (.int .i64 2))), none⟩, ⟨(some 59), .nilck (.t 54), none⟩, ⟨(some 60), .faddr (.t 59) 2, none⟩, ⟨none, .store 1 (.t 60) (.t 56), none⟩] []) (.seq (.region false [ ⟨(some 62), .mv (.t 0), none⟩, ⟨(some 63), .callf 47 [(.t 62), (.c (.d (.str [99, 97, 115])))], none⟩, ⟨(some 61), .mv (.t 63), none⟩] []) (.cond (.t 61) (.seq (.region false [ ⟨(some 64), .mv (.t 1), none⟩, ⟨(some 65), .mv (.t 1), none⟩, ⟨(some 66), .mv (.t 0), none⟩, ⟨(some 67), .callf 72 [(.t 66), (.c (.fn 73 []))], none⟩, ⟨(some 68), .nilck (.t 64), none⟩, ⟨(some 69), .faddr (.t 68) 0, none⟩, ⟨none, .store 1 (.t 69) (.c (.d (.int .i64 4))), none⟩, ⟨(some 70), .nilck (.t 65), none⟩, ⟨(some 71), .faddr (.t 70) 2, none⟩, ⟨none, .store 1 (.t 71) (.t 67), none⟩] []) (.seq (.region false [ ⟨(some 72), .mv (.t 1), none⟩, ⟨(some 73), .mv (.t 0), none⟩, ⟨(some 74), .callf 91 [(.t 73)], none⟩, ⟨(some 75), .nilck (.t 72), none⟩, ⟨(some 76), .faddr (.t 75) 3, none⟩, ⟨none, .store 2 (.t 76) (.t 74), none⟩] []) (.region false [ ⟨(some 77), .mv (.t 1), none⟩, ⟨(some 78), .mv (.t 0), none⟩, ⟨(some 79), .callf 91 [(.t 78)], none⟩, ⟨(some 80), .nilck (.t 77), none⟩, ⟨(some 81), .faddr (.t 80) 6, none⟩, ⟨none, .store 2 (.t 81) (.t 79), none⟩] []))) (.seq (.region false [ ⟨(some 6), .mv (.t 1), none⟩, ⟨(some 7), .mv (.t 1), none⟩, ⟨(some 8), .mv (.t 1), none⟩, ⟨(some 9), .mv (.t 0), none⟩, ⟨(some 10), .callf 91 [(.t 9)], none⟩, ⟨(some 11), .build [(.d (.int .i64 0)), (.d (.int .i64 0))] [(0, 1, (.c (.d (.int .i64 (-1)))))], none⟩, ⟨(some 12), .nilck (.t 6), none⟩, ⟨(some 13), .faddr (.t 12) 0, none⟩, ⟨none, .store 1 (.t 13) (.c (.d (.int .i64 5))), none⟩, ⟨(some 14), .nilck (.t 7), none⟩, ⟨(some 15), .faddr (.t 14) 3, none⟩, ⟨none, .store 2 (.t 15) (.t 10), none⟩, ⟨(some 16), .nilck (.t 8), none⟩, ⟨(some 17), .faddr (.t 16) 6, none⟩, ⟨none, .store 2 (.t 17) (.t 11), none⟩] []) (.seq (.seq (.region false [ ⟨(some 18), .mv (.t 0), none⟩, ⟨(some 19), .callf 51 [(.t 18)], none⟩, ⟨(some 20), .un .not (.t 19), none⟩, ⟨(some 21), .mv (.t 20), none⟩, ⟨(some 22), .mv (.t 0), (some (21, false))⟩, ⟨(some 23), .nilck (.t 22), (some (21, false))⟩, ⟨(some 24), .faddr (.t 23) 1, (some (21, false))⟩, ⟨(some 25), .faddr (.t 24) 0, (some (21, false))⟩, ⟨(some 26), .load none (.t 25), (some (21, false))⟩, ⟨(some 27), .bin .neq (.t 26) (.c (.d (.int .i64 3))), (some (21, false))⟩, ⟨(some 28), .pick (.t 21) (.c (.d (.bool true))) (.t 27), none⟩] []) (.cond (.t 28) .ret .skip)) (.seq (.region false [ ⟨(some 30), .mv (.t 0), none⟩, ⟨(some 31), .nilck (.t 30), none⟩, ⟨(some 32), .faddr (.t 31) 1, none⟩, ⟨(some 33), .faddr (.t 32) 1, none⟩, ⟨(some 34), .load none (.t 33), none⟩, ⟨(some 35), .callf 104 [(.t 34)], none⟩, ⟨(some 29), .mv (.t 35), none⟩, ⟨(some 36), .ext (.t 29) 0, none⟩, ⟨(some 37), .ext (.t 29) 1, none⟩, ⟨(some 4), .mv (.t 36), none⟩, ⟨(some 5), .mv (.t 37), none⟩] []) (.seq (.region false [ ⟨(some 38), .mv (.t 5), none⟩] []) (.cond (.t 38) (.seq (.region false [ ⟨(some 39), .mv (.t 0), none⟩, ⟨(some 40), .callf 44 [(.t 39)], none⟩] []) (.region false [ ⟨(some 41), .mv (.t 1), none⟩, ⟨(some 42), .mv (.t 1), none⟩, ⟨(some 43), .mv (.t 4), none⟩, ⟨(some 44), .mv (.t 0), none⟩, ⟨(some 45), .callf 91 [(.t 44)], none⟩, ⟨(some 46), .nilck (.t 41), none⟩, ⟨(some 47), .faddr (.t 46) 5, none⟩, ⟨none, .store 1 (.t 47) (.t 43), none⟩, ⟨(some 48), .nilck (.t 42), none⟩, ⟨(some 49), .faddr (.t 48) 6, none⟩, ⟨none, .store 2 (.t 49) (.t 45), none⟩] [])) .skip))))))))))
theorem ac93_ok : Tryd.f93.body.bind (cCode Tryd.prog Tryd.f93.ntmps) = some ac93 := by kernel_rfl

-- 94 jacquard/jacquardref2.reg
-- 95 jacquard/jacquardref2.signs
-- 96 jacquard/jacquardref2.operandOk
end Go.Proofs.YtpfbljkfbjjlkaaDoor

/- A test as plain data, and its cells. -/
namespace Go.Proofs.YtpfbljkfbjjlkaaDoor
open Go Go.Jq

structure Atom where
  thread : Int
  reg : Int
  loc : Int
  value : Int

def Atom.cells (a : Atom) : List DV := [.int .i64 a.thread, .int .i64 a.reg, .int .i64 a.loc, .int .i64 a.value]

structure Opnd where
  reg : Int
  value : Int

def Opnd.cells (o : Opnd) : List DV := [.int .i64 o.reg, .int .i64 o.value]

structure Ins where
  kind : Int
  reg : Int
  loc : Int
  a : Opnd
  op : Int
  b : Opnd
  n : Int

def Ins.cells (i : Ins) : List DV := [.int .i64 i.kind, .int .i64 i.reg, .int .i64 i.loc, .int .i64 i.a.reg, .int .i64 i.a.value, .int .i64 i.op, .int .i64 i.b.reg, .int .i64 i.b.value, .int .i64 i.n]

structure Init where
  loc : Int
  value : Int

def Init.cells (i : Init) : List DV := [.int .i64 i.loc, .int .i64 i.value]

structure Test where
  name : List UInt8
  inits : List Init
  threads : List (List Ins)
  kind : Int
  rows : List (List Atom)

theorem init_len (i : Init) : (Init.cells i).length = 2 := rfl
theorem ins_len (i : Ins) : (Ins.cells i).length = 9 := rfl
theorem atom_len (i : Atom) : (Atom.cells i).length = 4 := rfl

end Go.Proofs.YtpfbljkfbjjlkaaDoor

/- Texts of tests, tests that may be, the test made of numbers: plain Lean, no program in sight. -/

namespace Go.Proofs.YtpfbljkfbjjlkaaDoor
open Go Go.Jq
set_option maxRecDepth 100000
set_option linter.unusedSimpArgs false

/-! ### NS -/

def signsT : List (List UInt8) := [[], [43], [45], [42], [38], [124], [94], [60, 60], [62, 62], [61, 61], [33, 61], [60]]
def signT (op : Int) : List UInt8 := if 1 ≤ op ∧ op ≤ 11 then signsT.getD op.toNat [] else []

/-! ### F1 -/

def isLocB (n : Int) : Bool := decide (97 ≤ n) && decide (n ≤ 122)
def isRegB (n : Int) : Bool := decide (0 ≤ n) && decide (n < 4)
def isOpB (o : Opnd) : Bool := decide (o.reg = -1) || (isRegB o.reg && decide (o.value = 0))

def wordAt (i : Nat) (c : UInt8) : Bool := (decide (97 ≤ c.toNat) && decide (c.toNat ≤ 122)) || (decide (i ≠ 0) && decide (48 ≤ c.toNat) && decide (c.toNat ≤ 57))
def isWordB (s : List UInt8) : Bool := (List.range s.length).all (fun i => wordAt i (s.getD i 0)) && decide (s ≠ [])

/-! ### F2 -/

def eqIns (x w : Ins) : Bool := decide (x.kind = w.kind) && (decide (x.reg = w.reg) && (decide (x.loc = w.loc) && (decide (x.a.reg = w.a.reg) && (decide (x.a.value = w.a.value) && (decide (x.op = w.op) && (decide (x.b.reg = w.b.reg) && (decide (x.b.value = w.b.value) && (decide (x.n = w.n) && true))))))))

def okInsB (x : Ins) : Bool :=
  if x.kind = 1 then (isLocB x.loc && isOpB x.a) && eqIns x ⟨x.kind, 0, x.loc, x.a, 0, ⟨0, 0⟩, 0⟩
  else if x.kind = 2 then (isLocB x.loc && isRegB x.reg) && eqIns x ⟨x.kind, x.reg, x.loc, ⟨0, 0⟩, 0, ⟨0, 0⟩, 0⟩
  else if x.kind = 3 then eqIns x ⟨x.kind, 0, 0, ⟨0, 0⟩, 0, ⟨0, 0⟩, 0⟩
  else if x.kind = 4 then (isLocB x.loc && isRegB x.reg && isOpB x.a && isOpB x.b) && eqIns x ⟨x.kind, x.reg, x.loc, x.a, 0, x.b, 0⟩
  else if x.kind = 5 then (isRegB x.reg && isOpB x.a && isOpB x.b && decide (0 ≤ x.op) && decide (x.op ≤ 11) && (decide (0 < x.op) || (decide (x.b.reg = -1) && decide (x.b.value = 0)))) && eqIns x ⟨x.kind, x.reg, 0, x.a, x.op, x.b, 0⟩
  else if x.kind = 6 then (decide (0 ≤ x.n) && isOpB x.a && isOpB x.b) && eqIns x ⟨x.kind, 0, 0, x.a, 0, x.b, x.n⟩
  else false

/-! ### F3 -/

def okAtomB (a : Atom) : Bool := if a.thread = -1 then decide (a.reg = 0) && isLocB a.loc else decide (0 ≤ a.thread) && decide (a.thread ≤ 9) && decide (a.loc = 0) && isRegB a.reg

def badRowB (l : List Atom) : Bool := decide (l.length = 0) || l.any fun a => !okAtomB a

def okCondB (kind : Int) (rows : List (List Atom)) : Bool :=
  if kind = 0 then decide (rows.length = 0) else (decide (kind = 1) || decide (kind = 2)) && decide (0 < rows.length) && !rows.any badRowB

def badThreadB (l : List Ins) : Bool := l.any fun x => !okInsB x

def badInitB (l : List Init) : Bool := l.any fun x => !isLocB x.loc

/-- Whether a test may be. -/
def okB (t : Test) : Bool := isWordB t.name && !badInitB t.inits && !t.threads.any badThreadB && okCondB t.kind t.rows

/-! ### P2 -/

def locT (n : Int) : List UInt8 := (Utf8.encode (IntKind.i32.wrap n)).data.toList
def regT (n : Int) : List UInt8 := [114] ++ Lib.itoa n
def opT (o : Opnd) : List UInt8 := if o.reg = -1 then Lib.itoa o.value else regT o.reg

/-- What an instruction's text is made of. -/
def partsI (x : Ins) : List (List UInt8) :=
  if x.kind = 1 then [[115, 116, 111, 114, 101], locT x.loc, opT x.a]
  else if x.kind = 2 then [regT x.reg, [61], [108, 111, 97, 100], locT x.loc]
  else if x.kind = 3 then [[102, 101, 110, 99, 101]]
  else if x.kind = 4 then [regT x.reg, [61], [99, 97, 115], locT x.loc, opT x.a, opT x.b]
  else if x.kind = 5 then [regT x.reg, [61], opT x.a] ++ (if 0 < x.op then [signT x.op, opT x.b] else [])
  else [[115, 107, 105, 112], Lib.itoa x.n, [105, 102], opT x.a, [61, 61], opT x.b]

/-- An instruction's numbers are numbers of 64 bits. -/
def I64i (x : Ins) : Prop := I64 x.reg ∧ I64 x.a.reg ∧ I64 x.a.value ∧ I64 x.b.reg ∧ I64 x.b.value ∧ I64 x.n

def I64a (a : Atom) : Prop := I64 a.thread ∧ I64 a.reg ∧ I64 a.value
/-! ### S1 -/

/-! ### S2 -/

/-! ### Q1 -/

/-! ### Q2 -/

end Go.Proofs.YtpfbljkfbjjlkaaDoor

/- Signs of numbers. -/
namespace Go.Proofs.YtpfbljkfbjjlkaaDoor
open Go Go.Jq
set_option maxRecDepth 100000
set_option linter.unusedSimpArgs false

theorem signs_pure : Pure Tryd.prog 114 [] (.agg (signsT.map fun s => .d (.str s))) := by
  refine acalls_of Tryd.func114 ac114_ok Tryd.ntmps114 Tryd.results114 rfl ?_
  unfold ac114
  refine bwp_seq fun K hK => bwp_region rfl ?_
  simp -implicitDefEqProofs only [go_sem, ↓reduceIte, Nat.reduceEqDiff, Nat.reduceAdd, Nat.reduceLeDiff, Nat.reduceMul, Nat.reduceSub, Int.reduceLE, Int.reduceLT, Int.reduceEq, Int.reduceToNat, Int.reducePow, Int.reduceNeg]
  refine hK _ ?_; clear hK
  refine bwp_seq fun K hK => bwp_region rfl ?_
  simp -implicitDefEqProofs only [go_sem, ↓reduceIte, Nat.reduceEqDiff, Nat.reduceAdd, Nat.reduceLeDiff, Nat.reduceMul, Nat.reduceSub, Int.reduceLE, Int.reduceLT, Int.reduceEq, Int.reduceToNat, Int.reducePow, Int.reduceNeg]
  refine hK _ ?_; clear hK
  refine bwp_ret ?_
  simp only [go_sem]
  refine aend_mem (.agg (signsT.map fun s => .d (.str s))) [] [] ?_ rfl rfl trivial ⟨rfl, rfl⟩
  rfl

end Go.Proofs.YtpfbljkfbjjlkaaDoor

/- Signs to ops. -/
namespace Go.Proofs.YtpfbljkfbjjlkaaDoor
open Go Go.Jq
set_option maxRecDepth 100000
set_option linter.unusedSimpArgs false

def opFrom (s : List UInt8) (i : Nat) : Nat → Int × Bool
  | 0 => (0, false)
  | f + 1 => if 0 < i ∧ signsT.getD i [] = s then (i, true) else opFrom s (i + 1) f

/-- Which op a sign tells. -/
def opW (s : List UInt8) : Int × Bool := opFrom s 0 12

theorem opFrom_hit {s : List UInt8} {i f : Nat} (h : 0 < i) (h2 : signsT.getD i [] = s) (hf : 0 < f) : opFrom s i f = ((i : Int), true) := by
  cases f with
  | zero => omega
  | succ f => rw [opFrom, if_pos ⟨h, h2⟩]

theorem opFrom_miss {s : List UInt8} {i f : Nat} (h : ¬ (0 < i ∧ signsT.getD i [] = s)) (hf : 0 < f) : opFrom s i f = opFrom s (i + 1) (f - 1) := by
  cases f with
  | zero => omega
  | succ f => rw [opFrom, if_neg h]; rfl

def sgAV : List AV := signsT.map fun s => .d (.str s)

theorem sg_at {i : Nat} (hi : i < 12) : sgAV[i]? = some (.d (.str (signsT.getD i []))) := by
  have key : ∀ q : Fin 12, sgAV[q.1]? = some (.d (.str (signsT.getD q.1 []))) := by
    intro q
    match q with
    | ⟨0, _⟩ => rfl | ⟨1, _⟩ => rfl | ⟨2, _⟩ => rfl | ⟨3, _⟩ => rfl | ⟨4, _⟩ => rfl | ⟨5, _⟩ => rfl | ⟨6, _⟩ => rfl | ⟨7, _⟩ => rfl | ⟨8, _⟩ => rfl | ⟨9, _⟩ => rfl | ⟨10, _⟩ => rfl | ⟨11, _⟩ => rfl
  exact key ⟨i, hi⟩

def opS (s : List UInt8) (i : Nat) : St := ⟨[(7, .d (.int .i64 i)), (6, .agg sgAV), (0, .d (.str s))], [], 0⟩

set_option maxHeartbeats 4000000 in
theorem op_pure (s : List UInt8) : Pure Tryd.prog 104 [.d (.str s)] (.tup [.d (.int .i64 (opW s).1), .d (.bool (opW s).2)]) := by
  refine acalls_of Tryd.func104 ac104_ok Tryd.ntmps104 Tryd.results104 rfl ?_
  unfold ac104
  refine bwp_seq fun K hK => bwp_region rfl ?_
  simp -implicitDefEqProofs only [go_sem, ↓reduceIte, Nat.reduceEqDiff, Nat.reduceAdd, Nat.reduceLeDiff, Nat.reduceMul, Nat.reduceSub, Int.reduceLE, Int.reduceLT, Int.reduceEq, Int.reduceToNat, Int.reducePow, Int.reduceNeg]
  refine hK _ ?_; clear hK
  refine bwp_seq fun K0 hK0 => ?_
  refine bwp_seq fun K hK => bwp_region rfl ?_
  simp -implicitDefEqProofs only [go_sem, ↓reduceIte, Nat.reduceEqDiff, Nat.reduceAdd, Nat.reduceLeDiff, Nat.reduceMul, Nat.reduceSub, Int.reduceLE, Int.reduceLT, Int.reduceEq, Int.reduceToNat, Int.reducePow, Int.reduceNeg]
  refine callK_pure signs_pure rfl rfl ?_
  simp -implicitDefEqProofs only [go_sem, ↓reduceIte, Nat.reduceEqDiff, Nat.reduceAdd, Nat.reduceLeDiff, Nat.reduceMul, Nat.reduceSub, Int.reduceLE, Int.reduceLT, Int.reduceEq, Int.reduceToNat, Int.reducePow, Int.reduceNeg]
  refine hK _ ?_; clear hK
  refine bwp_block ?_
  have hren : renL (fun _ => none) (signsT.map fun s => AV.d (DV.str s)) = signsT.map fun s => AV.d (DV.str s) := rfl
  refine bwp_leads (S' := opS s 0) (Leads.ent [] ⟨by simp [entT, fget, AV.ren, renL, pget, opS, sgAV, hren], by simp [entM, pinv, mget, mset, renL, AV.ren, pget, renL_append, -List.map_map, opS, sgAV, hren], rfl, rfl⟩) ?_
  refine bwp_countI (fun i => opS s i) (fun i => i ≤ 12 ∧ opW s = opFrom s i (12 - i)) 12 ⟨by omega, rfl⟩ ?_
  rintro i hi ⟨_, hp⟩
  have hrA : renL (fun _ => none) sgAV = sgAV := rfl
  unfold ac104L0 opS
  by_cases hlt : i < 12
  · have hlt' : (i : Int) < 12 := by omega
    have hcell := sg_at hlt
    have hi0 : (0 : Int) ≤ (i : Int) := Int.natCast_nonneg _
    have hw : IntKind.i64.wrap ((i : Int) + 1) = ((i + 1 : Nat) : Int) := by rw [wrap_id (by unfold I64; omega)]; rfl
    have hlen : sgAV.length = 12 := rfl
    have hmiss : ¬ (0 < i ∧ signsT.getD i [] = s) → opW s = opFrom s (i + 1) (12 - (i + 1)) := fun h => by
      rw [hp, opFrom_miss h (by omega)]; congr 1
    refine bwp_seq fun K hK => bwp_region rfl ?_
    simp -implicitDefEqProofs only [go_sem, ↓reduceIte, Nat.reduceEqDiff, Nat.reduceAdd, Nat.reduceLeDiff, Nat.reduceMul, Nat.reduceSub, Int.reduceLE, Int.reduceLT, Int.reduceEq, Int.reduceToNat, Int.reducePow, Int.reduceNeg, hlt']
    refine hK _ ?_; clear hK
    refine bwp_seq fun K1 hK1 => ?_
    refine bwp_cond true (by simp [ev, fget]) (fun _ => ?_) (fun h => nomatch h)
    refine bwp_skip ?_
    refine hK1 _ ?_; clear hK1
    refine bwp_seq fun K1 hK1 => ?_
    refine bwp_block ?_
    refine bwp_seq fun K hK => bwp_region rfl ?_
    simp -implicitDefEqProofs only [go_sem, ↓reduceIte, Nat.reduceEqDiff, Nat.reduceAdd, Nat.reduceLeDiff, Nat.reduceMul, Nat.reduceSub, Int.reduceLE, Int.reduceLT, Int.reduceEq, Int.reduceToNat, Int.reducePow, Int.reduceNeg, hi0, hlt', hlt, Int.toNat_natCast, List.getElem?_drop, Nat.mul_one, Nat.add_zero, hcell, hlen]
    refine hK _ ?_; clear hK
    by_cases h0 : i = 0
    · have hn0 : ¬ (0 : Int) < (i : Int) := by omega
      refine bwp_seq fun K hK => bwp_region rfl ?_
      simp -implicitDefEqProofs only [go_sem, ↓reduceIte, Nat.reduceEqDiff, Nat.reduceAdd, Nat.reduceLeDiff, Nat.reduceMul, Nat.reduceSub, Int.reduceLE, Int.reduceLT, Int.reduceEq, Int.reduceToNat, Int.reducePow, Int.reduceNeg, hn0]
      refine hK _ ?_; clear hK
      refine bwp_cond false (by simp [ev, fget]) (fun h => nomatch h) (fun _ => ?_)
      refine bwp_skip ?_
      refine hK1 _ ?_; clear hK1
      refine bwp_region rfl ?_
      simp -implicitDefEqProofs only [go_sem, ↓reduceIte, Nat.reduceEqDiff, Nat.reduceAdd, Nat.reduceLeDiff, Nat.reduceMul, Nat.reduceSub, Int.reduceLE, Int.reduceLT, Int.reduceEq, Int.reduceToNat, Int.reducePow, Int.reduceNeg, hw]
      refine ⟨by omega, ⟨by omega, hmiss (by omega)⟩, Leads.ent [] ⟨by simp [opS, entT, fget, AV.ren, pget, hrA], by simp [opS, entM], rfl, rfl⟩⟩
    · have h1 : (0 : Int) < (i : Int) := by omega
      by_cases h2 : signsT.getD i [] = s
      · refine bwp_seq fun K hK => bwp_region rfl ?_
        simp -implicitDefEqProofs only [go_sem, ↓reduceIte, Nat.reduceEqDiff, Nat.reduceAdd, Nat.reduceLeDiff, Nat.reduceMul, Nat.reduceSub, Int.reduceLE, Int.reduceLT, Int.reduceEq, Int.reduceToNat, Int.reducePow, Int.reduceNeg, h1, h2]
        refine hK _ ?_; clear hK
        refine bwp_cond true (by simp [ev, fget]) (fun _ => ?_) (fun h => nomatch h)
        refine bwp_seq fun K hK => bwp_region rfl ?_
        simp -implicitDefEqProofs only [go_sem, ↓reduceIte, Nat.reduceEqDiff, Nat.reduceAdd, Nat.reduceLeDiff, Nat.reduceMul, Nat.reduceSub, Int.reduceLE, Int.reduceLT, Int.reduceEq, Int.reduceToNat, Int.reducePow, Int.reduceNeg]
        refine hK _ ?_; clear hK
        refine bwp_ret ?_
        simp only [go_sem]
        refine aend_ret _ rfl rfl ⟨?_, rfl⟩
        have := opFrom_hit (s := s) (i := i) (f := 12 - i) (by omega) h2 (by omega)
        simp [fget, hp, this]
      · refine bwp_seq fun K hK => bwp_region rfl ?_
        simp -implicitDefEqProofs only [go_sem, ↓reduceIte, Nat.reduceEqDiff, Nat.reduceAdd, Nat.reduceLeDiff, Nat.reduceMul, Nat.reduceSub, Int.reduceLE, Int.reduceLT, Int.reduceEq, Int.reduceToNat, Int.reducePow, Int.reduceNeg, h1, h2]
        refine hK _ ?_; clear hK
        refine bwp_cond false (by simp [ev, fget]) (fun h => nomatch h) (fun _ => ?_)
        refine bwp_skip ?_
        refine hK1 _ ?_; clear hK1
        refine bwp_region rfl ?_
        simp -implicitDefEqProofs only [go_sem, ↓reduceIte, Nat.reduceEqDiff, Nat.reduceAdd, Nat.reduceLeDiff, Nat.reduceMul, Nat.reduceSub, Int.reduceLE, Int.reduceLT, Int.reduceEq, Int.reduceToNat, Int.reducePow, Int.reduceNeg, hw]
        refine ⟨by omega, ⟨by omega, hmiss (fun h => h2 h.2)⟩, Leads.ent [] ⟨by simp [opS, entT, fget, AV.ren, pget, hrA], by simp [opS, entM], rfl, rfl⟩⟩
  · have hlt' : ¬ (i : Int) < 12 := by omega
    have hin : i = 12 := by omega
    subst hin
    refine bwp_seq fun K hK => bwp_region rfl ?_
    simp -implicitDefEqProofs only [go_sem, ↓reduceIte, Nat.reduceEqDiff, Nat.reduceAdd, Nat.reduceLeDiff, Nat.reduceMul, Nat.reduceSub, Int.reduceLE, Int.reduceLT, Int.reduceEq, Int.reduceToNat, Int.reducePow, Int.reduceNeg, hlt']
    refine hK _ ?_; clear hK
    refine bwp_seq fun K1 hK1 => ?_
    refine bwp_cond false (by simp [ev, fget]) (fun h => nomatch h) (fun _ => ?_)
    refine bwp_exit ?_
    simp -implicitDefEqProofs only [go_sem, ↓reduceIte, Nat.reduceEqDiff, Nat.reduceAdd, Nat.reduceLeDiff, Nat.reduceMul, Nat.reduceSub, Int.reduceLE, Int.reduceLT, Int.reduceEq, Int.reduceToNat, Int.reducePow, Int.reduceNeg]
    refine hK0 _ ?_; clear hK0
    refine bwp_seq fun K hK => bwp_region rfl ?_
    simp -implicitDefEqProofs only [go_sem, ↓reduceIte, Nat.reduceEqDiff, Nat.reduceAdd, Nat.reduceLeDiff, Nat.reduceMul, Nat.reduceSub, Int.reduceLE, Int.reduceLT, Int.reduceEq, Int.reduceToNat, Int.reducePow, Int.reduceNeg]
    refine hK _ ?_; clear hK
    refine bwp_ret ?_
    simp only [go_sem]
    refine aend_ret _ rfl rfl ⟨?_, rfl⟩
    simp [fget, hp, opFrom]

end Go.Proofs.YtpfbljkfbjjlkaaDoor

/- A parser as a tree: what is looked at, what is eaten, what is refused; a test's tree. -/
namespace Go.Proofs.YtpfbljkfbjjlkaaDoor
open Go Go.Jq
set_option maxRecDepth 100000
set_option linter.unusedSimpArgs false

/-- An error: its code, its place. -/
abbrev PE := Int × Nat
abbrev PR (α : Type) := Except PE α

def curT (s : List UInt8) (a : Nat) : Tok := (nextW s a).1
/-- A place whose token can be looked at. -/
def goW (s : List UInt8) (a : Nat) : PR Nat := if (nextW s a).2.2 = 0 then .ok a else .error ((nextW s a).2.2, skipA s a)
/-- Behind the token. -/
def eatW (s : List UInt8) (a : Nat) : PR Nat := goW s (nextW s a).2.1

inductive PT (α : Type) where
  | ret (x : α)
  | bad (code : Int)
  | cur (k : Int → List UInt8 → PT α)
  | eat (k : PT α)

namespace PT
variable {α β : Type}

def bind : PT α → (α → PT β) → PT β
  | .ret x, f => f x
  | .bad c, _ => .bad c
  | .cur k, f => .cur fun d x => (k d x).bind f
  | .eat k, f => .eat (k.bind f)

def run (s : List UInt8) : PT α → Nat → PR (α × Nat)
  | .ret x, a => .ok (x, a)
  | .bad c, a => .error (c, (curT s a).pl)
  | .cur k, a => (k (curT s a).kd (curT s a).tx).run s a
  | .eat k, a => match eatW s a with
    | .ok b => k.run s b
    | .error e => .error e

theorem run_bind (s : List UInt8) (t : PT α) (f : α → PT β) : ∀ a, (t.bind f).run s a = match t.run s a with
    | .ok (x, b) => (f x).run s b
    | .error e => .error e := by
  induction t with
  | ret x => intro a; rfl
  | bad c => intro a; rfl
  | cur k ih => intro a; exact ih _ _ a
  | eat k ih =>
    intro a
    simp only [bind, run]
    cases eatW s a with
    | ok b => exact ih b
    | error e => rfl
end PT

def locN (x : List UInt8) : Option Int := if x.length = 1 then some ((x.getD 0 0).toNat : Int) else none
def regN (x : List UInt8) : Option Int := if x.length = 2 ∧ x.getD 0 0 = 114 ∧ 48 ≤ (x.getD 1 0).toNat ∧ (x.getD 1 0).toNat ≤ 51 then some (((x.getD 1 0).toNat - 48 : Nat) : Int) else none

def isK (d : Int) (y : List UInt8) (x : List UInt8) : Bool := (decide (d = 3) || decide (d = 1)) && decide (y = x)

def wStore : List UInt8 := [115, 116, 111, 114, 101]
def wFence : List UInt8 := [102, 101, 110, 99, 101]
def wSkip : List UInt8 := [115, 107, 105, 112]
def wIf : List UInt8 := [105, 102]
def wLoad : List UInt8 := [108, 111, 97, 100]
def wCas : List UInt8 := [99, 97, 115]
def wTest : List UInt8 := [116, 101, 115, 116]
def wInit : List UInt8 := [105, 110, 105, 116]
def wThread : List UInt8 := [116, 104, 114, 101, 97, 100]
def wExists : List UInt8 := [101, 120, 105, 115, 116, 115]
def wForall : List UInt8 := [102, 111, 114, 97, 108, 108]

def tTake {α : Type} (x : List UInt8) (yes no : PT α) : PT α := .cur fun d y => if isK d y x = true then .eat yes else no
def tMust (x : List UInt8) : PT Unit := .cur fun d y => if isK d y x = true then .eat (.ret ()) else .bad 6
def tWord : PT (List UInt8) := .cur fun d y => if d = 1 then .eat (.ret y) else .bad 6
def tNum : PT Int := .cur fun d y => if d = 2 then .eat (.ret (parseW y).1) else .bad 6
def tNamed (f : List UInt8 → Option Int) : PT Int := .cur fun d y => if d = 1 then (match f y with
  | some n => .eat (.ret n)
  | none => .bad 7) else .bad 6
def tOpd : PT Opnd := .cur fun d _ => if d = 2 then tNum.bind fun n => .ret ⟨-1, n⟩ else (tNamed regN).bind fun n => .ret ⟨n, 0⟩

/-- What stands behind a register's sign. -/
def tRight (r : Int) : PT Ins :=
  tTake wLoad ((tNamed locN).bind fun l => .ret ⟨2, r, l, ⟨0, 0⟩, 0, ⟨0, 0⟩, 0⟩) <|
  tTake wCas ((tNamed locN).bind fun l => tOpd.bind fun x => tOpd.bind fun y => .ret ⟨4, r, l, x, 0, y, 0⟩) <|
  tOpd.bind fun x => .cur fun d y => if d = 3 ∧ (opW y).2 = true then .eat (tOpd.bind fun z => .ret ⟨5, r, 0, x, (opW y).1, z, 0⟩) else .ret ⟨5, r, 0, x, 0, ⟨-1, 0⟩, 0⟩

def tIns : PT Ins :=
  tTake wStore ((tNamed locN).bind fun l => tOpd.bind fun x => .ret ⟨1, 0, l, x, 0, ⟨0, 0⟩, 0⟩) <|
  tTake wFence (.ret ⟨3, 0, 0, ⟨0, 0⟩, 0, ⟨0, 0⟩, 0⟩) <|
  tTake wSkip (.cur fun d y => if d = 2 ∧ (parseW y).1 < 0 then .bad 6 else
    tNum.bind fun n => (tMust wIf).bind fun _ => tOpd.bind fun x => (tMust [61, 61]).bind fun _ => tOpd.bind fun y => .ret ⟨6, 0, 0, x, 0, y, n⟩) <|
  (tNamed regN).bind fun r => (tMust [61]).bind fun _ => tRight r

def tWho : PT Atom := .cur fun d y => if d = 2 then
    (if (parseW y).1 < 0 ∨ 9 < (parseW y).1 then .bad 7 else .eat ((tMust [58]).bind fun _ => (tNamed regN).bind fun r => .ret ⟨(parseW y).1, r, 0, 0⟩))
  else (tNamed locN).bind fun l => .ret ⟨-1, 0, l, 0⟩

def tAtom : PT Atom := tWho.bind fun x => (tMust [61]).bind fun _ => tNum.bind fun n => .ret { x with value := n }

def tInit : PT Init := (tNamed locN).bind fun l => (tMust [61]).bind fun _ => tNum.bind fun n => (tMust [59]).bind fun _ => .ret ⟨l, n⟩

def tInsE : PT Ins := tIns.bind fun x => (tMust [59]).bind fun _ => .ret x

/-- Things up to a closing brace. -/
def tMany {α : Type} (one : PT α) : Nat → PT (List α)
  | 0 => .bad 0
  | f + 1 => tTake [125] (.ret []) (one.bind fun x => (tMany one f).bind fun l => .ret (x :: l))

/-- How many tokens are looked at, at most. -/
def fuelP : Nat := 4001

def tThread : PT (List Ins) := (tMust [123]).bind fun _ => tMany tInsE fuelP

def tThreads : Nat → PT (List (List Ins))
  | 0 => .bad 0
  | f + 1 => tTake wThread (tThread.bind fun x => (tThreads f).bind fun l => .ret (x :: l)) (.ret [])

/-- Atoms behind the first one. -/
def tRow : Nat → PT (List Atom)
  | 0 => .bad 0
  | f + 1 => tTake [38] (tAtom.bind fun x => (tRow f).bind fun l => .ret (x :: l)) (.ret [])

def tRows : Nat → PT (List (List Atom))
  | 0 => .bad 0
  | f + 1 => tAtom.bind fun x => (tRow fuelP).bind fun l => tTake [124] ((tRows f).bind fun r => .ret ((x :: l) :: r)) (.ret [x :: l])

def tAsk (k : Int) : PT (Int × List (List Atom)) := (tRows fuelP).bind fun r => (tMust [59]).bind fun _ => .ret (k, r)

def tCond : PT (Int × List (List Atom)) := tTake wExists (tAsk 1) (tTake wForall (tAsk 2) (.ret (0, [])))

def tInits : PT (List Init) := (tMust [123]).bind fun _ => tMany tInit fuelP

def tTest : PT Test :=
  (tMust wTest).bind fun _ => tWord.bind fun n => (tMust [123]).bind fun _ => (tTake wInit tInits (.ret [])).bind fun i => (tThreads fuelP).bind fun t => tCond.bind fun c =>
    (tMust [125]).bind fun _ => .cur fun d _ => if d = 4 then .ret ⟨n, i, t, c.1, c.2⟩ else .bad 6

def pTest (s : List UInt8) : PR Test :=
  if 4000 < s.length then .error (2, 4000)
  else match goW s 0 with
    | .ok a => (match tTest.run s a with
      | .ok (t, _) => .ok t
      | .error e => .error e)
    | .error e => .error e

/-! ### Places -/

theorem goW_ok {s : List UInt8} {a b : Nat} (h : goW s a = .ok b) : a = b ∧ (nextW s a).2.2 = 0 := by
  unfold goW at h
  split at h
  · rename_i h0; cases h; exact ⟨rfl, h0⟩
  · cases h

theorem eatW_ok {s : List UInt8} {a b : Nat} (h : eatW s a = .ok b) : b = (nextW s a).2.1 ∧ (nextW s b).2.2 = 0 := by
  obtain ⟨h1, h2⟩ := goW_ok h
  subst h1
  exact ⟨rfl, h2⟩

theorem PT.run_le {α : Type} {s : List UInt8} (t : PT α) : ∀ {a : Nat} {x : α} {b : Nat}, a ≤ s.length → t.run s a = .ok (x, b) → a ≤ b ∧ b ≤ s.length := by
  induction t with
  | ret x => intro a y b ha h; simp only [run, Except.ok.injEq, Prod.mk.injEq] at h; obtain ⟨_, rfl⟩ := h; exact ⟨Nat.le_refl _, ha⟩
  | bad c => intro a y b ha h; cases h
  | cur k ih => intro a y b ha h; exact ih _ _ ha h
  | eat k ih =>
    intro a y b ha h
    simp only [run] at h
    split at h
    · rename_i b' hb
      obtain ⟨rfl, _⟩ := eatW_ok hb
      have h1 := nextW_to ha
      have := ih h1.2.1 h
      omega
    · cases h

end Go.Proofs.YtpfbljkfbjjlkaaDoor

/- The document's reader of tokens: over blanks and comments. -/
namespace Go.Proofs.YtpfbljkfbjjlkaaDoor
open Go Go.Jq
set_option maxRecDepth 100000
set_option linter.unusedSimpArgs false

theorem u8eq {c k : UInt8} (h : (c.toNat : Int) = (k.toNat : Int)) : c = k := UInt8.toNat_inj.1 (by exact_mod_cast h)
theorem u8ne {c k : UInt8} (h : ¬ (c.toNat : Int) = (k.toNat : Int)) : c ≠ k := fun e => h (by rw [e])

theorem drop_at {s : List UInt8} {p : Nat} (h : p < s.length) : s.drop p = s.getD p 0 :: s.drop (p + 1) := by
  rw [List.drop_eq_getElem_cons h, List.getD_eq_getElem?_getD, List.getElem?_eq_getElem h, Option.getD_some]

theorem skip_same (r : List UInt8) : skipN true (10 :: r) = skipN false (10 :: r) := rfl
theorem skip_note {c : UInt8} (h : c ≠ 10) (r : List UInt8) : skipN true (c :: r) = 1 + skipN true r := by
  have : (c != 10) = true := by simpa using h
  simp only [skipN]
  rw [this]

end Go.Proofs.YtpfbljkfbjjlkaaDoor

/- The lexer's bytes: kinds, has, peek, run. -/
namespace Go.Proofs.YtpfbljkfbjjlkaaDoor
open Go Go.Jq
set_option maxRecDepth 100000
set_option linter.unusedSimpArgs false

/-! ### A method with one own block -/

theorem callMem_one {j n : Nat} {m : Mem} {cs c' : List AV} (h : inL (fun _ => none) c' = true) : callMem [(0, j)] [(0, cs)] [(0, c')] n m = mset m j c' := by
  simp [callMem, updNew, updOld, mget, renL_noId _ h]

theorem meth_callK {P : Program} {f : Nat} {rest cells : List AV} {Q : AV → List AV → Prop} (h : ACalls P f (.ptr 0 0 :: rest) [(0, cells)] fun r m' => ∃ c', m' = [(0, c')] ∧ Q r c')
    (hr : inL (fun _ => none) rest = true) (hc : inL (fun _ => none) cells = true) (hQ : ∀ r c', Q r c' → inB (fun _ => none) r = true ∧ inL (fun _ => none) c' = true)
    {j : Nat} {dst : Option Nat} {r : List AOper} {K : St → Prop} {t : Fr} {m : Mem} {n : Nat} (hm : mget m j = some cells)
    (hk : ∀ v c', Q v c' → runOps P r ⟨putF t dst v, mset m j c', n + 1⟩ K) : callK P f (.ptr j 0 :: rest) dst r K t m n := by
  refine callK_gen [(0, j)] (.ptr 0 0 :: rest) [(0, cells)] (nb := j + 1) h (by simp [okRen]) (by simp [renL, AV.ren, pget, renL_noId _ hr]) (by simp only [inL, inB, pget]; simp; exact inL_mono (fun _ h => by cases h) _ hr) ⟨by simp [pget, hm, renL_noId _ hc]; exact inL_mono (fun _ h => by cases h) _ hc, trivial⟩ (by simp [mget]) ?_
  rintro r0 m' ⟨c', rfl, hq⟩
  obtain ⟨h1, h2⟩ := hQ _ _ hq
  rw [callMem_one h2, ren_noId _ h1]
  exact hk _ _ hq

def lexC (s : List UInt8) (a rd : Nat) (code eat : Int) : List AV := [.d (.str s), .d (.int .i64 a), .d (.int .i64 rd), .d (.int .i64 code), .d (.int .i64 eat)]
theorem lexC_in (s : List UInt8) (a rd : Nat) (code eat : Int) : inL (fun _ => none) (lexC s a rd code eat) = true := rfl

/-- How far it has looked, behind a look at k. -/
def rdW (s : List UInt8) (rd k : Nat) : Nat := if k < s.length then max rd (k + 1) else rd

theorem has_calls (s : List UInt8) (a rd : Nat) (code eat : Int) (k : Nat) : ACalls Tryd.prog 33 [.ptr 0 0, .d (.int .i64 k)] [(0, lexC s a rd code eat)] fun r m' => r = .d (.bool (decide (k < s.length))) ∧ m' = [(0, lexC s a rd code eat)] := by
  refine acalls_of Tryd.func33 ac33_ok Tryd.ntmps33 Tryd.results33 rfl ?_
  unfold ac33
  refine bwp_seq fun K hK => bwp_region rfl ?_
  simp -implicitDefEqProofs only [go_sem, ↓reduceIte, Nat.reduceEqDiff, Nat.reduceAdd, Nat.reduceLeDiff, Nat.reduceMul, Nat.reduceSub, Int.reduceLE, Int.reduceLT, Int.reduceEq, Int.reduceToNat, Int.reducePow, Int.reduceNeg]
  refine hK _ ?_; clear hK
  refine bwp_seq fun K hK => bwp_region rfl ?_
  simp -implicitDefEqProofs only [go_sem, ↓reduceIte, Nat.reduceEqDiff, Nat.reduceAdd, Nat.reduceLeDiff, Nat.reduceMul, Nat.reduceSub, Int.reduceLE, Int.reduceLT, Int.reduceEq, Int.reduceToNat, Int.reducePow, Int.reduceNeg, lexC]
  refine hK _ ?_; clear hK
  have e : (decide ((k : Int) < (s.length : Int))) = decide (k < s.length) := by rw [decide_eq_decide]; omega
  refine bwp_ret ?_
  simp only [go_sem]
  refine aend_mem (.d (.bool (decide (k < s.length)))) [(0, 0)] [(0, lexC s a rd code eat)] ?_ rfl rfl ?_ ⟨rfl, rfl⟩
  · simp [resA, resVs, resV, fget]
  · simp [entM, pinv, mget, renL, AV.ren, lexC]

theorem peek_calls {s : List UInt8} (hs : s.length ≤ 140737488351232) (a rd : Nat) (code eat : Int) (k : Nat) : ACalls Tryd.prog 34 [.ptr 0 0, .d (.int .i64 k)] [(0, lexC s a rd code eat)] fun r m' => r = .d (.int .u8 (s.getD k 0).toNat) ∧ m' = [(0, lexC s a (rdW s rd k) code eat)] := by
  refine acalls_of Tryd.func34 ac34_ok Tryd.ntmps34 Tryd.results34 rfl ?_
  unfold ac34
  refine bwp_seq fun K hK => bwp_region rfl ?_
  simp -implicitDefEqProofs only [go_sem, ↓reduceIte, Nat.reduceEqDiff, Nat.reduceAdd, Nat.reduceLeDiff, Nat.reduceMul, Nat.reduceSub, Int.reduceLE, Int.reduceLT, Int.reduceEq, Int.reduceToNat, Int.reducePow, Int.reduceNeg]
  refine hK _ ?_; clear hK
  refine bwp_seq fun K1 hK1 => ?_
  have hi0 : (0 : Int) ≤ (k : Int) := Int.natCast_nonneg _
  by_cases h : k < s.length
  · have h1 : ¬ (s.length : Int) ≤ (k : Int) := by omega
    have h2 : (k : Int) < s.length := by omega
    have hw : IntKind.i64.wrap ((k : Int) + 1) = ((k + 1 : Nat) : Int) := by rw [wrap_i64 (by omega) (by omega)]; rfl
    have hmx : (if (rd : Int) < ((k + 1 : Nat) : Int) then ((k + 1 : Nat) : Int) else (rd : Int)) = ((max rd (k + 1) : Nat) : Int) := by split <;> omega
    refine bwp_seq fun K hK => bwp_region rfl ?_
    simp -implicitDefEqProofs only [go_sem, ↓reduceIte, Nat.reduceEqDiff, Nat.reduceAdd, Nat.reduceLeDiff, Nat.reduceMul, Nat.reduceSub, Int.reduceLE, Int.reduceLT, Int.reduceEq, Int.reduceToNat, Int.reducePow, Int.reduceNeg, lexC, h1]
    refine hK _ ?_; clear hK
    refine bwp_cond false (by simp [ev, fget]) (fun h => nomatch h) (fun _ => ?_)
    refine bwp_skip ?_
    refine hK1 _ ?_; clear hK1
    refine bwp_seq fun K hK => bwp_region rfl ?_
    simp -implicitDefEqProofs only [go_sem, ↓reduceIte, Nat.reduceEqDiff, Nat.reduceAdd, Nat.reduceLeDiff, Nat.reduceMul, Nat.reduceSub, Int.reduceLE, Int.reduceLT, Int.reduceEq, Int.reduceToNat, Int.reducePow, Int.reduceNeg, hw, hmx]
    refine hK _ ?_; clear hK
    refine bwp_seq fun K hK => bwp_region rfl ?_
    simp -implicitDefEqProofs only [go_sem, ↓reduceIte, Nat.reduceEqDiff, Nat.reduceAdd, Nat.reduceLeDiff, Nat.reduceMul, Nat.reduceSub, Int.reduceLE, Int.reduceLT, Int.reduceEq, Int.reduceToNat, Int.reducePow, Int.reduceNeg, hi0, h2, Int.toNat_natCast]
    refine hK _ ?_; clear hK
    refine bwp_ret ?_
    simp only [go_sem]
    refine aend_mem (.d (.int .u8 (s.getD k 0).toNat)) [(0, 0)] [(0, lexC s a (rdW s rd k) code eat)] ?_ rfl rfl ?_ ⟨rfl, rfl⟩
    · simp [resA, resVs, resV, fget]
    · simp [entM, pinv, mget, mset, renL, AV.ren, lexC, rdW, h, Nat.max_def]
  · have h1 : (s.length : Int) ≤ (k : Int) := by omega
    have hz : s[k]?.getD 0 = 0 := by rw [List.getElem?_eq_none (by omega)]; rfl
    refine bwp_seq fun K hK => bwp_region rfl ?_
    simp -implicitDefEqProofs only [go_sem, ↓reduceIte, Nat.reduceEqDiff, Nat.reduceAdd, Nat.reduceLeDiff, Nat.reduceMul, Nat.reduceSub, Int.reduceLE, Int.reduceLT, Int.reduceEq, Int.reduceToNat, Int.reducePow, Int.reduceNeg, lexC, h1]
    refine hK _ ?_; clear hK
    refine bwp_cond true (by simp [ev, fget]) (fun _ => ?_) (fun h => nomatch h)
    refine bwp_seq fun K hK => bwp_region rfl ?_
    simp -implicitDefEqProofs only [go_sem, ↓reduceIte, Nat.reduceEqDiff, Nat.reduceAdd, Nat.reduceLeDiff, Nat.reduceMul, Nat.reduceSub, Int.reduceLE, Int.reduceLT, Int.reduceEq, Int.reduceToNat, Int.reducePow, Int.reduceNeg]
    refine hK _ ?_; clear hK
    refine bwp_ret ?_
    simp only [go_sem]
    refine aend_mem (.d (.int .u8 (s.getD k 0).toNat)) [(0, 0)] [(0, lexC s a (rdW s rd k) code eat)] ?_ rfl rfl ?_ ⟨rfl, rfl⟩
    · simp [resA, resVs, resV, fget, hz]
    · simp [entM, pinv, mget, mset, renL, AV.ren, lexC, rdW, h]

theorem has_callK (s : List UInt8) (a rd : Nat) (code eat : Int) (k : Nat) {j : Nat} {dst : Option Nat} {r : List AOper} {K : St → Prop} {t : Fr} {m : Mem} {n : Nat} (hm : mget m j = some (lexC s a rd code eat))
    (hk : runOps Tryd.prog r ⟨putF t dst (.d (.bool (decide (k < s.length)))), mset m j (lexC s a rd code eat), n + 1⟩ K) : callK Tryd.prog 33 [.ptr j 0, .d (.int .i64 k)] dst r K t m n := by
  refine meth_callK (rest := [.d (.int .i64 k)]) (Q := fun r c' => r = .d (.bool (decide (k < s.length))) ∧ c' = lexC s a rd code eat) ((has_calls s a rd code eat k).mono fun r m' h => ⟨_, h.2, h.1, rfl⟩) rfl rfl ?_ hm ?_
  · rintro _ _ ⟨rfl, rfl⟩; exact ⟨rfl, rfl⟩
  · rintro _ _ ⟨rfl, rfl⟩; exact hk

theorem peek_callK {s : List UInt8} (hs : s.length ≤ 140737488351232) (a rd : Nat) (code eat : Int) (k : Nat) {j : Nat} {dst : Option Nat} {r : List AOper} {K : St → Prop} {t : Fr} {m : Mem} {n : Nat} (hm : mget m j = some (lexC s a rd code eat))
    (hk : runOps Tryd.prog r ⟨putF t dst (.d (.int .u8 (s.getD k 0).toNat)), mset m j (lexC s a (rdW s rd k) code eat), n + 1⟩ K) : callK Tryd.prog 34 [.ptr j 0, .d (.int .i64 k)] dst r K t m n := by
  refine meth_callK (rest := [.d (.int .i64 k)]) (Q := fun r c' => r = .d (.int .u8 (s.getD k 0).toNat) ∧ c' = lexC s a (rdW s rd k) code eat) ((peek_calls hs a rd code eat k).mono fun r m' h => ⟨_, h.2, h.1, rfl⟩) rfl rfl ?_ hm ?_
  · rintro _ _ ⟨rfl, rfl⟩; exact ⟨rfl, rfl⟩
  · rintro _ _ ⟨rfl, rfl⟩; exact hk

/-! ### Kinds -/

def kindW (c : UInt8) : Int := if blankB c = true then 1 else if letB c = true then 2 else if digB c = true then 3 else 0

set_option maxHeartbeats 4000000 in
theorem kind_pure (c : UInt8) : Pure Tryd.prog 35 [.d (.int .u8 c.toNat)] (.d (.int .i64 (kindW c))) := by
  refine acalls_of Tryd.func35 ac35_ok Tryd.ntmps35 Tryd.results35 rfl ?_
  unfold ac35
  refine bwp_seq fun K hK => bwp_region rfl ?_
  simp -implicitDefEqProofs only [go_sem, ↓reduceIte, Nat.reduceEqDiff, Nat.reduceAdd, Nat.reduceLeDiff, Nat.reduceMul, Nat.reduceSub, Int.reduceLE, Int.reduceLT, Int.reduceEq, Int.reduceToNat, Int.reducePow, Int.reduceNeg]
  refine hK _ ?_; clear hK
  refine bwp_seq fun K1 hK1 => ?_
  refine bwp_block ?_
  have hb : ∀ {k : UInt8}, (c.toNat : Int) = k.toNat → blankB k = true → kindW c = 1 := fun h h1 => by rw [u8eq h]; unfold kindW; rw [if_pos h1]
  by_cases h32 : (c.toNat : Int) = 32
  · refine bwp_seq fun K hK => bwp_region rfl ?_
    simp -implicitDefEqProofs only [go_sem, ↓reduceIte, Nat.reduceEqDiff, Nat.reduceAdd, Nat.reduceLeDiff, Nat.reduceMul, Nat.reduceSub, Int.reduceLE, Int.reduceLT, Int.reduceEq, Int.reduceToNat, Int.reducePow, Int.reduceNeg, h32]
    refine hK _ ?_; clear hK
    refine bwp_cond true (by simp [ev, fget]) (fun _ => ?_) (fun h => nomatch h)
    refine bwp_seq fun K hK => bwp_region rfl ?_
    simp -implicitDefEqProofs only [go_sem, ↓reduceIte, Nat.reduceEqDiff, Nat.reduceAdd, Nat.reduceLeDiff, Nat.reduceMul, Nat.reduceSub, Int.reduceLE, Int.reduceLT, Int.reduceEq, Int.reduceToNat, Int.reducePow, Int.reduceNeg]
    refine hK _ ?_; clear hK
    refine bwp_ret ?_
    simp only [go_sem]
    refine aend_ret _ rfl rfl ⟨?_, rfl⟩
    simp [fget, hb (k := 32) h32 rfl]
  by_cases h9 : (c.toNat : Int) = 9
  · refine bwp_seq fun K hK => bwp_region rfl ?_
    simp -implicitDefEqProofs only [go_sem, ↓reduceIte, Nat.reduceEqDiff, Nat.reduceAdd, Nat.reduceLeDiff, Nat.reduceMul, Nat.reduceSub, Int.reduceLE, Int.reduceLT, Int.reduceEq, Int.reduceToNat, Int.reducePow, Int.reduceNeg, h32, h9]
    refine hK _ ?_; clear hK
    refine bwp_cond true (by simp [ev, fget]) (fun _ => ?_) (fun h => nomatch h)
    refine bwp_seq fun K hK => bwp_region rfl ?_
    simp -implicitDefEqProofs only [go_sem, ↓reduceIte, Nat.reduceEqDiff, Nat.reduceAdd, Nat.reduceLeDiff, Nat.reduceMul, Nat.reduceSub, Int.reduceLE, Int.reduceLT, Int.reduceEq, Int.reduceToNat, Int.reducePow, Int.reduceNeg]
    refine hK _ ?_; clear hK
    refine bwp_ret ?_
    simp only [go_sem]
    refine aend_ret _ rfl rfl ⟨?_, rfl⟩
    simp [fget, hb (k := 9) h9 rfl]
  by_cases h10 : (c.toNat : Int) = 10
  · refine bwp_seq fun K hK => bwp_region rfl ?_
    simp -implicitDefEqProofs only [go_sem, ↓reduceIte, Nat.reduceEqDiff, Nat.reduceAdd, Nat.reduceLeDiff, Nat.reduceMul, Nat.reduceSub, Int.reduceLE, Int.reduceLT, Int.reduceEq, Int.reduceToNat, Int.reducePow, Int.reduceNeg, h32, h9, h10]
    refine hK _ ?_; clear hK
    refine bwp_cond true (by simp [ev, fget]) (fun _ => ?_) (fun h => nomatch h)
    refine bwp_seq fun K hK => bwp_region rfl ?_
    simp -implicitDefEqProofs only [go_sem, ↓reduceIte, Nat.reduceEqDiff, Nat.reduceAdd, Nat.reduceLeDiff, Nat.reduceMul, Nat.reduceSub, Int.reduceLE, Int.reduceLT, Int.reduceEq, Int.reduceToNat, Int.reducePow, Int.reduceNeg]
    refine hK _ ?_; clear hK
    refine bwp_ret ?_
    simp only [go_sem]
    refine aend_ret _ rfl rfl ⟨?_, rfl⟩
    simp [fget, hb (k := 10) h10 rfl]
  have hbl : blankB c = false := by
    simp only [blankB, Bool.or_eq_false_iff, beq_eq_false_iff_ne]
    exact ⟨⟨u8ne (k := 32) h32, u8ne (k := 9) h9⟩, u8ne (k := 10) h10⟩
  refine bwp_seq fun K hK => bwp_region rfl ?_
  simp -implicitDefEqProofs only [go_sem, ↓reduceIte, Nat.reduceEqDiff, Nat.reduceAdd, Nat.reduceLeDiff, Nat.reduceMul, Nat.reduceSub, Int.reduceLE, Int.reduceLT, Int.reduceEq, Int.reduceToNat, Int.reducePow, Int.reduceNeg, h32, h9, h10]
  refine hK _ ?_; clear hK
  refine bwp_cond false (by simp [ev, fget]) (fun h => nomatch h) (fun _ => ?_)
  by_cases h97 : (97 : Int) ≤ c.toNat
  · by_cases h122 : (c.toNat : Int) ≤ 122
    · refine bwp_seq fun K hK => bwp_region rfl ?_
      simp -implicitDefEqProofs only [go_sem, ↓reduceIte, Nat.reduceEqDiff, Nat.reduceAdd, Nat.reduceLeDiff, Nat.reduceMul, Nat.reduceSub, Int.reduceLE, Int.reduceLT, Int.reduceEq, Int.reduceToNat, Int.reducePow, Int.reduceNeg, h97, h122]
      refine hK _ ?_; clear hK
      refine bwp_cond true (by simp [ev, fget]) (fun _ => ?_) (fun h => nomatch h)
      refine bwp_seq fun K hK => bwp_region rfl ?_
      simp -implicitDefEqProofs only [go_sem, ↓reduceIte, Nat.reduceEqDiff, Nat.reduceAdd, Nat.reduceLeDiff, Nat.reduceMul, Nat.reduceSub, Int.reduceLE, Int.reduceLT, Int.reduceEq, Int.reduceToNat, Int.reducePow, Int.reduceNeg]
      refine hK _ ?_; clear hK
      refine bwp_ret ?_
      simp only [go_sem]
      refine aend_ret _ rfl rfl ⟨?_, rfl⟩
      have e1 : 97 ≤ c.toNat := by omega
      have e2 : c.toNat ≤ 122 := by omega
      simp [fget, kindW, hbl, letB, e1, e2]
    · have e2 : ¬ c.toNat ≤ 122 := by omega
      have h48 : (48 : Int) ≤ c.toNat := by omega
      have h57 : ¬ (c.toNat : Int) ≤ 57 := by omega
      have e3 : ¬ c.toNat ≤ 57 := by omega
      refine bwp_seq fun K hK => bwp_region rfl ?_
      simp -implicitDefEqProofs only [go_sem, ↓reduceIte, Nat.reduceEqDiff, Nat.reduceAdd, Nat.reduceLeDiff, Nat.reduceMul, Nat.reduceSub, Int.reduceLE, Int.reduceLT, Int.reduceEq, Int.reduceToNat, Int.reducePow, Int.reduceNeg, h97, h122]
      refine hK _ ?_; clear hK
      refine bwp_cond false (by simp [ev, fget]) (fun h => nomatch h) (fun _ => ?_)
      refine bwp_seq fun K hK => bwp_region rfl ?_
      simp -implicitDefEqProofs only [go_sem, ↓reduceIte, Nat.reduceEqDiff, Nat.reduceAdd, Nat.reduceLeDiff, Nat.reduceMul, Nat.reduceSub, Int.reduceLE, Int.reduceLT, Int.reduceEq, Int.reduceToNat, Int.reducePow, Int.reduceNeg, h48, h57]
      refine hK _ ?_; clear hK
      refine bwp_cond false (by simp [ev, fget]) (fun h => nomatch h) (fun _ => ?_)
      refine bwp_skip ?_
      refine hK1 _ ?_; clear hK1
      refine bwp_seq fun K hK => bwp_region rfl ?_
      simp -implicitDefEqProofs only [go_sem, ↓reduceIte, Nat.reduceEqDiff, Nat.reduceAdd, Nat.reduceLeDiff, Nat.reduceMul, Nat.reduceSub, Int.reduceLE, Int.reduceLT, Int.reduceEq, Int.reduceToNat, Int.reducePow, Int.reduceNeg]
      refine hK _ ?_; clear hK
      refine bwp_ret ?_
      simp only [go_sem]
      refine aend_ret _ rfl rfl ⟨?_, rfl⟩
      simp [fget, kindW, hbl, letB, digB, e2, e3]
  · have e1 : ¬ 97 ≤ c.toNat := by omega
    refine bwp_seq fun K hK => bwp_region rfl ?_
    simp -implicitDefEqProofs only [go_sem, ↓reduceIte, Nat.reduceEqDiff, Nat.reduceAdd, Nat.reduceLeDiff, Nat.reduceMul, Nat.reduceSub, Int.reduceLE, Int.reduceLT, Int.reduceEq, Int.reduceToNat, Int.reducePow, Int.reduceNeg, h97]
    refine hK _ ?_; clear hK
    refine bwp_cond false (by simp [ev, fget]) (fun h => nomatch h) (fun _ => ?_)
    by_cases h48 : (48 : Int) ≤ c.toNat
    · by_cases h57 : (c.toNat : Int) ≤ 57
      · refine bwp_seq fun K hK => bwp_region rfl ?_
        simp -implicitDefEqProofs only [go_sem, ↓reduceIte, Nat.reduceEqDiff, Nat.reduceAdd, Nat.reduceLeDiff, Nat.reduceMul, Nat.reduceSub, Int.reduceLE, Int.reduceLT, Int.reduceEq, Int.reduceToNat, Int.reducePow, Int.reduceNeg, h48, h57]
        refine hK _ ?_; clear hK
        refine bwp_cond true (by simp [ev, fget]) (fun _ => ?_) (fun h => nomatch h)
        refine bwp_seq fun K hK => bwp_region rfl ?_
        simp -implicitDefEqProofs only [go_sem, ↓reduceIte, Nat.reduceEqDiff, Nat.reduceAdd, Nat.reduceLeDiff, Nat.reduceMul, Nat.reduceSub, Int.reduceLE, Int.reduceLT, Int.reduceEq, Int.reduceToNat, Int.reducePow, Int.reduceNeg]
        refine hK _ ?_; clear hK
        refine bwp_ret ?_
        simp only [go_sem]
        refine aend_ret _ rfl rfl ⟨?_, rfl⟩
        have e2 : 48 ≤ c.toNat := by omega
        have e3 : c.toNat ≤ 57 := by omega
        simp [fget, kindW, hbl, letB, digB, e1, e2, e3]
      · refine bwp_seq fun K hK => bwp_region rfl ?_
        simp -implicitDefEqProofs only [go_sem, ↓reduceIte, Nat.reduceEqDiff, Nat.reduceAdd, Nat.reduceLeDiff, Nat.reduceMul, Nat.reduceSub, Int.reduceLE, Int.reduceLT, Int.reduceEq, Int.reduceToNat, Int.reducePow, Int.reduceNeg, h48, h57]
        refine hK _ ?_; clear hK
        refine bwp_cond false (by simp [ev, fget]) (fun h => nomatch h) (fun _ => ?_)
        refine bwp_skip ?_
        refine hK1 _ ?_; clear hK1
        refine bwp_seq fun K hK => bwp_region rfl ?_
        simp -implicitDefEqProofs only [go_sem, ↓reduceIte, Nat.reduceEqDiff, Nat.reduceAdd, Nat.reduceLeDiff, Nat.reduceMul, Nat.reduceSub, Int.reduceLE, Int.reduceLT, Int.reduceEq, Int.reduceToNat, Int.reducePow, Int.reduceNeg]
        refine hK _ ?_; clear hK
        refine bwp_ret ?_
        simp only [go_sem]
        refine aend_ret _ rfl rfl ⟨?_, rfl⟩
        have e3 : ¬ c.toNat ≤ 57 := by omega
        simp [fget, kindW, hbl, letB, digB, e1, e3]
    · refine bwp_seq fun K hK => bwp_region rfl ?_
      simp -implicitDefEqProofs only [go_sem, ↓reduceIte, Nat.reduceEqDiff, Nat.reduceAdd, Nat.reduceLeDiff, Nat.reduceMul, Nat.reduceSub, Int.reduceLE, Int.reduceLT, Int.reduceEq, Int.reduceToNat, Int.reducePow, Int.reduceNeg, h48]
      refine hK _ ?_; clear hK
      refine bwp_cond false (by simp [ev, fget]) (fun h => nomatch h) (fun _ => ?_)
      refine bwp_skip ?_
      refine hK1 _ ?_; clear hK1
      refine bwp_seq fun K hK => bwp_region rfl ?_
      simp -implicitDefEqProofs only [go_sem, ↓reduceIte, Nat.reduceEqDiff, Nat.reduceAdd, Nat.reduceLeDiff, Nat.reduceMul, Nat.reduceSub, Int.reduceLE, Int.reduceLT, Int.reduceEq, Int.reduceToNat, Int.reducePow, Int.reduceNeg]
      refine hK _ ?_; clear hK
      refine bwp_ret ?_
      simp only [go_sem]
      refine aend_ret _ rfl rfl ⟨?_, rfl⟩
      have e2 : ¬ 48 ≤ c.toNat := by omega
      simp [fget, kindW, hbl, letB, digB, e1, e2]

theorem kind_aln (c : UInt8) : (2 ≤ kindW c) ↔ alnB c = true := by
  unfold kindW alnB
  cases h1 : blankB c with
  | true =>
    simp only [blankB, Bool.or_eq_true, beq_iff_eq] at h1
    rcases h1 with (rfl | rfl) | rfl <;> decide
  | false =>
    cases letB c <;> cases digB c <;> decide
theorem kind_blank (c : UInt8) : kindW c = 1 ↔ blankB c = true := by
  unfold kindW
  cases blankB c <;> cases letB c <;> cases digB c <;> decide

end Go.Proofs.YtpfbljkfbjjlkaaDoor

/- The lexer over blanks and comments, over letters and digits. -/
namespace Go.Proofs.YtpfbljkfbjjlkaaDoor
open Go Go.Jq
set_option maxRecDepth 100000
set_option linter.unusedSimpArgs false

def lkS (s : List UInt8) (p rd : Nat) : St := ⟨[(0, .ptr 0 0)], [(0, lexC s p rd 0 0)], 1⟩

theorem rdW_lt {s : List UInt8} {rd k : Nat} (h : k < s.length) : rdW s rd k = max rd (k + 1) := by unfold rdW; rw [if_pos h]

/-- How far it may have looked. -/
def rdIn (s : List UInt8) (rd0 p rd : Nat) : Prop := rd0 ≤ rd ∧ p ≤ rd ∧ rd ≤ s.length ∧ rd ≤ max rd0 (p + 1)

theorem rdIn_peek {s : List UInt8} {rd0 p rd : Nat} (h : rdIn s rd0 p rd) (hp : p < s.length) : rdIn s rd0 p (rdW s rd p) ∧ rdIn s rd0 (p + 1) (rdW s rd p) := by
  rw [rdW_lt hp]
  unfold rdIn at *
  omega

set_option maxHeartbeats 8000000 in
theorem lk_inner {s : List UInt8} (hs : s.length ≤ 140737488351232) {T p0 rd0 rd1 : Nat} (hp0 : p0 ≤ s.length) (h0 : p0 + skipN true (s.drop p0) = T) (hr0 : rdIn s rd0 p0 rd1) {Q : Exit → St → Prop}
    (hQ : ∀ p rd, p0 ≤ p → p ≤ s.length → p + skipN false (s.drop p) = T → (p = p0 → p0 < s.length → s.getD p0 0 = 10) → rdIn s rd0 p rd → Q (.exit 3) (lkS s p rd)) :
    BWP Tryd.prog 1 51 (.loop ac32L0) (lkS s p0 rd1) Q := by
  refine bwp_fam (ι := { p : Nat × Nat // p0 ≤ p.1 ∧ p.1 ≤ s.length ∧ p.1 + skipN true (s.drop p.1) = T ∧ rdIn s rd0 p.1 p.2 }) (fun p => lkS s p.1.1 p.1.2) (fun p => s.length - p.1.1) ⟨(p0, rd1), Nat.le_refl _, hp0, h0, hr0⟩ ?_
  rintro ⟨⟨p, rd⟩, hle, hl, hT, hrd⟩
  simp only at hle hl hT hrd ⊢
  unfold ac32L0 lkS
  refine bwp_seq fun K1 hK1 => ?_
  refine bwp_seq fun K hK => bwp_region rfl ?_
  simp -implicitDefEqProofs only [go_sem, ↓reduceIte, Nat.reduceEqDiff, Nat.reduceAdd, Nat.reduceLeDiff, Nat.reduceMul, Nat.reduceSub, Int.reduceLE, Int.reduceLT, Int.reduceEq, Int.reduceToNat, Int.reducePow, Int.reduceNeg, lexC]
  refine has_callK s p rd 0 0 p rfl ?_
  by_cases hlt : p < s.length
  · have hd := drop_at hlt
    have hpk := rdIn_peek hrd hlt
    generalize hc : s.getD p 0 = c at hd
    rw [hd] at hT
    simp -implicitDefEqProofs only [go_sem, ↓reduceIte, Nat.reduceEqDiff, Nat.reduceAdd, Nat.reduceLeDiff, Nat.reduceMul, Nat.reduceSub, Int.reduceLE, Int.reduceLT, Int.reduceEq, Int.reduceToNat, Int.reducePow, Int.reduceNeg, hlt, decide_true, lexC, mset]
    refine peek_callK hs p rd 0 0 p rfl ?_
    rw [hc]
    generalize rdW s rd p = rd' at hpk ⊢
    by_cases h10 : (c.toNat : Int) = 10
    · have hc10 := u8eq (k := 10) h10
      simp -implicitDefEqProofs only [go_sem, ↓reduceIte, Nat.reduceEqDiff, Nat.reduceAdd, Nat.reduceLeDiff, Nat.reduceMul, Nat.reduceSub, Int.reduceLE, Int.reduceLT, Int.reduceEq, Int.reduceToNat, Int.reducePow, Int.reduceNeg, h10, lexC, mset]
      refine hK _ ?_; clear hK
      refine bwp_cond false (by simp [ev, fget]) (fun h => nomatch h) (fun _ => ?_)
      refine bwp_leads (S' := lkS s p rd') (Leads.ent [(0, 0)] ⟨by simp [entT, fget, AV.ren, renL, pget, lkS, lexC], by simp [entM, pinv, mget, mset, renL, AV.ren, pget, renL_append, -List.map_map, lkS, lexC], rfl, rfl⟩) ?_
      refine bwp_exit (hQ p rd' hle hl ?_ (fun he _ => ?_) hpk.1)
      · rw [hc10, skip_same] at hT
        rw [hd, hc10]
        exact hT
      · rw [← he, hc, hc10]
    · have hc10 := u8ne (k := 10) h10
      rw [skip_note hc10] at hT
      have hw : IntKind.i64.wrap ((p : Int) + 1) = ((p + 1 : Nat) : Int) := by rw [wrap_i64 (by omega) (by omega)]; rfl
      simp -implicitDefEqProofs only [go_sem, ↓reduceIte, Nat.reduceEqDiff, Nat.reduceAdd, Nat.reduceLeDiff, Nat.reduceMul, Nat.reduceSub, Int.reduceLE, Int.reduceLT, Int.reduceEq, Int.reduceToNat, Int.reducePow, Int.reduceNeg, h10, lexC, mset]
      refine hK _ ?_; clear hK
      refine bwp_cond true (by simp [ev, fget]) (fun _ => ?_) (fun h => nomatch h)
      refine bwp_skip ?_
      refine hK1 _ ?_; clear hK1
      refine bwp_block ?_
      refine bwp_region rfl ?_
      simp -implicitDefEqProofs only [go_sem, ↓reduceIte, Nat.reduceEqDiff, Nat.reduceAdd, Nat.reduceLeDiff, Nat.reduceMul, Nat.reduceSub, Int.reduceLE, Int.reduceLT, Int.reduceEq, Int.reduceToNat, Int.reducePow, Int.reduceNeg, hw]
      refine ⟨⟨(p + 1, rd'), by simp only; omega, by simp only; omega, by simp only; omega, hpk.2⟩, by simp only; omega, ?_⟩
      exact Leads.ent [(0, 0)] ⟨by simp [entT, fget, AV.ren, renL, pget, lkS], by simp [entM, pinv, mget, mset, renL, AV.ren, lkS, lexC], rfl, rfl⟩
  · have he : p = s.length := by omega
    simp -implicitDefEqProofs only [go_sem, ↓reduceIte, Nat.reduceEqDiff, Nat.reduceAdd, Nat.reduceLeDiff, Nat.reduceMul, Nat.reduceSub, Int.reduceLE, Int.reduceLT, Int.reduceEq, Int.reduceToNat, Int.reducePow, Int.reduceNeg, hlt, decide_false, lexC, mset]
    refine hK _ ?_; clear hK
    refine bwp_cond false (by simp [ev, fget]) (fun h => nomatch h) (fun _ => ?_)
    refine bwp_leads (S' := lkS s p rd) (Leads.ent [(0, 0)] ⟨by simp [entT, fget, AV.ren, renL, pget, lkS, lexC], by simp [entM, pinv, mget, mset, renL, AV.ren, pget, renL_append, -List.map_map, lkS, lexC], rfl, rfl⟩) ?_
    refine bwp_exit (hQ p rd hle hl ?_ (fun h1 h2 => by omega) hrd)
    subst he
    rw [List.drop_length] at hT ⊢
    exact hT

set_option maxHeartbeats 8000000 in
theorem lk_outer {s : List UInt8} (hs : s.length ≤ 140737488351232) {a rd0 : Nat} (ha : a ≤ s.length) (hr0 : a ≤ rd0 ∧ rd0 ≤ s.length) {Q : Exit → St → Prop}
    (hQ : ∀ rd, rdIn s rd0 (skipA s a) rd → Q (.exit 0) (lkS s (skipA s a) rd)) (hR : ∀ t rd n, rdIn s rd0 (skipA s a) rd → Q .ret ⟨t, [(0, lexC s (skipA s a) rd 0 0)], n⟩) :
    BWP Tryd.prog 1 51 (.loop ac32L1) (lkS s a rd0) Q := by
  refine bwp_fam (ι := { p : Nat × Nat // p.1 ≤ s.length ∧ p.1 + skipN false (s.drop p.1) = skipA s a ∧ rdIn s rd0 p.1 p.2 }) (fun p => lkS s p.1.1 p.1.2) (fun p => s.length - p.1.1) ⟨(a, rd0), ha, rfl, by unfold rdIn; simp only; omega⟩ ?_
  rintro ⟨⟨p, rd⟩, hl, hT, hrd⟩
  simp only at hl hT hrd ⊢
  unfold ac32L1 lkS
  refine bwp_seq fun K1 hK1 => ?_
  refine bwp_seq fun K hK => bwp_region rfl ?_
  simp -implicitDefEqProofs only [go_sem, ↓reduceIte, Nat.reduceEqDiff, Nat.reduceAdd, Nat.reduceLeDiff, Nat.reduceMul, Nat.reduceSub, Int.reduceLE, Int.reduceLT, Int.reduceEq, Int.reduceToNat, Int.reducePow, Int.reduceNeg, lexC]
  refine has_callK s p rd 0 0 p rfl ?_
  by_cases hlt : p < s.length
  · have hd := drop_at hlt
    have hw : IntKind.i64.wrap ((p : Int) + 1) = ((p + 1 : Nat) : Int) := by rw [wrap_i64 (by omega) (by omega)]; rfl
    have hpk := rdIn_peek hrd hlt
    generalize hc : s.getD p 0 = c at hd
    rw [hd] at hT
    simp -implicitDefEqProofs only [go_sem, ↓reduceIte, Nat.reduceEqDiff, Nat.reduceAdd, Nat.reduceLeDiff, Nat.reduceMul, Nat.reduceSub, Int.reduceLE, Int.reduceLT, Int.reduceEq, Int.reduceToNat, Int.reducePow, Int.reduceNeg, hlt, decide_true, lexC, mset]
    refine hK _ ?_; clear hK
    refine bwp_cond true (by simp [ev, fget]) (fun _ => ?_) (fun h => nomatch h)
    refine bwp_skip ?_
    refine hK1 _ ?_; clear hK1
    refine bwp_block ?_
    refine bwp_seq fun K hK => bwp_region rfl ?_
    simp -implicitDefEqProofs only [go_sem, ↓reduceIte, Nat.reduceEqDiff, Nat.reduceAdd, Nat.reduceLeDiff, Nat.reduceMul, Nat.reduceSub, Int.reduceLE, Int.reduceLT, Int.reduceEq, Int.reduceToNat, Int.reducePow, Int.reduceNeg]
    refine peek_callK hs p rd 0 0 p rfl ?_
    rw [hc]
    generalize rdW s rd p = rd' at hpk ⊢
    simp -implicitDefEqProofs only [go_sem, ↓reduceIte, Nat.reduceEqDiff, Nat.reduceAdd, Nat.reduceLeDiff, Nat.reduceMul, Nat.reduceSub, Int.reduceLE, Int.reduceLT, Int.reduceEq, Int.reduceToNat, Int.reducePow, Int.reduceNeg, lexC, mset]
    refine hK _ ?_; clear hK
    refine bwp_block ?_
    by_cases h35 : (c.toNat : Int) = 35
    · have hc35 := u8eq (k := 35) h35
      refine bwp_seq fun K hK => bwp_region rfl ?_
      simp -implicitDefEqProofs only [go_sem, ↓reduceIte, Nat.reduceEqDiff, Nat.reduceAdd, Nat.reduceLeDiff, Nat.reduceMul, Nat.reduceSub, Int.reduceLE, Int.reduceLT, Int.reduceEq, Int.reduceToNat, Int.reducePow, Int.reduceNeg, h35]
      refine hK _ ?_; clear hK
      refine bwp_cond true (by simp [ev, fget]) (fun _ => ?_) (fun h => nomatch h)
      refine bwp_block ?_
      refine bwp_leads (S' := lkS s p rd') (Leads.ent [(0, 0)] ⟨by simp [entT, fget, AV.ren, renL, pget, lkS, lexC], by simp [entM, pinv, mget, mset, renL, AV.ren, pget, renL_append, -List.map_map, lkS, lexC], rfl, rfl⟩) ?_
      refine lk_inner hs (T := skipA s a) (rd0 := rd0) hl ?_ hpk.1 ?_
      · rw [hd, hc35, skip_note (by decide)]
        rw [hc35] at hT
        exact hT
      · intro q rdq hq1 hq2 hq3 hq4 hq5
        unfold lkS
        simp -implicitDefEqProofs only [go_sem, ↓reduceIte, Nat.reduceEqDiff, Nat.reduceAdd, Nat.reduceLeDiff, Nat.reduceMul, Nat.reduceSub, Int.reduceLE, Int.reduceLT, Int.reduceEq, Int.reduceToNat, Int.reducePow, Int.reduceNeg]
        refine ⟨⟨(q, rdq), hq2, hq3, hq5⟩, ?_, Leads.ent [(0, 0)] ⟨by simp [entT, fget, AV.ren, renL, pget, lkS], by simp [entM, pinv, mget, mset, renL, AV.ren, lkS, lexC], rfl, rfl⟩⟩
        simp only
        have : q ≠ p := fun e => by
          have := hq4 e hlt
          rw [hc, hc35] at this
          cases this
        omega
    · have hc35 := u8ne (k := 35) h35
      refine bwp_seq fun K hK => bwp_region rfl ?_
      simp -implicitDefEqProofs only [go_sem, ↓reduceIte, Nat.reduceEqDiff, Nat.reduceAdd, Nat.reduceLeDiff, Nat.reduceMul, Nat.reduceSub, Int.reduceLE, Int.reduceLT, Int.reduceEq, Int.reduceToNat, Int.reducePow, Int.reduceNeg, h35]
      refine hK _ ?_; clear hK
      refine bwp_cond false (by simp [ev, fget]) (fun h => nomatch h) (fun _ => ?_)
      have k1 := kind_pure c
      refine bwp_seq fun K hK => bwp_region rfl ?_
      simp -implicitDefEqProofs only [go_sem, ↓reduceIte, Nat.reduceEqDiff, Nat.reduceAdd, Nat.reduceLeDiff, Nat.reduceMul, Nat.reduceSub, Int.reduceLE, Int.reduceLT, Int.reduceEq, Int.reduceToNat, Int.reducePow, Int.reduceNeg]
      refine callK_pure k1 rfl rfl ?_
      by_cases hb : blankB c = true
      · have hk1 := (kind_blank c).2 hb
        simp -implicitDefEqProofs only [go_sem, ↓reduceIte, Nat.reduceEqDiff, Nat.reduceAdd, Nat.reduceLeDiff, Nat.reduceMul, Nat.reduceSub, Int.reduceLE, Int.reduceLT, Int.reduceEq, Int.reduceToNat, Int.reducePow, Int.reduceNeg, hk1]
        refine hK _ ?_; clear hK
        refine bwp_cond true (by simp [ev, fget]) (fun _ => ?_) (fun h => nomatch h)
        refine bwp_region rfl ?_
        simp -implicitDefEqProofs only [go_sem, ↓reduceIte, Nat.reduceEqDiff, Nat.reduceAdd, Nat.reduceLeDiff, Nat.reduceMul, Nat.reduceSub, Int.reduceLE, Int.reduceLT, Int.reduceEq, Int.reduceToNat, Int.reducePow, Int.reduceNeg, hw]
        refine ⟨⟨(p + 1, rd'), by simp only; omega, ?_, hpk.2⟩, by simp only; omega, Leads.ent [(0, 0)] ⟨by simp [entT, fget, AV.ren, renL, pget, lkS], by simp [entM, pinv, mget, mset, renL, AV.ren, lkS, lexC], rfl, rfl⟩⟩
        simp only [skipN] at hT
        rw [if_pos hb] at hT
        simp only
        omega
      · have hk1 : ¬ kindW c = 1 := fun h => hb ((kind_blank c).1 h)
        have hz : skipN false (c :: s.drop (p + 1)) = 0 := skip_zero _ ⟨by simpa using hb, hc35⟩
        rw [hz] at hT
        have hT' : p = skipA s a := by omega
        simp -implicitDefEqProofs only [go_sem, ↓reduceIte, Nat.reduceEqDiff, Nat.reduceAdd, Nat.reduceLeDiff, Nat.reduceMul, Nat.reduceSub, Int.reduceLE, Int.reduceLT, Int.reduceEq, Int.reduceToNat, Int.reducePow, Int.reduceNeg, hk1]
        refine hK _ ?_; clear hK
        refine bwp_cond false (by simp [ev, fget]) (fun h => nomatch h) (fun _ => ?_)
        refine bwp_ret ?_
        simp -implicitDefEqProofs only [go_sem, ↓reduceIte, Nat.reduceEqDiff, Nat.reduceAdd, Nat.reduceLeDiff, Nat.reduceMul, Nat.reduceSub, Int.reduceLE, Int.reduceLT, Int.reduceEq, Int.reduceToNat, Int.reducePow, Int.reduceNeg]
        have := fun t n => hR t rd' n (by rw [← hT']; exact hpk.1)
        rw [← hT'] at this
        exact this _ _
  · have he : p = s.length := by omega
    subst he
    rw [List.drop_length] at hT
    have hT' : s.length = skipA s a := by rw [← hT]; rfl
    simp -implicitDefEqProofs only [go_sem, ↓reduceIte, Nat.reduceEqDiff, Nat.reduceAdd, Nat.reduceLeDiff, Nat.reduceMul, Nat.reduceSub, Int.reduceLE, Int.reduceLT, Int.reduceEq, Int.reduceToNat, Int.reducePow, Int.reduceNeg, hlt, decide_false, lexC, mset]
    refine hK _ ?_; clear hK
    refine bwp_cond false (by simp [ev, fget]) (fun h => nomatch h) (fun _ => ?_)
    refine bwp_leads (S' := lkS s s.length rd) (Leads.ent [(0, 0)] ⟨by simp [entT, fget, AV.ren, renL, pget, lkS, lexC], by simp [entM, pinv, mget, mset, renL, AV.ren, pget, renL_append, -List.map_map, lkS, lexC], rfl, rfl⟩) ?_
    refine bwp_exit ?_
    have := hQ rd (by rw [← hT']; exact hrd)
    rw [← hT'] at this
    exact this

theorem skip_calls {s : List UInt8} (hs : s.length ≤ 140737488351232) {a rd : Nat} (ha : a ≤ s.length) (hr : a ≤ rd ∧ rd ≤ s.length) :
    ACalls Tryd.prog 32 [.ptr 0 0] [(0, lexC s a rd 0 0)] fun r m' => r = .tup [] ∧ ∃ rd', rdIn s rd (skipA s a) rd' ∧ m' = [(0, lexC s (skipA s a) rd' 0 0)] := by
  refine acalls_of Tryd.func32 ac32_ok Tryd.ntmps32 Tryd.results32 rfl ?_
  unfold ac32
  refine bwp_block ?_
  refine bwp_leads (S' := lkS s a rd) (Leads.ent [(0, 0)] ⟨by simp [entT, fget, AV.ren, renL, pget, lkS, lexC, frm], by simp [entM, pinv, mget, mset, renL, AV.ren, pget, renL_append, -List.map_map, lkS, lexC, frm], rfl, rfl⟩) ?_
  refine lk_outer hs ha hr ?_ ?_
  · intro rd' h
    unfold lkS
    simp -implicitDefEqProofs only [go_sem, ↓reduceIte, Nat.reduceEqDiff, Nat.reduceAdd, Nat.reduceLeDiff, Nat.reduceMul, Nat.reduceSub, Int.reduceLE, Int.reduceLT, Int.reduceEq, Int.reduceToNat, Int.reducePow, Int.reduceNeg]
    refine ⟨.tup [], rfl, [(0, 0)], [(0, lexC s (skipA s a) rd' 0 0)], rfl, rfl, ?_, ⟨rfl, rd', h, rfl⟩⟩
    simp [entM, pinv, mget, renL, AV.ren, lexC]
  · intro t rd' n h
    simp -implicitDefEqProofs only [go_sem, ↓reduceIte, Nat.reduceEqDiff, Nat.reduceAdd, Nat.reduceLeDiff, Nat.reduceMul, Nat.reduceSub, Int.reduceLE, Int.reduceLT, Int.reduceEq, Int.reduceToNat, Int.reducePow, Int.reduceNeg]
    refine aend_mem (.tup []) [(0, 0)] [(0, lexC s (skipA s a) rd' 0 0)] rfl rfl rfl ?_ ⟨rfl, rd', h, rfl⟩
    simp [entM, pinv, mget, renL, AV.ren, lexC]

/-! ### Letters and digits -/

def rlS (s : List UInt8) (a p rd : Nat) : St := ⟨[(1, .d (.int .i64 p)), (0, .ptr 0 0), (4, .d (.int .i64 0))], [(0, lexC s a rd 0 0)], 1⟩

set_option maxHeartbeats 8000000 in
theorem rl_loop {s : List UInt8} (hs : s.length ≤ 140737488351232) {a p0 rd0 rd1 : Nat} (hp0 : p0 ≤ s.length) (hr0 : rdIn s rd0 p0 rd1) {Q : Exit → St → Prop}
    (hQ : ∀ rd, rdIn s rd0 (p0 + runL (s.drop p0)) rd → Q (.exit 0) (rlS s a (p0 + runL (s.drop p0)) rd)) :
    BWP Tryd.prog 1 18 (.loop ac36L0) (rlS s a p0 rd1) Q := by
  refine bwp_fam (ι := { p : Nat × Nat // p.1 ≤ s.length ∧ p.1 + runL (s.drop p.1) = p0 + runL (s.drop p0) ∧ rdIn s rd0 p.1 p.2 }) (fun p => rlS s a p.1.1 p.1.2) (fun p => s.length - p.1.1) ⟨(p0, rd1), hp0, rfl, hr0⟩ ?_
  rintro ⟨⟨p, rd⟩, hl, hT, hrd⟩
  simp only at hl hT hrd ⊢
  unfold ac36L0 rlS
  have hout : ∀ rd', rdIn s rd0 p rd' → runL (s.drop p) = 0 → Q (.exit 0) (rlS s a p rd') := fun rd' h h0 => by
    rw [h0] at hT
    have := hQ rd' (by rw [← hT]; exact h)
    rw [← hT] at this
    exact this
  refine bwp_seq fun K1 hK1 => ?_
  refine bwp_seq fun K hK => bwp_region rfl ?_
  simp -implicitDefEqProofs only [go_sem, ↓reduceIte, Nat.reduceEqDiff, Nat.reduceAdd, Nat.reduceLeDiff, Nat.reduceMul, Nat.reduceSub, Int.reduceLE, Int.reduceLT, Int.reduceEq, Int.reduceToNat, Int.reducePow, Int.reduceNeg, lexC]
  refine has_callK s a rd 0 0 p rfl ?_
  by_cases hlt : p < s.length
  · have hd := drop_at hlt
    have hpk := rdIn_peek hrd hlt
    generalize hc : s.getD p 0 = c at hd
    simp -implicitDefEqProofs only [go_sem, ↓reduceIte, Nat.reduceEqDiff, Nat.reduceAdd, Nat.reduceLeDiff, Nat.reduceMul, Nat.reduceSub, Int.reduceLE, Int.reduceLT, Int.reduceEq, Int.reduceToNat, Int.reducePow, Int.reduceNeg, hlt, decide_true, lexC, mset]
    refine peek_callK hs a rd 0 0 p rfl ?_
    rw [hc]
    generalize rdW s rd p = rd' at hpk ⊢
    have k1 := kind_pure c
    simp -implicitDefEqProofs only [go_sem, ↓reduceIte, Nat.reduceEqDiff, Nat.reduceAdd, Nat.reduceLeDiff, Nat.reduceMul, Nat.reduceSub, Int.reduceLE, Int.reduceLT, Int.reduceEq, Int.reduceToNat, Int.reducePow, Int.reduceNeg, lexC, mset]
    refine callK_pure k1 rfl rfl ?_
    by_cases ha : alnB c = true
    · have hk := (kind_aln c).2 ha
      have hw : IntKind.i64.wrap ((p : Int) + 1) = ((p + 1 : Nat) : Int) := by rw [wrap_i64 (by omega) (by omega)]; rfl
      rw [hd, runL, if_pos ha] at hT
      simp -implicitDefEqProofs only [go_sem, ↓reduceIte, Nat.reduceEqDiff, Nat.reduceAdd, Nat.reduceLeDiff, Nat.reduceMul, Nat.reduceSub, Int.reduceLE, Int.reduceLT, Int.reduceEq, Int.reduceToNat, Int.reducePow, Int.reduceNeg, hk]
      refine hK _ ?_; clear hK
      refine bwp_cond true (by simp [ev, fget]) (fun _ => ?_) (fun h => nomatch h)
      refine bwp_skip ?_
      refine hK1 _ ?_; clear hK1
      refine bwp_block ?_
      refine bwp_region rfl ?_
      simp -implicitDefEqProofs only [go_sem, ↓reduceIte, Nat.reduceEqDiff, Nat.reduceAdd, Nat.reduceLeDiff, Nat.reduceMul, Nat.reduceSub, Int.reduceLE, Int.reduceLT, Int.reduceEq, Int.reduceToNat, Int.reducePow, Int.reduceNeg, hw]
      refine ⟨⟨(p + 1, rd'), by simp only; omega, by simp only; omega, hpk.2⟩, by simp only; omega, ?_⟩
      exact Leads.ent [(0, 0)] ⟨by simp [entT, fget, AV.ren, renL, pget, rlS], by simp [entM, pinv, mget, mset, renL, AV.ren, rlS, lexC], rfl, rfl⟩
    · have hk : ¬ 2 ≤ kindW c := fun h => ha ((kind_aln c).1 h)
      simp -implicitDefEqProofs only [go_sem, ↓reduceIte, Nat.reduceEqDiff, Nat.reduceAdd, Nat.reduceLeDiff, Nat.reduceMul, Nat.reduceSub, Int.reduceLE, Int.reduceLT, Int.reduceEq, Int.reduceToNat, Int.reducePow, Int.reduceNeg, hk]
      refine hK _ ?_; clear hK
      refine bwp_cond false (by simp [ev, fget]) (fun h => nomatch h) (fun _ => ?_)
      refine bwp_leads (S' := rlS s a p rd') (Leads.ent [(0, 0)] ⟨by simp [entT, fget, AV.ren, renL, pget, rlS, lexC], by simp [entM, pinv, mget, mset, renL, AV.ren, pget, renL_append, -List.map_map, rlS, lexC], rfl, rfl⟩) ?_
      exact bwp_exit (hout rd' hpk.1 (by rw [hd, runL, if_neg ha]))
  · have he : p = s.length := by omega
    simp -implicitDefEqProofs only [go_sem, ↓reduceIte, Nat.reduceEqDiff, Nat.reduceAdd, Nat.reduceLeDiff, Nat.reduceMul, Nat.reduceSub, Int.reduceLE, Int.reduceLT, Int.reduceEq, Int.reduceToNat, Int.reducePow, Int.reduceNeg, hlt, decide_false, lexC, mset]
    refine hK _ ?_; clear hK
    refine bwp_cond false (by simp [ev, fget]) (fun h => nomatch h) (fun _ => ?_)
    refine bwp_leads (S' := rlS s a p rd) (Leads.ent [(0, 0)] ⟨by simp [entT, fget, AV.ren, renL, pget, rlS, lexC], by simp [entM, pinv, mget, mset, renL, AV.ren, pget, renL_append, -List.map_map, rlS, lexC], rfl, rfl⟩) ?_
    exact bwp_exit (hout rd hrd (by rw [he, List.drop_length]; rfl))

theorem run_calls {s : List UInt8} (hs : s.length ≤ 140737488351232) {a p rd : Nat} (hp : p ≤ s.length) (hr : p ≤ rd ∧ rd ≤ s.length) :
    ACalls Tryd.prog 36 [.ptr 0 0, .d (.int .i64 p)] [(0, lexC s a rd 0 0)] fun r m' => r = .d (.int .i64 (p + runL (s.drop p) : Nat)) ∧ ∃ rd', rdIn s rd (p + runL (s.drop p)) rd' ∧ m' = [(0, lexC s a rd' 0 0)] := by
  refine acalls_of Tryd.func36 ac36_ok Tryd.ntmps36 Tryd.results36 rfl ?_
  unfold ac36
  refine bwp_seq fun K hK => bwp_region rfl ?_
  simp -implicitDefEqProofs only [go_sem, ↓reduceIte, Nat.reduceEqDiff, Nat.reduceAdd, Nat.reduceLeDiff, Nat.reduceMul, Nat.reduceSub, Int.reduceLE, Int.reduceLT, Int.reduceEq, Int.reduceToNat, Int.reducePow, Int.reduceNeg]
  refine hK _ ?_; clear hK
  refine bwp_seq fun K1 hK1 => ?_
  refine bwp_block ?_
  refine bwp_leads (S' := rlS s a p rd) (Leads.ent [(0, 0)] ⟨by simp [entT, fget, AV.ren, renL, pget, rlS, lexC, frm], by simp [entM, pinv, mget, mset, renL, AV.ren, pget, renL_append, -List.map_map, rlS, lexC, frm], rfl, rfl⟩) ?_
  refine rl_loop hs (rd0 := rd) hp (by unfold rdIn; omega) ?_
  intro rd' h
  unfold rlS
  simp -implicitDefEqProofs only [go_sem, ↓reduceIte, Nat.reduceEqDiff, Nat.reduceAdd, Nat.reduceLeDiff, Nat.reduceMul, Nat.reduceSub, Int.reduceLE, Int.reduceLT, Int.reduceEq, Int.reduceToNat, Int.reducePow, Int.reduceNeg]
  refine hK1 _ ?_; clear hK1
  refine bwp_seq fun K hK => bwp_region rfl ?_
  simp -implicitDefEqProofs only [go_sem, ↓reduceIte, Nat.reduceEqDiff, Nat.reduceAdd, Nat.reduceLeDiff, Nat.reduceMul, Nat.reduceSub, Int.reduceLE, Int.reduceLT, Int.reduceEq, Int.reduceToNat, Int.reducePow, Int.reduceNeg]
  refine hK _ ?_; clear hK
  refine bwp_ret ?_
  simp only [go_sem]
  refine aend_mem (.d (.int .i64 (p + runL (s.drop p) : Nat))) [(0, 0)] [(0, lexC s a rd' 0 0)] ?_ rfl rfl ?_ ⟨rfl, rd', h, rfl⟩
  · simp [resA, resVs, resV, fget]
  · simp [entM, pinv, mget, renL, AV.ren, lexC]

/-! ### Called -/

theorem skip_callK {s : List UInt8} (hs : s.length ≤ 140737488351232) {a rd : Nat} (ha : a ≤ s.length) (hr : a ≤ rd ∧ rd ≤ s.length) {j : Nat} {dst : Option Nat} {r : List AOper} {K : St → Prop} {t : Fr} {m : Mem} {n : Nat} (hm : mget m j = some (lexC s a rd 0 0))
    (hk : ∀ rd', rdIn s rd (skipA s a) rd' → runOps Tryd.prog r ⟨putF t dst (.tup []), mset m j (lexC s (skipA s a) rd' 0 0), n + 1⟩ K) : callK Tryd.prog 32 [.ptr j 0] dst r K t m n := by
  refine meth_callK (rest := []) (Q := fun r c' => r = .tup [] ∧ ∃ rd', rdIn s rd (skipA s a) rd' ∧ c' = lexC s (skipA s a) rd' 0 0) ((skip_calls hs ha hr).mono fun r m' h => ?_) rfl rfl ?_ hm ?_
  · obtain ⟨h1, rd', h2, h3⟩ := h
    exact ⟨_, h3, h1, rd', h2, rfl⟩
  · rintro _ _ ⟨rfl, rd', _, rfl⟩; exact ⟨rfl, rfl⟩
  · rintro _ _ ⟨rfl, rd', h, rfl⟩; exact hk rd' h

theorem run_callK {s : List UInt8} (hs : s.length ≤ 140737488351232) {a p rd : Nat} (hp : p ≤ s.length) (hr : p ≤ rd ∧ rd ≤ s.length) {j : Nat} {dst : Option Nat} {r : List AOper} {K : St → Prop} {t : Fr} {m : Mem} {n : Nat} (hm : mget m j = some (lexC s a rd 0 0))
    (hk : ∀ rd', rdIn s rd (p + runL (s.drop p)) rd' → runOps Tryd.prog r ⟨putF t dst (.d (.int .i64 (p + runL (s.drop p) : Nat))), mset m j (lexC s a rd' 0 0), n + 1⟩ K) : callK Tryd.prog 36 [.ptr j 0, .d (.int .i64 p)] dst r K t m n := by
  refine meth_callK (rest := [.d (.int .i64 p)]) (Q := fun r c' => r = .d (.int .i64 (p + runL (s.drop p) : Nat)) ∧ ∃ rd', rdIn s rd (p + runL (s.drop p)) rd' ∧ c' = lexC s a rd' 0 0) ((run_calls hs hp hr).mono fun r m' h => ?_) rfl rfl ?_ hm ?_
  · obtain ⟨h1, rd', h2, h3⟩ := h
    exact ⟨_, h3, h1, rd', h2, rfl⟩
  · rintro _ _ ⟨rfl, rd', _, rfl⟩; exact ⟨rfl, rfl⟩
  · rintro _ _ ⟨rfl, rd', h, rfl⟩; exact hk rd' h

end Go.Proofs.YtpfbljkfbjjlkaaDoor
