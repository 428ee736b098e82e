/- What the statement's proof leans on, part 3: the layer, the walks, the plain laws. -/
import Derived.Test.YtpfbljkfbjjlkaaDoorProg
import Derived.Test.YtpfbljkfbjjlkaaDoorMJP5b
import Derived.KernelRfl
import Derived.Shelf.Small.Strs
import Derived.Shelf.Strconv.Itoa0
import Derived.Shelf.Strconv.Itoa1
import Derived.Shelf.LaysM
import Derived.Shelf.Strconv.Itoa2
import Derived.Shelf.Strconv.Itoa3
import Derived.Shelf.Strconv.Itoa4
import Derived.Shelf.Strconv.ParseIntEmpty
import Derived.Shelf.Strconv.Clone
import Derived.Shelf.Strconv.SyntaxError
import Derived.Shelf.LaysC
import Derived.Shelf.Strconv.ToError
import Derived.Shelf.Strconv.Lower
import Derived.Shelf.Strconv.ParseUint10
import Derived.Shelf.Strconv.ParseUint10Empty
import Derived.Shelf.Strconv.ParseUint10Any
import Derived.Shelf.Strconv.ParseInt10
import Derived.Shelf.Strconv.RangeError
import Derived.Shelf.Strconv.ToErrorRange
import Derived.Shelf.Strconv.ParseUintEmpty
import Derived.Shelf.Strconv.ParseUint10b64
import Derived.Shelf.Strconv.ParseUint10b32
import Derived.Shelf.Strconv.ParseUint10b16
import Derived.Shelf.Strconv.ParseUint10b8
import Derived.Shelf.Strconv.ParseUint10At
import Derived.Shelf.Strconv.ParseInt10At64
import Derived.Shelf.Strconv.ParseInt10At32
import Derived.Shelf.Strconv.ParseInt10At16
import Derived.Shelf.Strconv.ParseInt10At8
import Derived.Shelf.Strconv.ParseInt10All
import Derived.Shelf.Strconv.ParseIntPublic10
import Derived.Shelf.Strconv.ErrVarParseInt
import Derived.Shelf.Strings.Search1
import Derived.OpenShut
import Derived.ChangeOld
import Derived.Below
import Derived.ProofKit
import Derived.ChangeShapes
import Derived.Test.YtpfbljkfbjjlkaaDoorRows
import Derived.Test.YtpfbljkfbjjlkaaDoorTie
import Derived.LaidMore
import Derived.Stop.Joined
import Derived.Carry
import Derived.Lib.LaidTab
import Derived.SevenTiedAt
import Derived.SizedLaws
import Derived.RegionTactic
import Derived.Deep.RegionWith
set_option linter.unusedSimpArgs false
set_option linter.unusedVariables false

/- The functions' code with its types resolved, as the layer's 'cCode' gives it. Written by a program of this session's (wip/x/dump.lean). -/
namespace Go.Proofs.YtpfbljkfbjjlkaaDoor
open Go Go.Jq
set_option maxRecDepth 100000
-- 3 jacquard/jacquardlaw2.LexOne
-- 4 jacquard/jacquardlaw2.LexLongest
-- 5 jacquard/jacquardlaw2.LexNumbers
-- 6 jacquard/jacquardlaw2.LexStands
-- 7 jacquard/jacquardlaw2.LexJoins
-- 8 jacquard/jacquardlaw2.LexBounds
-- 9 jacquard/jacquardlaw2.LexReader
-- 10 jacquard/jacquardlaw2.LexAll
-- 16 jacquard/lex.All
-- 17 jacquard/jacquardref2.All
-- 18 jacquard/jacquardlaw2.awake
-- 19 jacquard/jacquardref2.Text
def ac19L0 : ACode := (.seq (.seq (.region false [ ⟨(some 14), .mv (.t 3), none⟩, ⟨(some 15), .bin .gtr (.t 14) (.c (.d (.int .u64 9))), none⟩] []) (.cond (.t 15) .skip (.exit 0))) (.block 1 (.seq (.region false [ ⟨(some 16), .mv (.t 3), none⟩, ⟨(some 17), .bin .rem (.t 16) (.c (.d (.int .u64 10))), none⟩, ⟨(some 18), .cvi .i64 (.t 17), none⟩, ⟨(some 6), .mv (.t 18), none⟩] []) (.seq (.region false [ ⟨(some 19), .mv (.t 6), none⟩, ⟨(some 20), .mv (.t 6), none⟩, ⟨(some 21), .bin .add (.t 20) (.c (.d (.int .i64 1))), none⟩, ⟨(some 22), .slcs (.c (.d (.str [48, 49, 50, 51, 52, 53, 54, 55, 56, 57]))) (some (.t 19)) (some (.t 21)), none⟩, ⟨(some 23), .mv (.t 5), none⟩, ⟨(some 24), .bin .add (.t 22) (.t 23), none⟩, ⟨(some 5), .mv (.t 24), none⟩] []) (.region false [ ⟨(some 25), .mv (.t 3), none⟩, ⟨(some 26), .bin .quo (.t 25) (.c (.d (.int .u64 10))), none⟩, ⟨(some 3), .mv (.t 26), none⟩] [])))))
def ac19 : ACode := (.seq (.region false [ ⟨(some 2), .mv (.c (.d (.str []))), none⟩] []) (.seq (.region false [ ⟨(some 8), .mv (.t 0), none⟩, ⟨(some 9), .cvi .u64 (.t 8), none⟩, ⟨(some 3), .mv (.t 9), none⟩] []) (.seq (.region false [ ⟨(some 4), .mv (.c (.d (.str []))), none⟩] []) (.seq (.seq (.region false [ ⟨(some 10), .mv (.t 0), none⟩, ⟨(some 11), .bin .lss (.t 10) (.c (.d (.int .i64 0))), none⟩] []) (.cond (.t 11) (.seq (.region false [ ⟨(some 12), .mv (.t 3), none⟩, ⟨(some 13), .un .neg (.t 12), none⟩, ⟨(some 3), .mv (.t 13), none⟩] []) (.region false [ ⟨(some 4), .mv (.c (.d (.str [45]))), none⟩] [])) .skip)) (.seq (.region false [ ⟨(some 5), .mv (.c (.d (.str []))), none⟩] []) (.seq (.block 0 (.loop ac19L0)) (.seq (.region false [ ⟨(some 27), .mv (.t 3), none⟩, ⟨(some 28), .cvi .i64 (.t 27), none⟩, ⟨(some 7), .mv (.t 28), none⟩] []) (.seq (.region false [ ⟨(some 29), .mv (.t 4), none⟩, ⟨(some 30), .mv (.t 7), none⟩, ⟨(some 31), .mv (.t 7), none⟩, ⟨(some 32), .bin .add (.t 31) (.c (.d (.int .i64 1))), none⟩, ⟨(some 33), .slcs (.c (.d (.str [48, 49, 50, 51, 52, 53, 54, 55, 56, 57]))) (some (.t 30)) (some (.t 32)), none⟩, ⟨(some 34), .bin .add (.t 29) (.t 33), none⟩, ⟨(some 35), .mv (.t 5), none⟩, ⟨(some 36), .bin .add (.t 34) (.t 35), none⟩, ⟨(some 2), .mv (.t 36), none⟩] []) .ret))))))))
theorem ac19_ok : Tryd.f19.body.bind (cCode Tryd.prog Tryd.f19.ntmps) = some ac19 := by kernel_rfl
-- 20 jacquard/lex.New
def ac20 : ACode := (.seq (.region false [ ⟨(some 2), .mv (.c (.d .nptr)), none⟩] []) (.seq (.region false [ ⟨(some 3), .mv (.t 0), none⟩, ⟨(some 4), .build [(.d (.str [])), (.d (.int .i64 0)), (.d (.int .i64 0)), (.d (.int .i64 0)), (.d (.int .i64 0))] [(0, 1, (.t 3))], none⟩, ⟨(some 5), .box (.t 4), none⟩, ⟨(some 2), .mv (.t 5), none⟩] []) .ret))
theorem ac20_ok : Tryd.f20.body.bind (cCode Tryd.prog Tryd.f20.ntmps) = some ac20 := by kernel_rfl
-- 21 (*jacquard/lex.Lexer).Read
-- 22 (*jacquard/lex.Lexer).Next
def ac22 : ACode := (.seq (.region false [ ⟨(some 2), .alloc [(.d (.int .i64 0)), (.d (.str [])), (.d (.int .i64 0))], none⟩, ⟨(some 3), .alloc [(.d (.int .i64 0)), (.d (.int .i64 0))], none⟩] []) (.seq (.seq (.region false [ ⟨(some 10), .mv (.t 0), none⟩, ⟨(some 11), .nilck (.t 10), none⟩, ⟨(some 12), .faddr (.t 11) 3, none⟩, ⟨(some 13), .faddr (.t 12) 0, none⟩, ⟨(some 14), .load none (.t 13), none⟩, ⟨(some 15), .bin .neq (.t 14) (.c (.d (.int .i64 0))), none⟩] []) (.cond (.t 15) (.seq (.region true [ ⟨(some 16), .build [(.d (.int .i64 0)), (.d (.str [])), (.d (.int .i64 0))] [], none⟩, ⟨(some 17), .mv (.t 0), none⟩, ⟨(some 18), .nilck (.t 17), none⟩, ⟨(some 19), .faddr (.t 18) 3, none⟩, ⟨(some 20), .load (some 2) (.t 19), none⟩, ⟨none, .store 3 (.t 2) (.t 16), none⟩, ⟨none, .store 2 (.t 3) (.t 20), none⟩] [0, 0, 2, 4, 8, 1, 63]) .ret) .skip)) (.seq (.region false [ ⟨(some 21), .mv (.t 0), none⟩, ⟨(some 22), .callf 32 [(.t 21)], none⟩] []) (.seq (.seq (.region false [ ⟨(some 23), .mv (.t 0), none⟩, ⟨(some 24), .mv (.t 0), none⟩, ⟨(some 25), .nilck (.t 24), none⟩, ⟨(some 26), .faddr (.t 25) 1, none⟩, ⟨(some 27), .load none (.t 26), none⟩, ⟨(some 28), .callf 33 [(.t 23), (.t 27)], none⟩, ⟨(some 29), .un .not (.t 28), none⟩] []) (.cond (.t 29) (.seq (.region false [ ⟨(some 30), .mv (.t 0), none⟩, ⟨(some 31), .nilck (.t 30), none⟩, ⟨(some 32), .faddr (.t 31) 1, none⟩, ⟨(some 33), .load none (.t 32), none⟩, ⟨(some 34), .build [(.d (.int .i64 0)), (.d (.str [])), (.d (.int .i64 0))] [(0, 1, (.c (.d (.int .i64 4)))), (2, 1, (.t 33))], none⟩, ⟨(some 35), .build [(.d (.int .i64 0)), (.d (.int .i64 0))] [], none⟩, ⟨none, .store 3 (.t 2) (.t 34), none⟩, ⟨none, .store 2 (.t 3) (.t 35), none⟩] []) .ret) .skip)) (.seq (.region false [ ⟨(some 36), .mv (.t 0), none⟩, ⟨(some 37), .mv (.t 0), none⟩, ⟨(some 38), .nilck (.t 37), none⟩, ⟨(some 39), .faddr (.t 38) 1, none⟩, ⟨(some 40), .load none (.t 39), none⟩, ⟨(some 41), .callf 34 [(.t 36), (.t 40)], none⟩, ⟨(some 4), .mv (.t 41), none⟩] []) (.seq (.region false [ ⟨(some 42), .mv (.t 0), none⟩, ⟨(some 43), .nilck (.t 42), none⟩, ⟨(some 44), .faddr (.t 43) 1, none⟩, ⟨(some 45), .load none (.t 44), none⟩, ⟨(some 46), .build [(.d (.int .i64 0)), (.d (.str [])), (.d (.int .i64 0))] [(2, 1, (.t 45))], none⟩, ⟨(some 5), .alloc [(.d (.int .i64 0)), (.d (.str [])), (.d (.int .i64 0))], none⟩, ⟨none, .store 3 (.t 5) (.t 46), none⟩] []) (.seq (.region false [ ⟨(some 47), .mv (.t 0), none⟩, ⟨(some 48), .nilck (.t 47), none⟩, ⟨(some 49), .faddr (.t 48) 1, none⟩, ⟨(some 50), .load none (.t 49), none⟩, ⟨(some 6), .mv (.t 50), none⟩] []) (.seq (.block 0 (.seq (.region false [ ⟨(some 68), .mv (.t 4), none⟩, ⟨(some 69), .callf 35 [(.t 68)], none⟩, ⟨(some 70), .bin .eql (.t 69) (.c (.d (.int .i64 2))), none⟩, ⟨(some 67), .mv (.t 70), none⟩] []) (.cond (.t 67) (.region false [ ⟨(some 71), .mv (.t 0), none⟩, ⟨(some 72), .mv (.t 0), none⟩, ⟨(some 73), .nilck (.t 72), none⟩, ⟨(some 74), .faddr (.t 73) 1, none⟩, ⟨(some 75), .load none (.t 74), none⟩, ⟨(some 76), .callf 36 [(.t 71), (.t 75)], none⟩, ⟨(some 77), .faddr (.t 5) 0, none⟩, ⟨none, .store 1 (.t 77) (.c (.d (.int .i64 1))), none⟩, ⟨(some 6), .mv (.t 76), none⟩] []) (.seq (.region false [ ⟨(some 79), .mv (.t 4), none⟩, ⟨(some 80), .callf 35 [(.t 79)], none⟩, ⟨(some 81), .bin .eql (.t 80) (.c (.d (.int .i64 3))), none⟩, ⟨(some 82), .mv (.t 81), none⟩, ⟨(some 83), .mv (.t 4), (some (82, false))⟩, ⟨(some 84), .bin .eql (.t 83) (.c (.d (.int .u8 45))), (some (82, false))⟩, ⟨(some 85), .mv (.t 84), (some (82, false))⟩, ⟨(some 86), .mv (.t 0), (some (85, true))⟩, ⟨(some 87), .mv (.t 0), (some (85, true))⟩, ⟨(some 88), .nilck (.t 87), (some (85, true))⟩, ⟨(some 89), .faddr (.t 88) 1, (some (85, true))⟩, ⟨(some 90), .load none (.t 89), (some (85, true))⟩, ⟨(some 91), .bin .add (.t 90) (.c (.d (.int .i64 1))), (some (85, true))⟩, ⟨(some 92), .callf 34 [(.t 86), (.t 91)], (some (85, true))⟩, ⟨(some 93), .callf 35 [(.t 92)], (some (85, true))⟩, ⟨(some 94), .bin .eql (.t 93) (.c (.d (.int .i64 3))), (some (85, true))⟩, ⟨(some 95), .pick (.t 85) (.t 94) (.c (.d (.bool false))), (some (82, false))⟩, ⟨(some 96), .pick (.t 82) (.c (.d (.bool true))) (.t 95), none⟩, ⟨(some 78), .mv (.t 96), none⟩] []) (.cond (.t 78) (.seq (.region false [ ⟨(some 97), .mv (.t 0), none⟩, ⟨(some 98), .mv (.t 0), none⟩, ⟨(some 99), .nilck (.t 98), none⟩, ⟨(some 100), .faddr (.t 99) 1, none⟩, ⟨(some 101), .load none (.t 100), none⟩, ⟨(some 102), .bin .add (.t 101) (.c (.d (.int .i64 1))), none⟩, ⟨(some 103), .callf 36 [(.t 97), (.t 102)], none⟩, ⟨(some 104), .faddr (.t 5) 0, none⟩, ⟨none, .store 1 (.t 104) (.c (.d (.int .i64 2))), none⟩, ⟨(some 6), .mv (.t 103), none⟩] []) (.seq (.region true [ ⟨(some 106), .mv (.t 0), none⟩, ⟨(some 107), .nilck (.t 106), none⟩, ⟨(some 108), .faddr (.t 107) 0, none⟩, ⟨(some 109), .load none (.t 108), none⟩, ⟨(some 110), .mv (.t 0), none⟩, ⟨(some 111), .nilck (.t 110), none⟩, ⟨(some 112), .faddr (.t 111) 1, none⟩, ⟨(some 113), .load none (.t 112), none⟩, ⟨(some 114), .mv (.t 6), none⟩, ⟨(some 115), .slcs (.t 109) (some (.t 113)) (some (.t 114)), none⟩, ⟨(some 116), .callf 37 [(.t 115)], none⟩, ⟨(some 105), .mv (.t 116), none⟩, ⟨(some 117), .ext (.t 105) 0, none⟩, ⟨(some 118), .ext (.t 105) 1, none⟩, ⟨(some 7), .mv (.t 117), none⟩, ⟨(some 8), .mv (.t 118), none⟩] [0, 1, 2, 4, 0, 16, 32, 64, 0, 392, 512, 1024, 2048, 2048, 8191, 32767]) (.seq (.region false [ ⟨(some 119), .mv (.t 8), none⟩, ⟨(some 120), .un .not (.t 119), none⟩] []) (.cond (.t 120) (.seq (.region false [ ⟨(some 121), .mv (.t 0), none⟩, ⟨(some 122), .callf 38 [(.t 121), (.c (.d (.int .i64 5)))], none⟩, ⟨(some 123), .ext (.t 122) 0, none⟩, ⟨(some 124), .ext (.t 122) 1, none⟩, ⟨none, .store 3 (.t 2) (.t 123), none⟩, ⟨none, .store 2 (.t 3) (.t 124), none⟩] []) .ret) .skip)))) (.seq (.region false [ ⟨(some 51), .mv (.t 0), none⟩, ⟨(some 52), .callf 39 [(.t 51)], none⟩, ⟨(some 9), .mv (.t 52), none⟩] []) (.seq (.seq (.region false [ ⟨(some 53), .mv (.t 9), none⟩, ⟨(some 54), .bin .eql (.t 53) (.c (.d (.str []))), none⟩] []) (.cond (.t 54) (.seq (.region false [ ⟨(some 55), .mv (.t 0), none⟩, ⟨(some 56), .callf 38 [(.t 55), (.c (.d (.int .i64 4)))], none⟩, ⟨(some 57), .ext (.t 56) 0, none⟩, ⟨(some 58), .ext (.t 56) 1, none⟩, ⟨none, .store 3 (.t 2) (.t 57), none⟩, ⟨none, .store 2 (.t 3) (.t 58), none⟩] []) .ret) .skip)) (.region true [ ⟨(some 59), .mv (.t 0), none⟩, ⟨(some 60), .nilck (.t 59), none⟩, ⟨(some 61), .faddr (.t 60) 1, none⟩, ⟨(some 62), .load none (.t 61), none⟩, ⟨(some 63), .mv (.t 9), none⟩, ⟨(some 64), .lens (.t 63), none⟩, ⟨(some 65), .bin .add (.t 62) (.t 64), none⟩, ⟨(some 66), .faddr (.t 5) 0, none⟩, ⟨none, .store 1 (.t 66) (.c (.d (.int .i64 3))), none⟩, ⟨(some 6), .mv (.t 65), none⟩] [0, 1, 2, 4, 0, 16, 40, 0, 128, 511])))))))) (.seq (.region true [ ⟨(some 125), .mv (.t 0), none⟩, ⟨(some 126), .mv (.t 0), none⟩, ⟨(some 127), .nilck (.t 126), none⟩, ⟨(some 128), .faddr (.t 127) 0, none⟩, ⟨(some 129), .load none (.t 128), none⟩, ⟨(some 130), .mv (.t 0), none⟩, ⟨(some 131), .nilck (.t 130), none⟩, ⟨(some 132), .faddr (.t 131) 1, none⟩, ⟨(some 133), .load none (.t 132), none⟩, ⟨(some 134), .mv (.t 6), none⟩, ⟨(some 135), .slcs (.t 129) (some (.t 133)) (some (.t 134)), none⟩, ⟨(some 136), .mv (.t 6), none⟩, ⟨(some 137), .faddr (.t 5) 1, none⟩, ⟨none, .store 1 (.t 137) (.t 135), none⟩, ⟨(some 138), .nilck (.t 125), none⟩, ⟨(some 139), .faddr (.t 138) 1, none⟩, ⟨none, .store 1 (.t 139) (.t 136), none⟩] [0, 0, 2, 4, 8, 0, 32, 64, 128, 0, 784, 0, 2046, 6142, 16383, 32767, 49151]) (.seq (.region false [ ⟨(some 140), .load (some 3) (.t 5), none⟩, ⟨(some 141), .build [(.d (.int .i64 0)), (.d (.int .i64 0))] [], none⟩, ⟨none, .store 3 (.t 2) (.t 140), none⟩, ⟨none, .store 2 (.t 3) (.t 141), none⟩] []) .ret))))))))))
theorem ac22_ok : Tryd.f22.body.bind (cCode Tryd.prog Tryd.f22.ntmps) = some ac22 := by kernel_rfl
-- 23 jacquard/jacquardref2.Next
-- 31 jacquard/lex.Long
def ac31 : ACode := (.seq (.region false [ ⟨(some 2), .alloc [(.d (.int .i64 0)), (.d (.int .i64 0))], none⟩] []) (.seq (.seq (.region false [ ⟨(some 3), .mv (.t 0), none⟩, ⟨(some 4), .lens (.t 3), none⟩, ⟨(some 5), .bin .gtr (.t 4) (.c (.d (.int .i64 4000))), none⟩] []) (.cond (.t 5) (.seq (.region false [ ⟨(some 6), .build [(.d (.int .i64 0)), (.d (.int .i64 0))] [(0, 1, (.c (.d (.int .i64 2)))), (1, 1, (.c (.d (.int .i64 4000))))], none⟩, ⟨none, .store 2 (.t 2) (.t 6), none⟩] []) .ret) .skip)) (.seq (.region false [ ⟨(some 7), .build [(.d (.int .i64 0)), (.d (.int .i64 0))] [], none⟩, ⟨none, .store 2 (.t 2) (.t 7), none⟩] []) .ret)))
theorem ac31_ok : Tryd.f31.body.bind (cCode Tryd.prog Tryd.f31.ntmps) = some ac31 := by kernel_rfl
-- 32 (*jacquard/lex.Lexer).skip
def ac32L0 : ACode := (.seq (.seq (.region false [ ⟨(some 18), .mv (.t 0), none⟩, ⟨(some 19), .mv (.t 0), none⟩, ⟨(some 20), .nilck (.t 19), none⟩, ⟨(some 21), .faddr (.t 20) 1, none⟩, ⟨(some 22), .load none (.t 21), none⟩, ⟨(some 23), .callf 33 [(.t 18), (.t 22)], none⟩, ⟨(some 24), .mv (.t 23), none⟩, ⟨(some 25), .mv (.t 0), (some (24, true))⟩, ⟨(some 26), .mv (.t 0), (some (24, true))⟩, ⟨(some 27), .nilck (.t 26), (some (24, true))⟩, ⟨(some 28), .faddr (.t 27) 1, (some (24, true))⟩, ⟨(some 29), .load none (.t 28), (some (24, true))⟩, ⟨(some 30), .callf 34 [(.t 25), (.t 29)], (some (24, true))⟩, ⟨(some 31), .bin .neq (.t 30) (.c (.d (.int .u8 10))), (some (24, true))⟩, ⟨(some 32), .pick (.t 24) (.t 31) (.c (.d (.bool false))), none⟩] []) (.cond (.t 32) .skip (.exit 3))) (.block 4 (.region false [ ⟨(some 33), .mv (.t 0), none⟩, ⟨(some 34), .nilck (.t 33), none⟩, ⟨(some 35), .faddr (.t 34) 1, none⟩, ⟨(some 36), .load none (.t 35), none⟩, ⟨(some 37), .bin .add (.t 36) (.c (.d (.int .i64 1))), none⟩, ⟨(some 38), .nilck (.t 33), none⟩, ⟨(some 39), .faddr (.t 38) 1, none⟩, ⟨none, .store 1 (.t 39) (.t 37), none⟩] [])))
def ac32L1 : ACode := (.seq (.seq (.region false [ ⟨(some 3), .mv (.t 0), none⟩, ⟨(some 4), .mv (.t 0), none⟩, ⟨(some 5), .nilck (.t 4), none⟩, ⟨(some 6), .faddr (.t 5) 1, none⟩, ⟨(some 7), .load none (.t 6), none⟩, ⟨(some 8), .callf 33 [(.t 3), (.t 7)], none⟩] []) (.cond (.t 8) .skip (.exit 0))) (.block 1 (.seq (.region false [ ⟨(some 9), .mv (.t 0), none⟩, ⟨(some 10), .mv (.t 0), none⟩, ⟨(some 11), .nilck (.t 10), none⟩, ⟨(some 12), .faddr (.t 11) 1, none⟩, ⟨(some 13), .load none (.t 12), none⟩, ⟨(some 14), .callf 34 [(.t 9), (.t 13)], none⟩, ⟨(some 2), .mv (.t 14), none⟩] []) (.block 2 (.seq (.region false [ ⟨(some 16), .mv (.t 2), none⟩, ⟨(some 17), .bin .eql (.t 16) (.c (.d (.int .u8 35))), none⟩, ⟨(some 15), .mv (.t 17), none⟩] []) (.cond (.t 15) (.block 3 (.loop ac32L0)) (.seq (.region false [ ⟨(some 41), .mv (.t 2), none⟩, ⟨(some 42), .callf 35 [(.t 41)], none⟩, ⟨(some 43), .bin .eql (.t 42) (.c (.d (.int .i64 1))), none⟩, ⟨(some 40), .mv (.t 43), none⟩] []) (.cond (.t 40) (.region false [ ⟨(some 44), .mv (.t 0), none⟩, ⟨(some 45), .nilck (.t 44), none⟩, ⟨(some 46), .faddr (.t 45) 1, none⟩, ⟨(some 47), .load none (.t 46), none⟩, ⟨(some 48), .bin .add (.t 47) (.c (.d (.int .i64 1))), none⟩, ⟨(some 49), .nilck (.t 44), none⟩, ⟨(some 50), .faddr (.t 49) 1, none⟩, ⟨none, .store 1 (.t 50) (.t 48), none⟩] []) .ret))))))))
def ac32 : ACode := (.block 0 (.loop ac32L1))
theorem ac32_ok : Tryd.f32.body.bind (cCode Tryd.prog Tryd.f32.ntmps) = some ac32 := by kernel_rfl
-- 33 (*jacquard/lex.Lexer).has
def ac33 : ACode := (.seq (.region false [ ⟨(some 4), .mv (.c (.d (.bool false))), none⟩] []) (.seq (.region false [ ⟨(some 5), .mv (.t 1), none⟩, ⟨(some 6), .mv (.t 0), none⟩, ⟨(some 7), .nilck (.t 6), none⟩, ⟨(some 8), .faddr (.t 7) 0, none⟩, ⟨(some 9), .load none (.t 8), none⟩, ⟨(some 10), .lens (.t 9), none⟩, ⟨(some 11), .bin .lss (.t 5) (.t 10), none⟩, ⟨(some 4), .mv (.t 11), none⟩] []) .ret))
theorem ac33_ok : Tryd.f33.body.bind (cCode Tryd.prog Tryd.f33.ntmps) = some ac33 := by kernel_rfl
-- 34 (*jacquard/lex.Lexer).peek
def ac34 : ACode := (.seq (.region false [ ⟨(some 4), .mv (.c (.d (.int .u8 0))), none⟩] []) (.seq (.seq (.region false [ ⟨(some 5), .mv (.t 1), none⟩, ⟨(some 6), .mv (.t 0), none⟩, ⟨(some 7), .nilck (.t 6), none⟩, ⟨(some 8), .faddr (.t 7) 0, none⟩, ⟨(some 9), .load none (.t 8), none⟩, ⟨(some 10), .lens (.t 9), none⟩, ⟨(some 11), .bin .geq (.t 5) (.t 10), none⟩] []) (.cond (.t 11) (.seq (.region false [ ⟨(some 4), .mv (.c (.d (.int .u8 0))), none⟩] []) .ret) .skip)) (.seq (.region false [ ⟨(some 12), .mv (.t 0), none⟩, ⟨(some 13), .mv (.t 0), none⟩, ⟨(some 14), .nilck (.t 13), none⟩, ⟨(some 15), .faddr (.t 14) 2, none⟩, ⟨(some 16), .load none (.t 15), none⟩, ⟨(some 17), .mv (.t 1), none⟩, ⟨(some 18), .bin .add (.t 17) (.c (.d (.int .i64 1))), none⟩, ⟨(some 19), .maxI (.t 16) (.t 18), none⟩, ⟨(some 20), .nilck (.t 12), none⟩, ⟨(some 21), .faddr (.t 20) 2, none⟩, ⟨none, .store 1 (.t 21) (.t 19), none⟩] []) (.seq (.region false [ ⟨(some 22), .mv (.t 0), none⟩, ⟨(some 23), .nilck (.t 22), none⟩, ⟨(some 24), .faddr (.t 23) 0, none⟩, ⟨(some 25), .load none (.t 24), none⟩, ⟨(some 26), .mv (.t 1), none⟩, ⟨(some 27), .idxs (.t 25) (.t 26), none⟩, ⟨(some 4), .mv (.t 27), none⟩] []) .ret))))
theorem ac34_ok : Tryd.f34.body.bind (cCode Tryd.prog Tryd.f34.ntmps) = some ac34 := by kernel_rfl
-- 35 jacquard/lex.kind
def ac35 : ACode := (.seq (.region false [ ⟨(some 2), .mv (.c (.d (.int .i64 0))), none⟩] []) (.seq (.block 0 (.seq (.region false [ ⟨(some 4), .mv (.t 0), none⟩, ⟨(some 5), .bin .eql (.t 4) (.c (.d (.int .u8 32))), none⟩, ⟨(some 6), .mv (.t 5), none⟩, ⟨(some 7), .mv (.t 0), (some (6, false))⟩, ⟨(some 8), .bin .eql (.t 7) (.c (.d (.int .u8 9))), (some (6, false))⟩, ⟨(some 9), .pick (.t 6) (.c (.d (.bool true))) (.t 8), none⟩, ⟨(some 10), .mv (.t 9), none⟩, ⟨(some 11), .mv (.t 0), (some (10, false))⟩, ⟨(some 12), .bin .eql (.t 11) (.c (.d (.int .u8 10))), (some (10, false))⟩, ⟨(some 13), .pick (.t 10) (.c (.d (.bool true))) (.t 12), none⟩, ⟨(some 3), .mv (.t 13), none⟩] []) (.cond (.t 3) (.seq (.region false [ ⟨(some 2), .mv (.c (.d (.int .i64 1))), none⟩] []) .ret) (.seq (.region false [ ⟨(some 15), .mv (.t 0), none⟩, ⟨(some 16), .bin .geq (.t 15) (.c (.d (.int .u8 97))), none⟩, ⟨(some 17), .mv (.t 16), none⟩, ⟨(some 18), .mv (.t 0), (some (17, true))⟩, ⟨(some 19), .bin .leq (.t 18) (.c (.d (.int .u8 122))), (some (17, true))⟩, ⟨(some 20), .pick (.t 17) (.t 19) (.c (.d (.bool false))), none⟩, ⟨(some 14), .mv (.t 20), none⟩] []) (.cond (.t 14) (.seq (.region false [ ⟨(some 2), .mv (.c (.d (.int .i64 2))), none⟩] []) .ret) (.seq (.region false [ ⟨(some 22), .mv (.t 0), none⟩, ⟨(some 23), .bin .geq (.t 22) (.c (.d (.int .u8 48))), none⟩, ⟨(some 24), .mv (.t 23), none⟩, ⟨(some 25), .mv (.t 0), (some (24, true))⟩, ⟨(some 26), .bin .leq (.t 25) (.c (.d (.int .u8 57))), (some (24, true))⟩, ⟨(some 27), .pick (.t 24) (.t 26) (.c (.d (.bool false))), none⟩, ⟨(some 21), .mv (.t 27), none⟩] []) (.cond (.t 21) (.seq (.region false [ ⟨(some 2), .mv (.c (.d (.int .i64 3))), none⟩] []) .ret) .skip))))))) (.seq (.region false [ ⟨(some 2), .mv (.c (.d (.int .i64 0))), none⟩] []) .ret)))
theorem ac35_ok : Tryd.f35.body.bind (cCode Tryd.prog Tryd.f35.ntmps) = some ac35 := by kernel_rfl
-- 36 (*jacquard/lex.Lexer).run
def ac36L0 : ACode := (.seq (.seq (.region false [ ⟨(some 5), .mv (.t 0), none⟩, ⟨(some 6), .mv (.t 1), none⟩, ⟨(some 7), .callf 33 [(.t 5), (.t 6)], none⟩, ⟨(some 8), .mv (.t 7), none⟩, ⟨(some 9), .mv (.t 0), (some (8, true))⟩, ⟨(some 10), .mv (.t 1), (some (8, true))⟩, ⟨(some 11), .callf 34 [(.t 9), (.t 10)], (some (8, true))⟩, ⟨(some 12), .callf 35 [(.t 11)], (some (8, true))⟩, ⟨(some 13), .bin .geq (.t 12) (.c (.d (.int .i64 2))), (some (8, true))⟩, ⟨(some 14), .pick (.t 8) (.t 13) (.c (.d (.bool false))), none⟩] []) (.cond (.t 14) .skip (.exit 0))) (.block 1 (.region false [ ⟨(some 15), .mv (.t 1), none⟩, ⟨(some 16), .bin .add (.t 15) (.c (.d (.int .i64 1))), none⟩, ⟨(some 1), .mv (.t 16), none⟩] [])))
def ac36 : ACode := (.seq (.region false [ ⟨(some 4), .mv (.c (.d (.int .i64 0))), none⟩] []) (.seq (.block 0 (.loop ac36L0)) (.seq (.region false [ ⟨(some 17), .mv (.t 1), none⟩, ⟨(some 4), .mv (.t 17), none⟩] []) .ret)))
theorem ac36_ok : Tryd.f36.body.bind (cCode Tryd.prog Tryd.f36.ntmps) = some ac36 := by kernel_rfl
-- 38 (*jacquard/lex.Lexer).fail
def ac38 : ACode := (.seq (.region false [ ⟨(some 4), .alloc [(.d (.int .i64 0)), (.d (.str [])), (.d (.int .i64 0))], none⟩, ⟨(some 5), .alloc [(.d (.int .i64 0)), (.d (.int .i64 0))], none⟩] []) (.seq (.region false [ ⟨(some 6), .mv (.t 0), none⟩, ⟨(some 7), .mv (.t 1), none⟩, ⟨(some 8), .mv (.t 0), none⟩, ⟨(some 9), .nilck (.t 8), none⟩, ⟨(some 10), .faddr (.t 9) 1, none⟩, ⟨(some 11), .load none (.t 10), none⟩, ⟨(some 12), .build [(.d (.int .i64 0)), (.d (.int .i64 0))] [(0, 1, (.t 7)), (1, 1, (.t 11))], none⟩, ⟨(some 13), .nilck (.t 6), none⟩, ⟨(some 14), .faddr (.t 13) 3, none⟩, ⟨none, .store 2 (.t 14) (.t 12), none⟩] []) (.seq (.region true [ ⟨(some 15), .build [(.d (.int .i64 0)), (.d (.str [])), (.d (.int .i64 0))] [], none⟩, ⟨(some 16), .mv (.t 0), none⟩, ⟨(some 17), .nilck (.t 16), none⟩, ⟨(some 18), .faddr (.t 17) 3, none⟩, ⟨(some 19), .load (some 2) (.t 18), none⟩, ⟨none, .store 3 (.t 4) (.t 15), none⟩, ⟨none, .store 2 (.t 5) (.t 19), none⟩] [0, 0, 2, 4, 8, 1, 63]) .ret)))
theorem ac38_ok : Tryd.f38.body.bind (cCode Tryd.prog Tryd.f38.ntmps) = some ac38 := by kernel_rfl
-- 39 (*jacquard/lex.Lexer).sign
def ac39 : ACode := (.seq (.region false [ ⟨(some 2), .mv (.c (.d (.str []))), none⟩] []) (.seq (.region false [ ⟨(some 6), .mv (.t 0), none⟩, ⟨(some 7), .mv (.t 0), none⟩, ⟨(some 8), .nilck (.t 7), none⟩, ⟨(some 9), .faddr (.t 8) 1, none⟩, ⟨(some 10), .load none (.t 9), none⟩, ⟨(some 11), .callf 34 [(.t 6), (.t 10)], none⟩, ⟨(some 3), .mv (.t 11), none⟩] []) (.seq (.seq (.region false [ ⟨(some 12), .mv (.t 3), none⟩] []) (.block 0 (.seq (.seq (.region false [ ⟨(some 14), .bin .eql (.t 12) (.c (.d (.int .u8 60))), none⟩, ⟨(some 13), .mv (.t 14), none⟩] []) (.cond (.t 13) .skip (.seq (.region false [ ⟨(some 15), .bin .eql (.t 12) (.c (.d (.int .u8 62))), none⟩, ⟨(some 13), .mv (.t 15), none⟩] []) (.cond (.t 13) .skip (.seq (.region false [ ⟨(some 16), .bin .eql (.t 12) (.c (.d (.int .u8 61))), none⟩, ⟨(some 13), .mv (.t 16), none⟩] []) (.cond (.t 13) .skip (.region false [ ⟨(some 17), .bin .eql (.t 12) (.c (.d (.int .u8 33))), none⟩, ⟨(some 13), .mv (.t 17), none⟩] []))))))) (.cond (.t 13) (.seq (.region false [ ⟨(some 18), .mv (.t 0), none⟩, ⟨(some 19), .mv (.t 0), none⟩, ⟨(some 20), .nilck (.t 19), none⟩, ⟨(some 21), .faddr (.t 20) 1, none⟩, ⟨(some 22), .load none (.t 21), none⟩, ⟨(some 23), .bin .add (.t 22) (.c (.d (.int .i64 1))), none⟩, ⟨(some 24), .callf 34 [(.t 18), (.t 23)], none⟩, ⟨(some 4), .mv (.t 24), none⟩] []) (.seq (.region false [ ⟨(some 25), .mv (.t 3), none⟩, ⟨(some 26), .bin .eql (.t 25) (.c (.d (.int .u8 60))), none⟩, ⟨(some 27), .mv (.t 26), none⟩, ⟨(some 28), .mv (.t 4), (some (27, true))⟩, ⟨(some 29), .bin .eql (.t 28) (.c (.d (.int .u8 60))), (some (27, true))⟩, ⟨(some 30), .pick (.t 27) (.t 29) (.c (.d (.bool false))), none⟩, ⟨(some 31), .mv (.t 30), none⟩, ⟨(some 32), .mv (.t 3), (some (31, false))⟩, ⟨(some 33), .bin .eql (.t 32) (.c (.d (.int .u8 62))), (some (31, false))⟩, ⟨(some 34), .mv (.t 33), (some (31, false))⟩, ⟨(some 35), .mv (.t 4), (some (34, true))⟩, ⟨(some 36), .bin .eql (.t 35) (.c (.d (.int .u8 62))), (some (34, true))⟩, ⟨(some 37), .pick (.t 34) (.t 36) (.c (.d (.bool false))), (some (31, false))⟩, ⟨(some 38), .pick (.t 31) (.c (.d (.bool true))) (.t 37), none⟩, ⟨(some 39), .mv (.t 38), none⟩, ⟨(some 40), .mv (.t 3), (some (39, false))⟩, ⟨(some 41), .bin .eql (.t 40) (.c (.d (.int .u8 61))), (some (39, false))⟩, ⟨(some 42), .mv (.t 41), (some (39, false))⟩, ⟨(some 43), .mv (.t 3), (some (42, false))⟩, ⟨(some 44), .bin .eql (.t 43) (.c (.d (.int .u8 33))), (some (42, false))⟩, ⟨(some 45), .pick (.t 42) (.c (.d (.bool true))) (.t 44), (some (39, false))⟩, ⟨(some 46), .mv (.t 45), (some (39, false))⟩, ⟨(some 47), .mv (.t 4), (some (46, true))⟩, ⟨(some 48), .bin .eql (.t 47) (.c (.d (.int .u8 61))), (some (46, true))⟩, ⟨(some 49), .pick (.t 46) (.t 48) (.c (.d (.bool false))), (some (39, false))⟩, ⟨(some 50), .pick (.t 39) (.c (.d (.bool true))) (.t 49), none⟩, ⟨(some 5), .mv (.t 50), none⟩] []) (.seq (.block 1 (.seq (.region false [ ⟨(some 52), .mv (.t 5), none⟩, ⟨(some 51), .mv (.t 52), none⟩] []) (.cond (.t 51) (.seq (.region true [ ⟨(some 53), .mv (.t 0), none⟩, ⟨(some 54), .nilck (.t 53), none⟩, ⟨(some 55), .faddr (.t 54) 0, none⟩, ⟨(some 56), .load none (.t 55), none⟩, ⟨(some 57), .mv (.t 0), none⟩, ⟨(some 58), .nilck (.t 57), none⟩, ⟨(some 59), .faddr (.t 58) 1, none⟩, ⟨(some 60), .load none (.t 59), none⟩, ⟨(some 61), .mv (.t 0), none⟩, ⟨(some 62), .nilck (.t 61), none⟩, ⟨(some 63), .faddr (.t 62) 1, none⟩, ⟨(some 64), .load none (.t 63), none⟩, ⟨(some 65), .bin .add (.t 64) (.c (.d (.int .i64 2))), none⟩, ⟨(some 66), .slcs (.t 56) (some (.t 60)) (some (.t 65)), none⟩, ⟨(some 2), .mv (.t 66), none⟩] [0, 1, 2, 4, 0, 16, 32, 64, 0, 256, 512, 1024, 2048, 4232, 16383]) .ret) (.seq (.region false [ ⟨(some 68), .mv (.t 3), none⟩, ⟨(some 69), .bin .eql (.t 68) (.c (.d (.int .u8 62))), none⟩, ⟨(some 70), .mv (.t 69), none⟩, ⟨(some 71), .mv (.t 3), (some (70, false))⟩, ⟨(some 72), .bin .eql (.t 71) (.c (.d (.int .u8 33))), (some (70, false))⟩, ⟨(some 73), .pick (.t 70) (.c (.d (.bool true))) (.t 72), none⟩, ⟨(some 67), .mv (.t 73), none⟩] []) (.cond (.t 67) (.seq (.region false [ ⟨(some 2), .mv (.c (.d (.str []))), none⟩] []) .ret) .skip))))) (.seq (.region false [ ⟨(some 74), .mv (.t 3), none⟩, ⟨(some 75), .cvrune (.t 74), none⟩, ⟨(some 2), .mv (.t 75), none⟩] []) .ret)))) .skip)))) (.seq (.seq (.region false [ ⟨(some 76), .mv (.t 3), none⟩, ⟨(some 77), .bin .neq (.t 76) (.c (.d (.int .u8 0))), none⟩, ⟨(some 78), .mv (.t 77), none⟩, ⟨(some 79), .mv (.t 3), (some (78, true))⟩, ⟨(some 80), .callf 70 [(.c (.d (.str [123, 125, 59, 58, 43, 45, 42, 38, 124, 94]))), (.t 79)], (some (78, true))⟩, ⟨(some 81), .bin .geq (.t 80) (.c (.d (.int .i64 0))), (some (78, true))⟩, ⟨(some 82), .pick (.t 78) (.t 81) (.c (.d (.bool false))), none⟩] []) (.cond (.t 82) (.seq (.region false [ ⟨(some 83), .mv (.t 3), none⟩, ⟨(some 84), .cvrune (.t 83), none⟩, ⟨(some 2), .mv (.t 84), none⟩] []) .ret) .skip)) (.seq (.region false [ ⟨(some 2), .mv (.c (.d (.str []))), none⟩] []) .ret)))))
theorem ac39_ok : Tryd.f39.body.bind (cCode Tryd.prog Tryd.f39.ntmps) = some ac39 := by kernel_rfl
-- 40 jacquard/jacquardref2.skip
-- 41 jacquard/jacquardref2.letter
def ac41 : ACode := (.seq (.region false [ ⟨(some 2), .mv (.c (.d (.bool false))), none⟩] []) (.seq (.region false [ ⟨(some 3), .mv (.t 0), none⟩, ⟨(some 4), .bin .geq (.t 3) (.c (.d (.int .u8 97))), none⟩, ⟨(some 5), .mv (.t 4), none⟩, ⟨(some 6), .mv (.t 0), (some (5, true))⟩, ⟨(some 7), .bin .leq (.t 6) (.c (.d (.int .u8 122))), (some (5, true))⟩, ⟨(some 8), .pick (.t 5) (.t 7) (.c (.d (.bool false))), none⟩, ⟨(some 2), .mv (.t 8), none⟩] []) .ret))
theorem ac41_ok : Tryd.f41.body.bind (cCode Tryd.prog Tryd.f41.ntmps) = some ac41 := by kernel_rfl
-- 42 jacquard/jacquardref2.digit
def ac42 : ACode := (.seq (.region false [ ⟨(some 2), .mv (.c (.d (.bool false))), none⟩] []) (.seq (.region false [ ⟨(some 3), .mv (.t 0), none⟩, ⟨(some 4), .bin .geq (.t 3) (.c (.d (.int .u8 48))), none⟩, ⟨(some 5), .mv (.t 4), none⟩, ⟨(some 6), .mv (.t 0), (some (5, true))⟩, ⟨(some 7), .bin .leq (.t 6) (.c (.d (.int .u8 57))), (some (5, true))⟩, ⟨(some 8), .pick (.t 5) (.t 7) (.c (.d (.bool false))), none⟩, ⟨(some 2), .mv (.t 8), none⟩] []) .ret))
theorem ac42_ok : Tryd.f42.body.bind (cCode Tryd.prog Tryd.f42.ntmps) = some ac42 := by kernel_rfl
-- 43 jacquard/jacquardref2.Parse
-- 69 jacquard/num.Text
-- 83 jacquard/jacquardref2.InsOk
def ac83 : ACode := (.seq (.region false [ ⟨(some 1), .box (.t 0), none⟩, ⟨(some 2), .mv (.c (.d (.bool false))), none⟩] []) (.seq (.region false [ ⟨(some 4), .build [(.d (.int .i64 0)), (.d (.int .i64 0))] [], none⟩, ⟨(some 3), .alloc [(.d (.int .i64 0)), (.d (.int .i64 0))], none⟩, ⟨none, .store 2 (.t 3) (.t 4), none⟩] []) (.seq (.seq (.region false [ ⟨(some 5), .faddr (.t 1) 0, none⟩, ⟨(some 6), .load none (.t 5), none⟩] []) (.block 0 (.seq (.region false [ ⟨(some 8), .bin .eql (.t 6) (.c (.d (.int .i64 1))), none⟩, ⟨(some 7), .mv (.t 8), none⟩] []) (.cond (.t 7) (.seq (.region false [ ⟨(some 9), .faddr (.t 1) 1, none⟩, ⟨(some 10), .load none (.t 9), none⟩, ⟨(some 11), .bin .eql (.t 10) (.c (.d (.int .i64 0))), none⟩, ⟨(some 12), .mv (.t 11), none⟩, ⟨(some 13), .faddr (.t 1) 2, (some (12, true))⟩, ⟨(some 14), .load none (.t 13), (some (12, true))⟩, ⟨(some 15), .callf 82 [(.t 14)], (some (12, true))⟩, ⟨(some 16), .pick (.t 12) (.t 15) (.c (.d (.bool false))), none⟩, ⟨(some 17), .mv (.t 16), none⟩, ⟨(some 18), .faddr (.t 1) 3, (some (17, true))⟩, ⟨(some 19), .load (some 2) (.t 18), (some (17, true))⟩, ⟨(some 20), .callf 96 [(.t 19)], (some (17, true))⟩, ⟨(some 21), .pick (.t 17) (.t 20) (.c (.d (.bool false))), none⟩, ⟨(some 22), .mv (.t 21), none⟩, ⟨(some 23), .faddr (.t 1) 5, (some (22, true))⟩, ⟨(some 24), .load none (.t 23), (some (22, true))⟩, ⟨(some 25), .bin .eql (.t 24) (.c (.d (.int .i64 0))), (some (22, true))⟩, ⟨(some 26), .pick (.t 22) (.t 25) (.c (.d (.bool false))), none⟩, ⟨(some 27), .mv (.t 26), none⟩, ⟨(some 28), .faddr (.t 1) 6, (some (27, true))⟩, ⟨(some 29), .load (some 2) (.t 28), (some (27, true))⟩, ⟨(some 30), .load (some 2) (.t 3), (some (27, true))⟩, ⟨(some 31), .eqs [0, 0] false (.t 29) (.t 30), (some (27, true))⟩, ⟨(some 32), .pick (.t 27) (.t 31) (.c (.d (.bool false))), none⟩, ⟨(some 33), .mv (.t 32), none⟩, ⟨(some 34), .faddr (.t 1) 8, (some (33, true))⟩, ⟨(some 35), .load none (.t 34), (some (33, true))⟩, ⟨(some 36), .bin .eql (.t 35) (.c (.d (.int .i64 0))), (some (33, true))⟩, ⟨(some 37), .pick (.t 33) (.t 36) (.c (.d (.bool false))), none⟩, ⟨(some 2), .mv (.t 37), none⟩] []) .ret) (.seq (.region false [ ⟨(some 39), .bin .eql (.t 6) (.c (.d (.int .i64 2))), none⟩, ⟨(some 38), .mv (.t 39), none⟩] []) (.cond (.t 38) (.seq (.region false [ ⟨(some 40), .faddr (.t 1) 1, none⟩, ⟨(some 41), .load none (.t 40), none⟩, ⟨(some 42), .bin .geq (.t 41) (.c (.d (.int .i64 0))), none⟩, ⟨(some 43), .mv (.t 42), none⟩, ⟨(some 44), .faddr (.t 1) 1, (some (43, true))⟩, ⟨(some 45), .load none (.t 44), (some (43, true))⟩, ⟨(some 46), .bin .leq (.t 45) (.c (.d (.int .i64 3))), (some (43, true))⟩, ⟨(some 47), .pick (.t 43) (.t 46) (.c (.d (.bool false))), none⟩, ⟨(some 48), .mv (.t 47), none⟩, ⟨(some 49), .faddr (.t 1) 2, (some (48, true))⟩, ⟨(some 50), .load none (.t 49), (some (48, true))⟩, ⟨(some 51), .callf 82 [(.t 50)], (some (48, true))⟩, ⟨(some 52), .pick (.t 48) (.t 51) (.c (.d (.bool false))), none⟩, ⟨(some 53), .mv (.t 52), none⟩, ⟨(some 54), .faddr (.t 1) 3, (some (53, true))⟩, ⟨(some 55), .load (some 2) (.t 54), (some (53, true))⟩, ⟨(some 56), .load (some 2) (.t 3), (some (53, true))⟩, ⟨(some 57), .eqs [0, 0] false (.t 55) (.t 56), (some (53, true))⟩, ⟨(some 58), .pick (.t 53) (.t 57) (.c (.d (.bool false))), none⟩, ⟨(some 59), .mv (.t 58), none⟩, ⟨(some 60), .faddr (.t 1) 5, (some (59, true))⟩, ⟨(some 61), .load none (.t 60), (some (59, true))⟩, ⟨(some 62), .bin .eql (.t 61) (.c (.d (.int .i64 0))), (some (59, true))⟩, ⟨(some 63), .pick (.t 59) (.t 62) (.c (.d (.bool false))), none⟩, ⟨(some 64), .mv (.t 63), none⟩, ⟨(some 65), .faddr (.t 1) 6, (some (64, true))⟩, ⟨(some 66), .load (some 2) (.t 65), (some (64, true))⟩, ⟨(some 67), .load (some 2) (.t 3), (some (64, true))⟩, ⟨(some 68), .eqs [0, 0] false (.t 66) (.t 67), (some (64, true))⟩, ⟨(some 69), .pick (.t 64) (.t 68) (.c (.d (.bool false))), none⟩, ⟨(some 70), .mv (.t 69), none⟩, ⟨(some 71), .faddr (.t 1) 8, (some (70, true))⟩, ⟨(some 72), .load none (.t 71), (some (70, true))⟩, ⟨(some 73), .bin .eql (.t 72) (.c (.d (.int .i64 0))), (some (70, true))⟩, ⟨(some 74), .pick (.t 70) (.t 73) (.c (.d (.bool false))), none⟩, ⟨(some 2), .mv (.t 74), none⟩] []) .ret) (.seq (.region false [ ⟨(some 76), .bin .eql (.t 6) (.c (.d (.int .i64 3))), none⟩, ⟨(some 75), .mv (.t 76), none⟩] []) (.cond (.t 75) (.seq (.region false [ ⟨(some 77), .load (some 9) (.t 1), none⟩, ⟨(some 78), .build [(.d (.int .i64 0)), (.d (.int .i64 0)), (.d (.int .i64 0)), (.d (.int .i64 0)), (.d (.int .i64 0)), (.d (.int .i64 0)), (.d (.int .i64 0)), (.d (.int .i64 0)), (.d (.int .i64 0))] [(0, 1, (.c (.d (.int .i64 3))))], none⟩, ⟨(some 79), .eqs [0, 0, 0, 0, 0, 0, 0, 0, 0] false (.t 77) (.t 78), none⟩, ⟨(some 2), .mv (.t 79), none⟩] []) .ret) (.seq (.region false [ ⟨(some 81), .bin .eql (.t 6) (.c (.d (.int .i64 4))), none⟩, ⟨(some 80), .mv (.t 81), none⟩] []) (.cond (.t 80) (.seq (.region false [ ⟨(some 82), .faddr (.t 1) 1, none⟩, ⟨(some 83), .load none (.t 82), none⟩, ⟨(some 84), .bin .geq (.t 83) (.c (.d (.int .i64 0))), none⟩, ⟨(some 85), .mv (.t 84), none⟩, ⟨(some 86), .faddr (.t 1) 1, (some (85, true))⟩, ⟨(some 87), .load none (.t 86), (some (85, true))⟩, ⟨(some 88), .bin .leq (.t 87) (.c (.d (.int .i64 3))), (some (85, true))⟩, ⟨(some 89), .pick (.t 85) (.t 88) (.c (.d (.bool false))), none⟩, ⟨(some 90), .mv (.t 89), none⟩, ⟨(some 91), .faddr (.t 1) 2, (some (90, true))⟩, ⟨(some 92), .load none (.t 91), (some (90, true))⟩, ⟨(some 93), .callf 82 [(.t 92)], (some (90, true))⟩, ⟨(some 94), .pick (.t 90) (.t 93) (.c (.d (.bool false))), none⟩, ⟨(some 95), .mv (.t 94), none⟩, ⟨(some 96), .faddr (.t 1) 3, (some (95, true))⟩, ⟨(some 97), .load (some 2) (.t 96), (some (95, true))⟩, ⟨(some 98), .callf 96 [(.t 97)], (some (95, true))⟩, ⟨(some 99), .pick (.t 95) (.t 98) (.c (.d (.bool false))), none⟩, ⟨(some 100), .mv (.t 99), none⟩, ⟨(some 101), .faddr (.t 1) 5, (some (100, true))⟩, ⟨(some 102), .load none (.t 101), (some (100, true))⟩, ⟨(some 103), .bin .eql (.t 102) (.c (.d (.int .i64 0))), (some (100, true))⟩, ⟨(some 104), .pick (.t 100) (.t 103) (.c (.d (.bool false))), none⟩, ⟨(some 105), .mv (.t 104), none⟩, ⟨(some 106), .faddr (.t 1) 6, (some (105, true))⟩, ⟨(some 107), .load (some 2) (.t 106), (some (105, true))⟩, ⟨(some 108), .callf 96 [(.t 107)], (some (105, true))⟩, ⟨(some 109), .pick (.t 105) (.t 108) (.c (.d (.bool false))), none⟩, ⟨(some 110), .mv (.t 109), none⟩, ⟨(some 111), .faddr (.t 1) 8, (some (110, true))⟩, ⟨(some 112), .load none (.t 111), (some (110, true))⟩, ⟨(some 113), .bin .eql (.t 112) (.c (.d (.int .i64 0))), (some (110, true))⟩, ⟨(some 114), .pick (.t 110) (.t 113) (.c (.d (.bool false))), none⟩, ⟨(some 2), .mv (.t 114), none⟩] []) .ret) (.seq (.region false [ ⟨(some 116), .bin .eql (.t 6) (.c (.d (.int .i64 5))), none⟩, ⟨(some 115), .mv (.t 116), none⟩] []) (.cond (.t 115) (.seq (.seq (.region false [ ⟨(some 117), .faddr (.t 1) 5, none⟩, ⟨(some 118), .load none (.t 117), none⟩, ⟨(some 119), .bin .eql (.t 118) (.c (.d (.int .i64 0))), none⟩, ⟨(some 120), .mv (.t 119), none⟩, ⟨(some 121), .faddr (.t 1) 6, (some (120, true))⟩, ⟨(some 122), .load (some 2) (.t 121), (some (120, true))⟩, ⟨(some 123), .build [(.d (.int .i64 0)), (.d (.int .i64 0))] [(0, 1, (.c (.d (.int .i64 (-1)))))], (some (120, true))⟩, ⟨(some 124), .eqs [0, 0] true (.t 122) (.t 123), (some (120, true))⟩, ⟨(some 125), .pick (.t 120) (.t 124) (.c (.d (.bool false))), none⟩] []) (.cond (.t 125) (.seq (.region false [ ⟨(some 2), .mv (.c (.d (.bool false))), none⟩] []) .ret) .skip)) (.seq (.region false [ ⟨(some 126), .faddr (.t 1) 1, none⟩, ⟨(some 127), .load none (.t 126), none⟩, ⟨(some 128), .bin .geq (.t 127) (.c (.d (.int .i64 0))), none⟩, ⟨(some 129), .mv (.t 128), none⟩, ⟨(some 130), .faddr (.t 1) 1, (some (129, true))⟩, ⟨(some 131), .load none (.t 130), (some (129, true))⟩, ⟨(some 132), .bin .leq (.t 131) (.c (.d (.int .i64 3))), (some (129, true))⟩, ⟨(some 133), .pick (.t 129) (.t 132) (.c (.d (.bool false))), none⟩, ⟨(some 134), .mv (.t 133), none⟩, ⟨(some 135), .faddr (.t 1) 2, (some (134, true))⟩, ⟨(some 136), .load none (.t 135), (some (134, true))⟩, ⟨(some 137), .bin .eql (.t 136) (.c (.d (.int .i64 0))), (some (134, true))⟩, ⟨(some 138), .pick (.t 134) (.t 137) (.c (.d (.bool false))), none⟩, ⟨(some 139), .mv (.t 138), none⟩, ⟨(some 140), .faddr (.t 1) 3, (some (139, true))⟩, ⟨(some 141), .load (some 2) (.t 140), (some (139, true))⟩, ⟨(some 142), .callf 96 [(.t 141)], (some (139, true))⟩, ⟨(some 143), .pick (.t 139) (.t 142) (.c (.d (.bool false))), none⟩, ⟨(some 144), .mv (.t 143), none⟩, ⟨(some 145), .faddr (.t 1) 5, (some (144, true))⟩, ⟨(some 146), .load none (.t 145), (some (144, true))⟩, ⟨(some 147), .bin .geq (.t 146) (.c (.d (.int .i64 0))), (some (144, true))⟩, ⟨(some 148), .pick (.t 144) (.t 147) (.c (.d (.bool false))), none⟩, ⟨(some 149), .mv (.t 148), none⟩, ⟨(some 150), .faddr (.t 1) 5, (some (149, true))⟩, ⟨(some 151), .load none (.t 150), (some (149, true))⟩, ⟨(some 152), .bin .leq (.t 151) (.c (.d (.int .i64 11))), (some (149, true))⟩, ⟨(some 153), .pick (.t 149) (.t 152) (.c (.d (.bool false))), none⟩, ⟨(some 154), .mv (.t 153), none⟩, ⟨(some 155), .faddr (.t 1) 6, (some (154, true))⟩, ⟨(some 156), .load (some 2) (.t 155), (some (154, true))⟩, ⟨(some 157), .callf 96 [(.t 156)], (some (154, true))⟩, ⟨(some 158), .pick (.t 154) (.t 157) (.c (.d (.bool false))), none⟩, ⟨(some 159), .mv (.t 158), none⟩, ⟨(some 160), .faddr (.t 1) 8, (some (159, true))⟩, ⟨(some 161), .load none (.t 160), (some (159, true))⟩, ⟨(some 162), .bin .eql (.t 161) (.c (.d (.int .i64 0))), (some (159, true))⟩, ⟨(some 163), .pick (.t 159) (.t 162) (.c (.d (.bool false))), none⟩, ⟨(some 2), .mv (.t 163), none⟩] []) .ret)) (.seq (.region false [ ⟨(some 165), .bin .eql (.t 6) (.c (.d (.int .i64 6))), none⟩, ⟨(some 164), .mv (.t 165), none⟩] []) (.cond (.t 164) (.seq (.region false [ ⟨(some 166), .faddr (.t 1) 1, none⟩, ⟨(some 167), .load none (.t 166), none⟩, ⟨(some 168), .bin .eql (.t 167) (.c (.d (.int .i64 0))), none⟩, ⟨(some 169), .mv (.t 168), none⟩, ⟨(some 170), .faddr (.t 1) 2, (some (169, true))⟩, ⟨(some 171), .load none (.t 170), (some (169, true))⟩, ⟨(some 172), .bin .eql (.t 171) (.c (.d (.int .i64 0))), (some (169, true))⟩, ⟨(some 173), .pick (.t 169) (.t 172) (.c (.d (.bool false))), none⟩, ⟨(some 174), .mv (.t 173), none⟩, ⟨(some 175), .faddr (.t 1) 3, (some (174, true))⟩, ⟨(some 176), .load (some 2) (.t 175), (some (174, true))⟩, ⟨(some 177), .callf 96 [(.t 176)], (some (174, true))⟩, ⟨(some 178), .pick (.t 174) (.t 177) (.c (.d (.bool false))), none⟩, ⟨(some 179), .mv (.t 178), none⟩, ⟨(some 180), .faddr (.t 1) 5, (some (179, true))⟩, ⟨(some 181), .load none (.t 180), (some (179, true))⟩, ⟨(some 182), .bin .eql (.t 181) (.c (.d (.int .i64 0))), (some (179, true))⟩, ⟨(some 183), .pick (.t 179) (.t 182) (.c (.d (.bool false))), none⟩, ⟨(some 184), .mv (.t 183), none⟩, ⟨(some 185), .faddr (.t 1) 6, (some (184, true))⟩, ⟨(some 186), .load (some 2) (.t 185), (some (184, true))⟩, ⟨(some 187), .callf 96 [(.t 186)], (some (184, true))⟩, ⟨(some 188), .pick (.t 184) (.t 187) (.c (.d (.bool false))), none⟩, ⟨(some 189), .mv (.t 188), none⟩, ⟨(some 190), .faddr (.t 1) 8, (some (189, true))⟩, ⟨(some 191), .load none (.t 190), (some (189, true))⟩, ⟨(some 192), .bin .geq (.t 191) (.c (.d (.int .i64 0))), (some (189, true))⟩, ⟨(some 193), .pick (.t 189) (.t 192) (.c (.d (.bool false))), none⟩, ⟨(some 2), .mv (.t 193), none⟩] []) .ret) .skip)))))))))))))) (.seq (.region false [ ⟨(some 2), .mv (.c (.d (.bool false))), none⟩] []) .ret))))
theorem ac83_ok : Tryd.f83.body.bind (cCode Tryd.prog Tryd.f83.ntmps) = some ac83 := by kernel_rfl
-- 104 jacquard/num.Op
def ac104L0 : ACode := (.seq (.region false [ ⟨(some 8), .bin .lss (.t 7) (.c (.d (.int .i64 12))), none⟩] []) (.seq (.cond (.t 8) .skip (.exit 0)) (.seq (.block 1 (.seq (.region false [ ⟨(some 9), .mv (.t 7), none⟩, ⟨(some 10), .idxa 12 1 none (.t 6) (.t 7), none⟩, ⟨(some 4), .mv (.t 9), none⟩, ⟨(some 5), .mv (.t 10), none⟩] []) (.seq (.region false [ ⟨(some 11), .mv (.t 4), none⟩, ⟨(some 12), .bin .gtr (.t 11) (.c (.d (.int .i64 0))), none⟩, ⟨(some 13), .mv (.t 12), none⟩, ⟨(some 14), .mv (.t 5), (some (13, true))⟩, ⟨(some 15), .mv (.t 0), (some (13, true))⟩, ⟨(some 16), .bin .eql (.t 14) (.t 15), (some (13, true))⟩, ⟨(some 17), .pick (.t 13) (.t 16) (.c (.d (.bool false))), none⟩] []) (.cond (.t 17) (.seq (.region false [ ⟨(some 18), .mv (.t 4), none⟩, ⟨(some 2), .mv (.t 18), none⟩, ⟨(some 3), .mv (.c (.d (.bool true))), none⟩] []) .ret) .skip)))) (.region false [ ⟨(some 19), .bin .add (.t 7) (.c (.d (.int .i64 1))), none⟩, ⟨(some 7), .mv (.t 19), none⟩] []))))
def ac104 : ACode := (.seq (.region false [ ⟨(some 2), .mv (.c (.d (.int .i64 0))), none⟩, ⟨(some 3), .mv (.c (.d (.bool false))), none⟩] []) (.seq (.seq (.region false [ ⟨(some 6), .callf 114 [], none⟩, ⟨(some 7), .mv (.c (.d (.int .i64 0))), none⟩] []) (.block 0 (.loop ac104L0))) (.seq (.region false [ ⟨(some 2), .mv (.c (.d (.int .i64 0))), none⟩, ⟨(some 3), .mv (.c (.d (.bool false))), none⟩] []) .ret)))
theorem ac104_ok : Tryd.f104.body.bind (cCode Tryd.prog Tryd.f104.ntmps) = some ac104 := by kernel_rfl
-- 114 jacquard/num.signs
def ac114 : ACode := (.seq (.region false [ ⟨(some 0), .alloc [(.d (.str [])), (.d (.str [])), (.d (.str [])), (.d (.str [])), (.d (.str [])), (.d (.str [])), (.d (.str [])), (.d (.str [])), (.d (.str [])), (.d (.str [])), (.d (.str [])), (.d (.str []))], none⟩] []) (.seq (.region false [ ⟨(some 1), .build [(.d (.str [])), (.d (.str [])), (.d (.str [])), (.d (.str [])), (.d (.str [])), (.d (.str [])), (.d (.str [])), (.d (.str [])), (.d (.str [])), (.d (.str [])), (.d (.str [])), (.d (.str []))] [(0, 1, (.c (.d (.str [])))), (1, 1, (.c (.d (.str [43])))), (2, 1, (.c (.d (.str [45])))), (3, 1, (.c (.d (.str [42])))), (4, 1, (.c (.d (.str [38])))), (5, 1, (.c (.d (.str [124])))), (6, 1, (.c (.d (.str [94])))), (7, 1, (.c (.d (.str [60, 60])))), (8, 1, (.c (.d (.str [62, 62])))), (9, 1, (.c (.d (.str [61, 61])))), (10, 1, (.c (.d (.str [33, 61])))), (11, 1, (.c (.d (.str [60]))))], none⟩, ⟨none, .store 12 (.t 0) (.t 1), none⟩] []) .ret))
theorem ac114_ok : Tryd.f114.body.bind (cCode Tryd.prog Tryd.f114.ntmps) = some ac114 := by kernel_rfl
end Go.Proofs.YtpfbljkfbjjlkaaDoor

/-
  DERIVED: THE SHELF's CONTRACTS AT THIS DUMP, IN PLAIN WORDS (tools/lay-plain.mjs out of 'TrydShelfk.lean', which tools/lay-shelf.mjs wrote): THE SAME DECLARATIONS UNDER THE SAME NAMES: 'import', 'namespace', 'open', 'def', 'theorem' AND NOTHING ELSE: no command of the shelf's: FOR A HAND-IN. Each laying: the table of numbers ('.._ren') and one theorem, a field a fact of the dump's own or the kernel's comparison; each contract: ONE APPLICATION.
-/
namespace Go.Proofs
open Go.Shelf
def Tryd.lays137_ren : Go.Shelf.Ren := ⟨fun | 137 => 70 | 217 => 90 | 266 => 103 | n => n, fun | 9 => 9 | 5 => 5 | 3 => 3 | n => n, fun | n => n⟩
theorem Tryd.lays137 : Go.Proofs.Lays.n137 Tryd.prog Tryd.lays137_ren := {
  mixed := by kernel_rfl
  f137 := Tryd.func70.trans (congrArg some (by kernel_rfl))
  f217 := Tryd.func90.trans (congrArg some (by kernel_rfl))
  f266 := Tryd.func103.trans (congrArg some (by kernel_rfl))
  t3 := Tryd.underlying3
  a3 := Tryd.isAgg3
  z3 := Tryd.sizeOf3
  v3 := Tryd.zeroValue3
  t5 := Tryd.underlying5
  a5 := Tryd.isAgg5
  z5 := Tryd.sizeOf5
  v5 := Tryd.zeroValue5
  t9 := Tryd.underlying9
  a9 := Tryd.isAgg9
  z9 := Tryd.sizeOf9
  v9 := Tryd.zeroValue9 }
open Go.RowKit in
theorem Tryd.strings_IndexByte (s : ByteArray) (c : Int) (w : World) :
    Calls Tryd.prog 70 #[.string s, .int .u8 c] w fun e w' => e = .returned (.int .i64 (Lib.indexByte s.data.toList c.toNat.toUInt8)) ∧ w' = w := Any.strings_IndexByte Tryd.lays137 s c w
def Tryd.laysM173_ren : Go.Shelf.Ren := ⟨fun | 173 => 89 | 246 => 102 | 283 => 110 | 284 => 111 | 285 => 112 | 286 => 113 | 129 => 117 | 317 => 116 | 318 => 118 | 319 => 119 | 320 => 120 | 337 => 121 | 338 => 122 | n => n, fun | 2 => 2 | 3 => 3 | 9 => 9 | 4 => 4 | 171 => 138 | 0 => 0 | 53 => 69 | 37 => 22 | 5 => 5 | 173 => 141 | 212 => 150 | 51 => 151 | 20 => 20 | 213 => 152 | 46 => 58 | 232 => 155 | 233 => 156 | n => n, fun | 17 => 3 | 18 => 4 | 19 => 5 | n => n⟩
theorem Tryd.laysM173 : Go.Proofs.LaysM.n173 Tryd.prog Tryd.laysM173_ren := {
  mixed := by kernel_rfl
  f129 := Tryd.func117.trans (congrArg some (by kernel_rfl))
  f173 := Tryd.func89.trans (congrArg some (by kernel_rfl))
  f246 := Tryd.func102.trans (congrArg some (by kernel_rfl))
  f283 := Tryd.func110.trans (congrArg some (by kernel_rfl))
  f284 := Tryd.func111.trans (congrArg some (by kernel_rfl))
  f285 := Tryd.func112.trans (congrArg some (by kernel_rfl))
  f286 := Tryd.func113.trans (congrArg some (by kernel_rfl))
  f317 := Tryd.func116.trans (congrArg some (by kernel_rfl))
  f318 := Tryd.func118.trans (congrArg some (by kernel_rfl))
  f319 := Tryd.func119.trans (congrArg some (by kernel_rfl))
  f320 := Tryd.func120.trans (congrArg some (by kernel_rfl))
  f337 := Tryd.func121.trans (congrArg some (by kernel_rfl))
  f338 := Tryd.func122.trans (congrArg some (by kernel_rfl))
  t0 := Tryd.underlying0
  a0 := Tryd.isAgg0
  z0 := Tryd.sizeOf0
  v0 := Tryd.zeroValue0
  t2 := Tryd.underlying2
  a2 := Tryd.isAgg2
  z2 := Tryd.sizeOf2
  v2 := Tryd.zeroValue2
  t3 := Tryd.underlying3
  a3 := Tryd.isAgg3
  z3 := Tryd.sizeOf3
  v3 := Tryd.zeroValue3
  t4 := Tryd.underlying4
  a4 := Tryd.isAgg4
  z4 := Tryd.sizeOf4
  v4 := Tryd.zeroValue4
  t5 := Tryd.underlying5
  a5 := Tryd.isAgg5
  z5 := Tryd.sizeOf5
  v5 := Tryd.zeroValue5
  t9 := Tryd.underlying9
  a9 := Tryd.isAgg9
  z9 := Tryd.sizeOf9
  v9 := Tryd.zeroValue9
  t20 := Tryd.underlying20
  a20 := Tryd.isAgg20
  z20 := Tryd.sizeOf20
  v20 := Tryd.zeroValue20
  t37 := Tryd.underlying22
  a37 := Tryd.isAgg22
  z37 := Tryd.sizeOf22
  v37 := Tryd.zeroValue22
  t46 := Tryd.underlying58
  a46 := Tryd.isAgg58
  z46 := Tryd.sizeOf58
  v46 := Tryd.zeroValue58
  t51 := Tryd.underlying151
  a51 := Tryd.isAgg151
  z51 := Tryd.sizeOf151
  v51 := Tryd.zeroValue151
  t53 := Tryd.underlying69
  a53 := Tryd.isAgg69
  z53 := Tryd.sizeOf69
  v53 := Tryd.zeroValue69
  t171 := Tryd.underlying138
  a171 := Tryd.isAgg138
  z171 := Tryd.sizeOf138
  v171 := Tryd.zeroValue138
  t173 := Tryd.underlying141
  a173 := Tryd.isAgg141
  z173 := Tryd.sizeOf141
  v173 := Tryd.zeroValue141
  t212 := Tryd.underlying150
  a212 := Tryd.isAgg150
  z212 := Tryd.sizeOf150
  v212 := Tryd.zeroValue150
  t213 := Tryd.underlying152
  a213 := Tryd.isAgg152
  z213 := Tryd.sizeOf152
  t232 := Tryd.underlying155
  a232 := Tryd.isAgg155
  z232 := Tryd.sizeOf155
  v232 := Tryd.zeroValue155
  t233 := Tryd.underlying156
  a233 := Tryd.isAgg156
  z233 := Tryd.sizeOf156
  v233 := Tryd.zeroValue156
  g17 := by kernel_rfl
  g18 := by kernel_rfl
  g19 := by kernel_rfl
  i0 := by kernel_rfl
  i2 := by kernel_rfl
  i3 := by kernel_rfl
  i4 := by kernel_rfl
  i5 := by kernel_rfl
  i9 := by kernel_rfl
  i20 := by kernel_rfl
  i37 := by kernel_rfl
  i46 := by kernel_rfl
  i51 := by kernel_rfl
  i53 := by kernel_rfl
  i171 := by kernel_rfl
  i173 := by kernel_rfl
  i212 := by kernel_rfl
  i232 := by kernel_rfl
  i233 := by kernel_rfl
  m17 := by kernel_rfl
  m18 := by kernel_rfl
  m19 := by kernel_rfl }
open Go.RowKit Go.Sort Go.Lib in
theorem Tryd.strconv_FormatInt_10 (n : Int) (h0 : -9223372036854775808 ≤ n) (h1 : n ≤ 9223372036854775807) (w : World) (htab : Lib.TabIs Tryd.prog w "internal/strconv.uint64pow10" .u64 Lib.pow10Tab) :
    Calls Tryd.prog 89 #[.int .i64 n, .int .i64 10] w fun e w' => e = .returned (.string ⟨(Lib.itoa n).toArray⟩) ∧ ∃ k os, w' = grow (w.drewN k) os := Any.strconv_FormatInt_10 Tryd.laysM173 n h0 h1 w htab
def Tryd.laysC174_ren : Go.Shelf.Ren := ⟨fun | 174 => 68 | 247 => 87 | 245 => 88 | 287 => 97 | 279 => 98 | 280 => 99 | 281 => 100 | 282 => 101 | 321 => 105 | 322 => 106 | 316 => 107 | 171 => 109 | 205 => 108 | 243 => 115 | 246 => 102 | 283 => 110 | 284 => 111 | 285 => 112 | 286 => 113 | 129 => 117 | 317 => 116 | 318 => 118 | 319 => 119 | 320 => 120 | 337 => 121 | 338 => 122 | n => n, fun | 9 => 9 | 3 => 3 | 2 => 2 | 75 => 109 | 85 => 110 | 4 => 4 | 167 => 127 | 5 => 5 | 53 => 69 | 175 => 128 | 46 => 58 | 168 => 130 | 37 => 22 | 0 => 0 | 210 => 136 | 21 => 21 | 127 => 145 | 145 => 148 | 143 => 146 | 171 => 138 | 173 => 141 | 212 => 150 | 51 => 151 | 20 => 20 | 213 => 152 | 232 => 155 | 233 => 156 | 80 => 79 | n => n, fun | 15 => 0 | 16 => 1 | 17 => 3 | 18 => 4 | 19 => 5 | n => n⟩
theorem Tryd.laysC174 : Go.Proofs.LaysC.n174 Tryd.prog Tryd.laysC174_ren := {
  mixed := by kernel_rfl
  f129 := Tryd.func117.trans (congrArg some (by kernel_rfl))
  f171 := Tryd.func109.trans (congrArg some (by kernel_rfl))
  f174 := Tryd.func68.trans (congrArg some (by kernel_rfl))
  f205 := Tryd.func108.trans (congrArg some (by kernel_rfl))
  f243 := Tryd.func115.trans (congrArg some (by kernel_rfl))
  f245 := Tryd.func88.trans (congrArg some (by kernel_rfl))
  f246 := Tryd.func102.trans (congrArg some (by kernel_rfl))
  f247 := Tryd.func87.trans (congrArg some (by kernel_rfl))
  f279 := Tryd.func98.trans (congrArg some (by kernel_rfl))
  f280 := Tryd.func99.trans (congrArg some (by kernel_rfl))
  f281 := Tryd.func100.trans (congrArg some (by kernel_rfl))
  f282 := Tryd.func101.trans (congrArg some (by kernel_rfl))
  f283 := Tryd.func110.trans (congrArg some (by kernel_rfl))
  f284 := Tryd.func111.trans (congrArg some (by kernel_rfl))
  f285 := Tryd.func112.trans (congrArg some (by kernel_rfl))
  f286 := Tryd.func113.trans (congrArg some (by kernel_rfl))
  f287 := Tryd.func97.trans (congrArg some (by kernel_rfl))
  f316 := Tryd.func107.trans (congrArg some (by kernel_rfl))
  f317 := Tryd.func116.trans (congrArg some (by kernel_rfl))
  f318 := Tryd.func118.trans (congrArg some (by kernel_rfl))
  f319 := Tryd.func119.trans (congrArg some (by kernel_rfl))
  f320 := Tryd.func120.trans (congrArg some (by kernel_rfl))
  f321 := Tryd.func105.trans (congrArg some (by kernel_rfl))
  f322 := Tryd.func106.trans (congrArg some (by kernel_rfl))
  f337 := Tryd.func121.trans (congrArg some (by kernel_rfl))
  f338 := Tryd.func122.trans (congrArg some (by kernel_rfl))
  t0 := Tryd.underlying0
  a0 := Tryd.isAgg0
  z0 := Tryd.sizeOf0
  v0 := Tryd.zeroValue0
  t2 := Tryd.underlying2
  a2 := Tryd.isAgg2
  z2 := Tryd.sizeOf2
  v2 := Tryd.zeroValue2
  t3 := Tryd.underlying3
  a3 := Tryd.isAgg3
  z3 := Tryd.sizeOf3
  v3 := Tryd.zeroValue3
  t4 := Tryd.underlying4
  a4 := Tryd.isAgg4
  z4 := Tryd.sizeOf4
  v4 := Tryd.zeroValue4
  t5 := Tryd.underlying5
  a5 := Tryd.isAgg5
  z5 := Tryd.sizeOf5
  v5 := Tryd.zeroValue5
  t9 := Tryd.underlying9
  a9 := Tryd.isAgg9
  z9 := Tryd.sizeOf9
  v9 := Tryd.zeroValue9
  t20 := Tryd.underlying20
  a20 := Tryd.isAgg20
  z20 := Tryd.sizeOf20
  v20 := Tryd.zeroValue20
  t21 := Tryd.underlying21
  a21 := Tryd.isAgg21
  z21 := Tryd.sizeOf21
  v21 := Tryd.zeroValue21
  t37 := Tryd.underlying22
  a37 := Tryd.isAgg22
  z37 := Tryd.sizeOf22
  v37 := Tryd.zeroValue22
  t46 := Tryd.underlying58
  a46 := Tryd.isAgg58
  z46 := Tryd.sizeOf58
  v46 := Tryd.zeroValue58
  t51 := Tryd.underlying151
  a51 := Tryd.isAgg151
  z51 := Tryd.sizeOf151
  v51 := Tryd.zeroValue151
  t53 := Tryd.underlying69
  a53 := Tryd.isAgg69
  z53 := Tryd.sizeOf69
  v53 := Tryd.zeroValue69
  t75 := Tryd.underlying109
  a75 := Tryd.isAgg109
  z75 := Tryd.sizeOf109
  v75 := Tryd.zeroValue109
  t85 := Tryd.underlying110
  a85 := Tryd.isAgg110
  z85 := Tryd.sizeOf110
  v85 := Tryd.zeroValue110
  t127 := Tryd.underlying145
  a127 := Tryd.isAgg145
  z127 := Tryd.sizeOf145
  v127 := Tryd.zeroValue145
  t143 := Tryd.underlying146
  a143 := Tryd.isAgg146
  z143 := Tryd.sizeOf146
  v143 := Tryd.zeroValue146
  t145 := Tryd.underlying148
  a145 := Tryd.isAgg148
  z145 := Tryd.sizeOf148
  v145 := Tryd.zeroValue148
  t167 := Tryd.underlying127
  a167 := Tryd.isAgg127
  z167 := Tryd.sizeOf127
  v167 := Tryd.zeroValue127
  t168 := Tryd.underlying130
  a168 := Tryd.isAgg130
  z168 := Tryd.sizeOf130
  v168 := Tryd.zeroValue130
  t171 := Tryd.underlying138
  a171 := Tryd.isAgg138
  z171 := Tryd.sizeOf138
  v171 := Tryd.zeroValue138
  t173 := Tryd.underlying141
  a173 := Tryd.isAgg141
  z173 := Tryd.sizeOf141
  v173 := Tryd.zeroValue141
  t175 := Tryd.underlying128
  a175 := Tryd.isAgg128
  z175 := Tryd.sizeOf128
  v175 := Tryd.zeroValue128
  t210 := Tryd.underlying136
  a210 := Tryd.isAgg136
  z210 := Tryd.sizeOf136
  v210 := Tryd.zeroValue136
  t212 := Tryd.underlying150
  a212 := Tryd.isAgg150
  z212 := Tryd.sizeOf150
  v212 := Tryd.zeroValue150
  t213 := Tryd.underlying152
  a213 := Tryd.isAgg152
  z213 := Tryd.sizeOf152
  t232 := Tryd.underlying155
  a232 := Tryd.isAgg155
  z232 := Tryd.sizeOf155
  v232 := Tryd.zeroValue155
  t233 := Tryd.underlying156
  a233 := Tryd.isAgg156
  z233 := Tryd.sizeOf156
  v233 := Tryd.zeroValue156
  g15 := by kernel_rfl
  g16 := by kernel_rfl
  g17 := by kernel_rfl
  g18 := by kernel_rfl
  g19 := by kernel_rfl
  t80 := Tryd.underlying79
  a80 := Tryd.isAgg79
  z80 := Tryd.sizeOf79
  v80 := Tryd.zeroValue79
  i0 := by kernel_rfl
  i2 := by kernel_rfl
  i3 := by kernel_rfl
  i4 := by kernel_rfl
  i5 := by kernel_rfl
  i9 := by kernel_rfl
  i20 := by kernel_rfl
  i21 := by kernel_rfl
  i37 := by kernel_rfl
  i46 := by kernel_rfl
  i51 := by kernel_rfl
  i53 := by kernel_rfl
  i75 := by kernel_rfl
  i80 := by kernel_rfl
  i85 := by kernel_rfl
  i127 := by kernel_rfl
  i143 := by kernel_rfl
  i145 := by kernel_rfl
  i167 := by kernel_rfl
  i168 := by kernel_rfl
  i171 := by kernel_rfl
  i173 := by kernel_rfl
  i175 := by kernel_rfl
  i210 := by kernel_rfl
  i212 := by kernel_rfl
  i232 := by kernel_rfl
  i233 := by kernel_rfl
  m15 := by kernel_rfl
  m16 := by kernel_rfl
  m17 := by kernel_rfl
  m18 := by kernel_rfl
  m19 := by kernel_rfl
  c0 := by kernel_rfl
  c2 := by kernel_rfl
  c3 := by kernel_rfl
  c4 := by kernel_rfl
  c5 := by kernel_rfl
  c9 := by kernel_rfl
  c20 := by kernel_rfl
  c21 := by kernel_rfl
  c37 := by kernel_rfl
  c46 := by kernel_rfl
  c51 := by kernel_rfl
  c53 := by kernel_rfl
  c75 := by kernel_rfl
  c80 := by kernel_rfl
  c85 := by kernel_rfl
  c127 := by kernel_rfl
  c143 := by kernel_rfl
  c145 := by kernel_rfl
  c167 := by kernel_rfl
  c168 := by kernel_rfl
  c171 := by kernel_rfl
  c173 := by kernel_rfl
  c175 := by kernel_rfl
  c210 := by kernel_rfl
  c212 := by kernel_rfl
  c213 := by kernel_rfl
  c232 := by kernel_rfl
  c233 := by kernel_rfl }
end Go.Proofs

/- Numbers' texts, told without a heap: what the shelf's contracts say, in the layer's words. -/
namespace Go.Proofs.YtpfbljkfbjjlkaaDoor
open Go Go.Jq
set_option maxRecDepth 100000
set_option linter.unusedSimpArgs false
theorem gTab : Tryd.prog.globalNamed "internal/strconv.uint64pow10" = some 3 := by kernel_rfl
theorem tabIs {c : Ctx} {m : Mem} {w : World} (h : MR c m w) : Lib.TabIs Tryd.prog w "internal/strconv.uint64pow10" .u64 Lib.pow10Tab := by
  obtain ⟨_, cs, T, f, h1, hcs⟩ := h.tab 3 _ rfl
  have hcs' : cs = (Lib.pow10Tab.map fun z => Value.int .u64 z).toArray := hcs
  unfold Lib.TabIs World.var?
  rw [gTab]
  simp only [Option.bind_some, h1, hcs']
def I64 (n : Int) : Prop := -9223372036854775808 ≤ n ∧ n ≤ 9223372036854775807
theorem nDigits_le : ∀ (k u : Nat), u < 10 ^ (k + 1) → Lib.nDigits u ≤ k + 1
  | 0, u, h => by rw [Lib.nDigits_small (by simpa using h)]; omega
  | k + 1, u, h => by
    by_cases hu : u < 10
    · rw [Lib.nDigits_small hu]; omega
    · rw [Lib.nDigits_big hu]
      have := nDigits_le k (u / 10) (by rw [Nat.pow_succ] at h; omega)
      omega
theorem itoa_len {n : Int} (h : I64 n) : (Lib.itoa n).length ≤ 20 := by
  obtain ⟨h0, h1⟩ := h
  unfold Lib.itoa
  split
  · have := nDigits_le 18 n.natAbs (by simp; omega)
    rw [List.length_cons, Lib.decDigits_length]; omega
  · have := nDigits_le 18 n.toNat (by simp; omega)
    rw [Lib.decDigits_length]; omega
theorem itoa_pos (n : Int) : 1 ≤ (Lib.itoa n).length := by
  unfold Lib.itoa
  split
  · simp
  · rw [Lib.decDigits_length]; exact Lib.nDigits_pos _
end Go.Proofs.YtpfbljkfbjjlkaaDoor

/- The abstract layer: from a row to data. -/
namespace Go.Jq
open Go
inductive Sh where
  | int (k : IntKind)
  | bool
  | str
  | sl (es : List Sh)
mutual
def Fits : Sh → DV → Prop
  | .int k, d => ∃ n, d = .int k n ∧ (Lit.int k n).wf = true
  | .bool, d => ∃ b, d = .bool b
  | .str, d => ∃ s : List UInt8, d = .str s ∧ s.length ≤ maxLen
  | .sl es, d => d = .nsl ∨ ∃ rows : List (List DV), d = .sl rows.length rows.flatten ∧ rows.length ≤ maxLen ∧ ∀ r ∈ rows, FitsL es r
def FitsL : List Sh → List DV → Prop
  | [], ds => ds = []
  | s :: ss, ds => ∃ d r, ds = d :: r ∧ Fits s d ∧ FitsL ss r
end
theorem FitsL.length : ∀ {ss : List Sh} {ds : List DV}, FitsL ss ds → ds.length = ss.length
  | [], _, h => by simp only [FitsL] at h; subst h; rfl
  | s :: ss, _, h => by
    simp only [FitsL] at h
    obtain ⟨d, r, rfl, _, h⟩ := h
    simp [FitsL.length h]
theorem FitsL.append : ∀ {ss ss' : List Sh} {ds ds' : List DV}, FitsL ss ds → FitsL ss' ds' → FitsL (ss ++ ss') (ds ++ ds')
  | [], _, _, _, h, h' => by simp only [FitsL] at h; subst h; simpa using h'
  | s :: ss, _, _, _, h, h' => by
    simp only [FitsL] at h
    obtain ⟨d, r, rfl, hd, h⟩ := h
    simp only [List.cons_append, FitsL]
    exact ⟨d, _, rfl, hd, FitsL.append h h'⟩
def shFs (P : Program) (f : TypeId → Option (List Sh)) : List Field → Nat → Option (List Sh)
  | [], _ => some []
  | fd :: r, acc => match f fd.type with
    | some s => if fd.offset = acc ∧ P.cellsOf fd.type = s.length then (shFs P f r (acc + s.length)).map (s ++ ·) else none
    | none => none
def shOf (P : Program) : Nat → TypeId → Option (List Sh)
  | 0, _ => none
  | k + 1, t => match P.underlying t with
    | some .bool => some [.bool]
    | some (.int q) => some [.int q]
    | some .string => some [.str]
    | some (.slice e) => match shOf P k e with
      | some es => if es.length = P.cellsOf e ∧ es.length ≠ 0 then some [.sl es] else none
      | none => none
    | some (.struct fs) => match shFs P (shOf P k) fs.toList 0 with
      | some ss => if ss.length = P.cellsOf t then some ss else none
      | none => none
    | some (.array n e) => match shOf P k e with
      | some es => if es.length = P.cellsOf e ∧ n * es.length = P.cellsOf t then some (List.replicate n es).flatten else none
      | none => none
    | _ => none
def RelDL (I : Nat → Prop) (w : World) : List DV → List Value → Prop
  | [], vs => vs = []
  | d :: ds, vs => ∃ v r, vs = v :: r ∧ RelD I w d v ∧ RelDL I w ds r
section
variable {I : Nat → Prop} {w : World}
theorem RelDL.append : ∀ {ds ds' : List DV} {vs vs' : List Value}, RelDL I w ds vs → RelDL I w ds' vs' → RelDL I w (ds ++ ds') (vs ++ vs')
  | [], _, _, _, h, h' => by simp only [RelDL] at h; subst h; simpa using h'
  | d :: ds, _, _, _, h, h' => by
    simp only [RelDL] at h
    obtain ⟨v, r, rfl, hd, h⟩ := h
    simp only [List.cons_append, RelDL]
    exact ⟨v, _, rfl, hd, RelDL.append h h'⟩
theorem RelDL.length : ∀ {ds : List DV} {vs : List Value}, RelDL I w ds vs → vs.length = ds.length
  | [], _, h => by simp only [RelDL] at h; subst h; rfl
  | d :: ds, _, h => by
    simp only [RelDL] at h
    obtain ⟨v, r, rfl, _, h⟩ := h
    simp [RelDL.length h]
theorem RelDL.get : ∀ {ds : List DV} {vs : List Value}, RelDL I w ds vs → ∀ (i : Nat) (d : DV), ds[i]? = some d → ∃ v, vs[i]? = some v ∧ RelD I w d v
  | [], _, _, i, d, h => by simp at h
  | x :: ds, _, h, i, d, hi => by
    simp only [RelDL] at h
    obtain ⟨v, r, rfl, hd, h⟩ := h
    cases i with
    | zero => simp at hi; subst hi; exact ⟨v, rfl, hd⟩
    | succ i => simpa using RelDL.get h i d (by simpa using hi)
theorem RelDL.relL {c : Ctx} : ∀ {ds : List DV} {vs : List Value}, RelDL c.imm w ds vs → RelL c w (ds.map .d) vs
  | [], _, h => by simpa [RelDL, RelL] using h
  | d :: ds, _, h => by
    simp only [RelDL] at h
    obtain ⟨v, r, rfl, hd, h⟩ := h
    simp only [List.map_cons, RelL, Rel]
    exact ⟨v, r, rfl, hd, RelDL.relL h⟩
theorem RelDs.append : ∀ {xs ys : List DV} {b o : Nat}, RelDs I w xs b o → RelDs I w ys b (o + xs.length) → RelDs I w (xs ++ ys) b o
  | [], ys, b, o, _, h => by simpa using h
  | x :: xs, ys, b, o, h, h' => by
    simp only [List.cons_append, RelDs] at h ⊢
    refine ⟨h.1, RelDs.append h.2 ?_⟩
    rw [List.length_cons] at h'
    rw [show o + 1 + xs.length = o + (xs.length + 1) by omega]
    exact h'
theorem RelDs.flatten {k b o : Nat} : ∀ {rows : List (List DV)} {i0 : Nat}, (∀ r ∈ rows, r.length = k) → (∀ (i : Nat) (r : List DV), rows[i]? = some r → RelDs I w r b (o + (i0 + i) * k)) → RelDs I w rows.flatten b (o + i0 * k)
  | [], _, _, _ => by simp [RelDs]
  | r :: rows, i0, hk, h => by
    rw [List.flatten_cons]
    refine RelDs.append (by simpa using h 0 r rfl) ?_
    have := RelDs.flatten (k := k) (b := b) (o := o) (rows := rows) (i0 := i0 + 1) (fun r hr => hk r (List.mem_cons_of_mem _ hr)) fun i r' hi => by
      have := h (i + 1) r' (by simpa using hi)
      rwa [show i0 + 1 + i = i0 + (i + 1) by omega]
    rw [hk r List.mem_cons_self]
    rwa [Nat.succ_mul, ← Nat.add_assoc] at this
theorem list_of {α : Type} {p : Nat → α → Prop} : ∀ (n : Nat), (∀ i, i < n → ∃ y, p i y) → ∃ l : List α, l.length = n ∧ ∀ i y, l[i]? = some y → p i y
  | 0, _ => ⟨[], rfl, fun i y h => by simp at h⟩
  | n + 1, h => by
    obtain ⟨l, hl, hp⟩ := list_of n fun i hi => h i (by omega)
    obtain ⟨y, hy⟩ := h n (by omega)
    refine ⟨l ++ [y], by simp [hl], fun i z hz => ?_⟩
    rcases Nat.lt_or_ge i n with h1 | h1
    · rw [List.getElem?_append_left (by omega)] at hz; exact hp i z hz
    · rw [List.getElem?_append_right (by omega)] at hz
      have h2 : i - l.length = 0 := by
        rcases Nat.eq_zero_or_pos (i - l.length) with h3 | h3
        · exact h3
        · rw [List.getElem?_eq_none (by simp; omega)] at hz; cases hz
      rw [h2] at hz
      simp at hz
      subst hz
      have : i = n := by omega
      subst this
      exact hy
end
end Go.Jq
namespace Go.Jq
open Go
section
variable {H : Type} {enc : TypeId × Value → H} {P : Program} {w : World} {base : Nat} {spare : Nat → Bool} {held : Bool} {I : Nat → Prop} (hI : ∀ b, b < w.heap.size → I b)
theorem cells_get {a : Addr} {n : Nat} {cs : List Value} (h : w.cells? base a n = some cs) : cs.length = n ∧ ∀ i, i < n → w.cell? (a.add i) = cs[i]? := by
  unfold World.cells? at h
  split at h
  · exact ⟨by simpa using mapM_some_length h, fun i hi => mapM_some_get h i i (by simp [hi])⟩
  · cases h
theorem cell_lt {a : Addr} {v : Value} (h : w.cell? a = some v) : a.block < w.heap.size ∧ a.spot = none := by
  unfold World.cell? at h
  split at h
  · rename_i c T f hb
    refine ⟨?_, ?_⟩
    · rcases Nat.lt_or_ge a.block w.heap.size with h1 | h1
      · exact h1
      · rw [Array.getElem?_eq_none h1] at hb; cases hb
    · split at h
      · cases h
      · rename_i hs; simpa using hs
  · cases h
theorem shFs_trod {f : TypeId → Option (List Sh)} {g : TypeId → List Value → Option (DataW H × List MemPlace)} (hfg : ∀ t ss cs x, f t = some ss → g t cs = some x → ∃ ds, FitsL ss ds ∧ RelDL I w ds cs) (cs : List Value) :
    ∀ (fs : List Field) (acc : Nat) (ss : List Sh), shFs P f fs acc = some ss → acc + ss.length = cs.length → (∀ fd ∈ fs, ∃ x, g fd.type ((cs.drop fd.offset).take (P.cellsOf fd.type)) = some x) → ∃ ds, FitsL ss ds ∧ RelDL I w ds (cs.drop acc)
  | [], acc, ss, h, hl, _ => by
    simp only [shFs, Option.some.injEq] at h
    subst h
    exact ⟨[], rfl, by simp only [RelDL]; exact List.drop_eq_nil_of_le (by simpa using Nat.le_of_eq hl.symm)⟩
  | fd :: fs, acc, ss, h, hl, hx => by
    simp only [shFs] at h
    split at h
    · rename_i s hs
      split at h
      · rename_i hc
        rw [Option.map_eq_some_iff] at h
        obtain ⟨r, hr, rfl⟩ := h
        obtain ⟨x, hx1⟩ := hx fd List.mem_cons_self
        obtain ⟨ds, h1, h2⟩ := hfg _ _ _ _ hs hx1
        obtain ⟨ds', h3, h4⟩ := shFs_trod hfg cs fs (acc + s.length) r hr (by simp at hl; omega) fun fd' h => hx fd' (List.mem_cons_of_mem _ h)
        refine ⟨ds ++ ds', h1.append h3, ?_⟩
        have h5 := h2.append h4
        rw [hc.1, hc.2, ← List.drop_drop, List.take_append_drop] at h5
        exact h5
      · cases h
    · cases h
include hI in
theorem trod_rel : ∀ (k : Nat) (t : TypeId) (ss : List Sh) (fuel : Nat) (cs : List Value) (x : DataW H × List MemPlace), shOf P k t = some ss → DataW.trod enc P w base spare held fuel t cs = some x → ∃ ds, FitsL ss ds ∧ RelDL I w ds cs
  | 0, _, _, _, _, _, h, _ => by simp [shOf] at h
  | k + 1, t, ss, fuel, cs, x, h, hx => by
    simp only [shOf] at h
    split at h
    · rename_i hu
      cases h
      obtain ⟨b, rfl, _⟩ := DataW.trod_bool hu hx
      exact ⟨[.bool b], by simp only [FitsL, Fits]; exact ⟨_, _, rfl, ⟨b, rfl⟩, rfl⟩, by simp [RelDL, RelD]⟩
    · rename_i q hu
      cases h
      obtain ⟨n, rfl, _, hw⟩ := DataW.trod_int hu hx
      exact ⟨[.int q n], by simp only [FitsL, Fits]; exact ⟨_, _, rfl, ⟨n, rfl, hw⟩, rfl⟩, by simp [RelDL, RelD]⟩
    · rename_i hu
      cases h
      obtain ⟨s, rfl, _, hw⟩ := DataW.trod_string hu hx
      exact ⟨[.str s.data.toList], by simp only [FitsL, Fits]; exact ⟨_, _, rfl, ⟨_, rfl, by simpa using hw⟩, rfl⟩, by simp [RelDL, RelD]⟩
    · rename_i e hu
      split at h
      · rename_i es hes
        split at h
        · rename_i hc
          cases h
          obtain ⟨hlen, hne⟩ := hc
          rcases DataW.trod_slice hu hx with ⟨rfl, _⟩ | ⟨a, len, cap, elems, rest, n, _, rfl, _, hb, hl, hm, hel, hcell, _⟩
          · exact ⟨[.nsl], by simp only [FitsL, Fits]; exact ⟨_, _, rfl, .inl rfl, rfl⟩, by simp [RelDL, RelD]⟩
          · have each : ∀ i, i < len → ∃ r : List DV, ∃ csi, w.cells? base (a.add (i * P.cellsOf e)) (P.cellsOf e) = some csi ∧ FitsL es r ∧ RelDL I w r csi := by
              intro i hi
              have h1 := hcell i hi
              rw [List.getElem?_eq_getElem (by omega), Option.bind_eq_some_iff] at h1
              obtain ⟨csi, h2, h3⟩ := h1
              obtain ⟨r, h4, h5⟩ := trod_rel k e es n csi _ hes h3
              exact ⟨r, csi, h2, h4, h5⟩
            obtain ⟨rows, hrl, hrows⟩ := list_of len each
            have hfit : ∀ r ∈ rows, FitsL es r := fun r hr => by
              obtain ⟨i, hi⟩ := List.mem_iff_getElem?.1 hr
              obtain ⟨_, _, h2, _⟩ := hrows i r hi
              exact h2
            refine ⟨[.sl rows.length rows.flatten], by simp only [FitsL, Fits]; exact ⟨_, _, rfl, .inr ⟨rows, rfl, by omega, hfit⟩, rfl⟩, ?_⟩
            simp only [RelDL, RelD]
            refine ⟨_, _, rfl, ⟨some a, cap, by rw [hrl], by omega, ?_⟩, rfl⟩
            rcases Nat.eq_zero_or_pos len with h0 | h0
            · have : rows = [] := List.eq_nil_of_length_eq_zero (by omega)
              subst this
              exact .inl ⟨rfl, rfl⟩
            · right
              have hr0 : rows[0]? = some rows[0] := List.getElem?_eq_getElem (by omega)
              obtain ⟨cs0, h1, h2, h3⟩ := hrows 0 _ hr0
              obtain ⟨hl0, hg0⟩ := cells_get h1
              have hpos : 0 < P.cellsOf e := by omega
              have hc0 : ∃ v, w.cell? a = some v := by
                have := hg0 0 hpos
                rw [List.getElem?_eq_getElem (by omega)] at this
                have e1 : (a.add (0 * P.cellsOf e)).add 0 = a := by simp [Addr.add]
                rw [e1] at this
                exact ⟨_, this⟩
              obtain ⟨v, hv⟩ := hc0
              obtain ⟨hlt, hsp⟩ := cell_lt hv
              obtain ⟨ab, ao, asp⟩ := a
              simp only at hlt hsp
              subst hsp
              refine ⟨ab, ao, rfl, hI ab hlt, ?_⟩
              have := RelDs.flatten (I := I) (w := w) (k := es.length) (b := ab) (o := ao) (rows := rows) (i0 := 0) (fun r hr => (hfit r hr).length) fun i r hi => by
                obtain ⟨csi, h4, h5, h6⟩ := hrows i r hi
                obtain ⟨_, hg⟩ := cells_get h4
                refine RelDs.of_get fun j d hj => ?_
                obtain ⟨v, hv, hr⟩ := h6.get j d hj
                have hjl : j < P.cellsOf e := by
                  have := (List.getElem?_eq_some_iff.1 hj).1
                  rw [h5.length] at this
                  omega
                refine ⟨v, ?_, hr⟩
                have := hg j hjl
                rw [hv, addr_add, addr_add] at this
                rw [Nat.zero_add, hlen]
                exact this
              simpa using this
        · cases h
      · cases h
    · rename_i fs hu
      split at h
      · rename_i ss' hss
        split at h
        · rename_i hc
          cases h
          obtain ⟨xs, n, _, _, hcl, hxl, hget⟩ := DataW.trod_struct hu hx
          have := shFs_trod (P := P) (I := I) (w := w) (f := shOf P k) (g := fun t cs => DataW.trod enc P w base spare held n t cs) (fun t ss cs x h1 h2 => trod_rel k t ss n cs x h1 h2) cs fs.toList 0 ss hss (by omega) fun fd hfd => by
            obtain ⟨i, hi⟩ := List.mem_iff_getElem?.1 hfd
            rw [Array.getElem?_toList] at hi
            have h1 := hget i fd hi
            have h2 : i < fs.size := (Array.getElem?_eq_some_iff.1 hi).1
            rw [List.getElem?_eq_getElem (by omega)] at h1
            exact ⟨_, h1⟩
          simpa using this
        · cases h
      · cases h
    · rename_i n e hu
      split at h
      · rename_i es hes
        split at h
        · rename_i hc
          cases h
          obtain ⟨xs, m, _, _, hcl, hxl, hget⟩ := DataW.trod_array hu hx
          have key : ∀ q, q ≤ n → ∃ ds, FitsL (List.replicate q es).flatten ds ∧ RelDL I w ds (cs.take (q * es.length)) := by
            intro q
            induction q with
            | zero => intro _; exact ⟨[], by simp [FitsL], by simp [RelDL]⟩
            | succ q ih =>
              intro hq
              obtain ⟨ds, h1, h2⟩ := ih (by omega)
              have h3 := hget q (by omega)
              rw [List.getElem?_eq_getElem (by omega)] at h3
              obtain ⟨ds', h4, h5⟩ := trod_rel k e es m _ _ hes h3
              refine ⟨ds ++ ds', ?_, ?_⟩
              · rw [List.replicate_succ', List.flatten_append]
                simpa using h1.append h4
              · have := h2.append h5
                rw [← hc.1] at this
                rw [Nat.succ_mul, List.take_add]
                exact this
          obtain ⟨ds, h1, h2⟩ := key n (Nat.le_refl _)
          exact ⟨ds, h1, by rwa [List.take_of_length_le (by omega)] at h2⟩
        · cases h
      · cases h
    · cases h
end
end Go.Jq
namespace Go.Jq
open Go Go.RowKit Go.ChangeAt Go.ChangeShapes Go.WideShapes
def ctx0 (w : World) : Ctx := ⟨fun _ => .free, fun b => b < w.heap.size⟩
theorem calls_of_pure {P : Program} {f : Nat} {args : List AV} (h : Pure P f args (.d (.bool true))) {w : World} {vs : List Value} (hr : RelL (ctx0 w) w args vs)
    (htab : ∀ g Φ, tabC g = some Φ → ∃ cs T f, w.heap[g]? = some (.cells cs T f) ∧ Φ cs := by intro g Φ h; simp [tabC] at h) :
    Calls P f vs.toArray w fun e w' => e = .returned (.bool true) ∧ Below w.heap.size w w' := by
  have hM : MR (ctx0 w) [] w := ⟨fun id cells h => by simp [mget] at h, fun id id' b h => by simp [mget] at h, fun b hb => hb, fun g Φ hg => by
    obtain ⟨cs, T, f, h1, h2⟩ := htab g Φ hg
    exact ⟨(Array.getElem?_eq_some_iff.1 h1).1, cs, T, f, h1, h2⟩⟩
  refine (h (ctx0 w) w vs hr hM fun id _ => rfl).mono ?_
  rintro e w' ⟨v, r, m', c', rfl, ⟨rfl, rfl⟩, hrel, _, hs, _⟩
  simp only [Rel, RelD] at hrel
  subst hrel
  exact ⟨rfl, hs.os, hs.tape, hs.output, hs.size, fun b hb => hs.keep b hb fun ⟨id, h1, _⟩ => by simp [mget] at h1⟩
section
variable {H : Type} {enc : TypeId × Value → H} {P : Program} {w : World} {base : Nat} {spare : Nat → Bool} {held : Bool} {t : TypeId} {v : Value} {d : DataW H} {p : List MemPlace}
theorem arg_one {k : Nat} {s : Sh} (hs : shOf P k t = some [s]) (hv : v.cells = #[v]) (h : DataW.Trod enc P w base spare held t v d p) : ∃ x, Fits s x ∧ Rel (ctx0 w) w (.d x) v := by
  obtain ⟨fuel, hf⟩ := h
  obtain ⟨ds, h1, h2⟩ := trod_rel (I := (ctx0 w).imm) (fun b hb => hb) k t [s] fuel _ _ hs hf
  simp only [FitsL] at h1
  obtain ⟨x, r, rfl, h3, rfl⟩ := h1
  rw [hv] at h2
  simp only [RelDL, List.cons.injEq] at h2
  obtain ⟨u, r, ⟨h4, _⟩, h5, _⟩ := h2
  subst h4
  exact ⟨x, h3, by simp only [Rel]; exact h5⟩
end
theorem fits_sl_ints {d : DV} (h : Fits (.sl [.int .i64]) d) : ∃ l : List Int, IsInts l d := by
  simp only [Fits] at h
  rcases h with rfl | ⟨rows, rfl, hm, hr⟩
  · exact ⟨[], by simp, .inl ⟨rfl, rfl⟩⟩
  · have : ∀ rows : List (List DV), (∀ r ∈ rows, FitsL [.int .i64] r) → ∃ l : List Int, l.length = rows.length ∧ rows.flatten = l.map (.int .i64) := by
      intro rows
      induction rows with
      | nil => intro _; exact ⟨[], rfl, rfl⟩
      | cons r rows ih =>
        intro h
        obtain ⟨l, h1, h2⟩ := ih fun r hr => h r (List.mem_cons_of_mem _ hr)
        have h3 := h r List.mem_cons_self
        simp only [FitsL, Fits] at h3
        obtain ⟨d, r', rfl, ⟨n, rfl, _⟩, rfl⟩ := h3
        exact ⟨n :: l, by simp [h1], by simp [h2]⟩
    obtain ⟨l, h1, h2⟩ := this rows hr
    refine ⟨l, ?_, .inr ?_⟩
    · have : maxLen = 9223372036854775807 := rfl
      simp; omega
    · simp [h1, h2]
end Go.Jq
namespace Go.Jq
open Go
theorem rows_of {α : Type} {enc : α → List DV} {p : α → Prop} {es : List Sh} (hrow : ∀ r, FitsL es r → ∃ a, p a ∧ r = enc a) : ∀ rows : List (List DV), (∀ r ∈ rows, FitsL es r) → ∃ l : List α, l.length = rows.length ∧ (∀ a ∈ l, p a) ∧ rows.flatten = l.flatMap enc
  | [], _ => ⟨[], rfl, by simp, rfl⟩
  | r :: rows, h => by
    obtain ⟨l, h1, h2, h3⟩ := rows_of hrow rows fun r hr => h r (List.mem_cons_of_mem _ hr)
    obtain ⟨a, ha, rfl⟩ := hrow r (h r List.mem_cons_self)
    refine ⟨a :: l, by simp [h1], ?_, by simp [h3]⟩
    intro b hb
    rcases List.mem_cons.1 hb with rfl | hb
    · exact ha
    · exact h2 b hb
theorem fits_int {k : IntKind} {d : DV} (h : Fits (.int k) d) : ∃ n, d = .int k n ∧ (Lit.int k n).wf = true := by
  simpa only [Fits] using h
def i64R (n : Int) : Prop := -9223372036854775808 ≤ n ∧ n ≤ 9223372036854775807
theorem wf_i64 {n : Int} (h : (Lit.int .i64 n).wf = true) : i64R n := by
  have e1 : IntKind.i64.min = -9223372036854775808 := rfl
  have e2 : IntKind.i64.max = 9223372036854775807 := rfl
  simp only [Lit.wf, e1, e2, Bool.and_eq_true, decide_eq_true_eq] at h
  exact h
end Go.Jq
namespace Go.Jq
open Go Go.ChangeShapes
section
variable {H : Type} {enc : TypeId × Value → H} {P : Program} {w : World} {base : Nat} {spare : Nat → Bool} {held : Bool}
end
end Go.Jq

/- What the listed tables give the calls. -/
namespace Go.Proofs.YtpfbljkfbjjlkaaDoor
open Go Go.Jq Go.ChangeShapes Go.WideShapes Go.ChangeAt Go.RowKit
set_option linter.unusedVariables false
theorem own : ownKnob Tryd.prog.godebug = none := by kernel_rfl
theorem laidOut : laidOutB Tryd.prog = true := by kernel_rfl
def laidL : List (String × DataW Unit) := [("math/bits.deBruijn32tab", Rows.laid_math_bits_deBruijn32tab), ("math/bits.deBruijn64tab", Rows.laid_math_bits_deBruijn64tab), ("internal/strconv.uint64pow10", Rows.laid_internal_strconv_uint64pow10), ("strconv.ErrRange", Rows.laid_strconv_ErrRange), ("strconv.ErrSyntax", Rows.laid_strconv_ErrSyntax)]
theorem door_met (os : Os) (args : Array Value) : laidMetH Tryd.prog laidL ((World.doorLaid Tryd.prog 400 os).forCall (fun _ _ => 0) ⟨#[], args, []⟩).memory :=
  laidMetH_of_parts3 (fuel := 8) (laidMet_of_run' 8 (by kernel_rfl) (by kernel_rfl)) (by kernel_rfl) (by kernel_rfl)
theorem err_iface : ∃ ms, Tryd.prog.underlying 109 = some (.interface ms) := by
  have h : (match Tryd.prog.underlying 109 with | some (.interface _) => true | _ => false) = true := by kernel_rfl
  split at h
  · rename_i ms hms
    exact ⟨ms, hms⟩
  · cases h
set_option maxRecDepth 100000 in
theorem tab_of_laid {W : World} (h : laidMetH Tryd.prog laidL W) : ∀ g Φ, tabC g = some Φ → ∃ cs T f, W.heap[g]? = some (.cells cs T f) ∧ Φ cs := by
  rw [MakeChecks.laidMetH_plain _ _ _ (by kernel_rfl)] at h
  obtain ⟨ps, ⟨g0, t0, cs0, f0, p0, q0, hg0, ht0, hv0, hd0, ⟨g1, t1, cs1, f1, p1, q1, hg1, ht1, hv1, hd1, ⟨g2, t2, cs2, f2, p2, q2, hg2, ht2, hv2, hd2, ⟨g3, t3, cs3, f3, p3, q3, hg3, ht3, hv3, hd3, ⟨g4, t4, cs4, f4, p4, q4, hg4, ht4, hv4, hd4, _, _⟩, _⟩, _⟩, _⟩, _⟩, _, _⟩ := h
  obtain rfl := Option.some.inj (gTab.symm.trans hg2)
  have gR : Tryd.prog.globalNamed "strconv.ErrRange" = some 1 := by kernel_rfl
  have gS : Tryd.prog.globalNamed "strconv.ErrSyntax" = some 0 := by kernel_rfl
  obtain rfl := Option.some.inj (gR.symm.trans hg3)
  obtain rfl := Option.some.inj (gS.symm.trans hg4)
  have hty : (Tryd.prog.globals[3]?).map (·.type) = some 150 := by kernel_rfl
  have ty1 : (Tryd.prog.globals[0]?).map (·.type) = some 109 := by kernel_rfl
  have ty2 : (Tryd.prog.globals[1]?).map (·.type) = some 109 := by kernel_rfl
  obtain rfl := Option.some.inj (hty.symm.trans ht2)
  obtain rfl := Option.some.inj (ty2.symm.trans ht3)
  obtain rfl := Option.some.inj (ty1.symm.trans ht4)
  obtain ⟨ms, hms⟩ := err_iface
  obtain ⟨_, u3, v3, hc3, _⟩ := iface_of_trod hms hd3
  obtain ⟨_, u4, v4, hc4, _⟩ := iface_of_trod hms hd4
  have hcs := Lib.cells_of_tab (n := 20) (e := 69) (k := .u64) (zs := Lib.pow10Tab) (by kernel_rfl) (by kernel_rfl) (by kernel_rfl) (by kernel_rfl) hd2
  unfold World.var? at hv2 hv3 hv4
  rw [gTab] at hv2
  rw [gR] at hv3
  rw [gS] at hv4
  simp only [Option.bind_some] at hv2 hv3 hv4
  have row : ∀ {b : Nat} {cs : Array Value}, (match W.heap[b]? with | some (Obj.cells cs _ _) => some cs | _ => none) = some cs → ∃ T f, W.heap[b]? = some (.cells cs T f) := by
    intro b cs h
    split at h
    · rename_i c T f hc
      obtain rfl := Option.some.inj h
      exact ⟨T, f, hc⟩
    · cases h
  obtain ⟨T2, f2', r2⟩ := row hv2
  obtain ⟨T3, f3', r3⟩ := row hv3
  obtain ⟨T4, f4', r4⟩ := row hv4
  intro g Φ hg
  simp only [tabC] at hg
  split at hg
  · rename_i h0
    subst h0
    refine ⟨_, _, _, r2, ?_⟩
    obtain rfl := Option.some.inj hg
    show cs2 = _
    apply Array.ext'
    rw [hcs]
    rfl
  · split at hg
    · rename_i h12
      obtain rfl := Option.some.inj hg
      rcases h12 with rfl | rfl
      · exact ⟨_, _, _, r4, u4, v4, Array.ext' hc4⟩
      · exact ⟨_, _, _, r3, u3, v3, Array.ext' hc3⟩
    · cases hg
end Go.Proofs.YtpfbljkfbjjlkaaDoor

/- num.Parse: in the model's words. -/
namespace Go.Proofs.YtpfbljkfbjjlkaaDoor
open Go Go.Jq Go.RowKit
set_option maxRecDepth 100000
set_option linter.unusedSimpArgs false
theorem bytes_eq {a b : ByteArray} (h : a.data.toList = b.data.toList) : a = b := by
  cases a; cases b
  simp only [Array.toList_inj] at h
  rw [h]
theorem tab_below {w w' : World} (h : Lib.TabIs Tryd.prog w "internal/strconv.uint64pow10" .u64 Lib.pow10Tab) (hb : Below w.heap.size w w') : Lib.TabIs Tryd.prog w' "internal/strconv.uint64pow10" .u64 Lib.pow10Tab := by
  unfold Lib.TabIs World.var? at h ⊢
  rw [gTab] at h ⊢
  simp only [Option.bind_some] at h ⊢
  cases h0 : w.heap[3]? with
  | none => rw [h0] at h; cases h
  | some o =>
    have hlt : 3 < w.heap.size := by
      rcases Nat.lt_or_ge 3 w.heap.size with h' | h'
      · exact h'
      · rw [Array.getElem?_eq_none h'] at h0; cases h0
    rw [hb.block 3 hlt]
    exact h
theorem below_of_grow {w w' : World} {k : Nat} {os : Array Obj} (h : w' = Go.Sort.grow (w.drewN k) os) : Below w.heap.size w w' := by
  subst h
  refine ⟨rfl, rfl, rfl, ?_, fun j hj => ?_⟩
  · simp [Go.Sort.grow, World.drewN]
  · simp only [Go.Sort.grow, World.drewN]
    exact Array.getElem?_append_left hj
set_option maxHeartbeats 2000000 in
theorem calls_text {n : Int} (hn : I64 n) (s : ByteArray) (hs : s.data.toList = Lib.itoa n) (w : World) (htab : Lib.TabIs Tryd.prog w "internal/strconv.uint64pow10" .u64 Lib.pow10Tab) :
    Calls Tryd.prog 69 #[.int .i64 n] w fun e w' => e = .returned (.string s) ∧ Below w.heap.size w w' := by
  have hI := Tryd.strconv_FormatInt_10 n hn.1 hn.2 w htab
  have hs' : (⟨(Lib.itoa n).toArray⟩ : ByteArray) = s := by
    cases s with
    | mk d => cases d with
      | mk l => simp only at hs; rw [hs]
  rw [hs'] at hI
  clear hs hs' htab hn
  go_enter Tryd.func69, Tryd.ntmps69
  go_wp2_with (go_at_call 89; refine hI.mono ?_)
  rintro e W1 ⟨rfl, k, os, hW⟩
  have hb := below_of_grow hW
  clear hW
  go_wp2
  go_ret
  exact ⟨rfl, hb⟩
set_option maxHeartbeats 2000000 in
theorem calls_parse_ok (s : ByteArray) (hmax : s.size ≤ 9223372036854775806) (n : Int) (h : Lib.parseIntB 64 s.data.toList = .ok n) (hn : I64 n) (w : World) (htab : Lib.TabIs Tryd.prog w "internal/strconv.uint64pow10" .u64 Lib.pow10Tab)
    (s' : ByteArray) (hs : s'.data.toList = Lib.itoa n) : Calls Tryd.prog 37 #[.string s] w fun e w' => e = .returned (.tuple #[.int .i64 (if s' = s then n else 0), .bool (decide (s' = s))]) ∧ Below w.heap.size w w' := by
  have hI := Any.strconv_ParseInt_10_at64_ok Tryd.laysC174 s hmax n h w
  have hT : ∀ W1, Below w.heap.size w W1 → Calls Tryd.prog 69 #[.int .i64 n] W1 fun e w' => e = .returned (.string s') ∧ Below W1.heap.size W1 w' := fun W1 hb => calls_text hn s' hs W1 (tab_below htab hb)
  clear h htab hs hn
  go_enter Tryd.func37, Tryd.ntmps37
  go_wp2_with (go_at_call 68; refine hI.mono ?_)
  rintro e W1 ⟨rfl, hW⟩
  have hb1 : Below w.heap.size w W1 := by
    rcases hW with rfl | ⟨t, rfl⟩
    · exact Below.refl _ _
    · exact Lib.bytesWorld_below _ _ _
  have hT1 := hT W1 hb1
  clear hW hT hI
  go_wp2_with (go_at_call 69; refine hT1.mono ?_)
  rintro e W2 ⟨rfl, hb2⟩
  have hb := hb1.trans (hb2.mono hb1.size)
  clear hT1 hb1 hb2
  by_cases hss : s' = s
  · subst hss
    go_wp2
    go_ret2
    simp only [if_true, decide_true]
    exact ⟨rfl, hb⟩
  · have ht : ¬ s'.toList = s.toList := fun e => hss (by
      simp only [ByteArray.toList_eq] at e
      exact bytes_eq e)
    go_wp2
    · go_ret2
      simp only [hss, if_false, decide_false]
      exact ⟨rfl, hb⟩
    · rename_i hx
      exact absurd (by simpa using hx) ht
theorem calls_pint_err (s : ByteArray) (hlim : s.size ≤ 281474976710656) (w : World) (h : Lib.parseIntB 64 s.data.toList = Lib.parseIntB 64 [] ∨ Lib.parseIntB 64 s.data.toList = .range)
    (h1 : ∃ t p, w.cell? ⟨0, 0, none⟩ = some (.iface t p)) (h2 : ∃ t p, w.cell? ⟨1, 0, none⟩ = some (.iface t p)) :
    Calls Tryd.prog 68 #[.string s, .int .i64 10, .int .i64 64] w fun e w' => ∃ v N, e = .returned (.tuple #[.int .i64 v, .iface 130 (.pointer (some ⟨N, 0, none⟩))]) ∧ Below w.heap.size w w' := by
  rcases h with h | h
  · obtain ⟨t, p, hv⟩ := h1
    refine (Any.strconv_ParseInt_10_at64_syntax Tryd.laysC174 s hlim h _ w hv (.inr ⟨t, p, rfl⟩)).mono ?_
    rintro e w' ⟨N, rfl, _, _, hb⟩
    exact ⟨0, N, rfl, hb⟩
  · obtain ⟨t, p, hv⟩ := h2
    refine (Any.strconv_ParseInt_10_at64_range Tryd.laysC174 s hlim h _ w hv (.inr ⟨t, p, rfl⟩)).mono ?_
    rintro e w' ⟨N, rfl, _, _, hb⟩
    exact ⟨_, N, rfl, hb⟩
set_option maxHeartbeats 2000000 in
theorem calls_parse_err (s : ByteArray) (hlim : s.size ≤ 281474976710656) (w : World) (h : Lib.parseIntB 64 s.data.toList = Lib.parseIntB 64 [] ∨ Lib.parseIntB 64 s.data.toList = .range)
    (h1 : ∃ t p, w.cell? ⟨0, 0, none⟩ = some (.iface t p)) (h2 : ∃ t p, w.cell? ⟨1, 0, none⟩ = some (.iface t p)) :
    Calls Tryd.prog 37 #[.string s] w fun e w' => e = .returned (.tuple #[.int .i64 0, .bool false]) ∧ Below w.heap.size w w' := by
  have hI := calls_pint_err s hlim w h h1 h2
  clear h h1 h2
  go_enter Tryd.func37, Tryd.ntmps37
  go_wp2_with (go_at_call 68; refine hI.mono ?_)
  rintro e W1 ⟨v, N, rfl, hb⟩
  go_wp2
  go_ret2
  exact ⟨rfl, hb⟩
def parseW (s : List UInt8) : Int × Bool :=
  match Lib.parseIntB 64 s with
  | .ok n => if Lib.itoa n = s then (n, true) else (0, false)
  | _ => (0, false)
theorem ofItoa (n : Int) : (⟨(Lib.itoa n).toArray⟩ : ByteArray).data.toList = Lib.itoa n := by simp
theorem bytes_mk (s : List UInt8) : (⟨s.toArray⟩ : ByteArray).data.toList = s := by simp
theorem bytes_size (s : List UInt8) : (⟨s.toArray⟩ : ByteArray).size = s.length := by simp [ByteArray.size]
theorem tab_cell {c : Ctx} {m : Mem} {w : World} (h : MR c m w) (g : Nat) (hg : g = 0 ∨ g = 1) : ∃ t p, w.cell? ⟨g, 0, none⟩ = some (.iface t p) := by
  have : ∃ Φ, tabC g = some Φ ∧ ∀ cs, Φ cs → ∃ t p, cs = #[Value.iface t p] := by
    rcases hg with rfl | rfl <;> exact ⟨_, rfl, fun _ h => h⟩
  obtain ⟨Φ, hΦ, hc⟩ := this
  obtain ⟨_, cs, T, f, h1, h2⟩ := h.tab g Φ hΦ
  obtain ⟨t, p, rfl⟩ := hc cs h2
  refine ⟨t, p, ?_⟩
  simp [World.cell?, h1]
theorem parse_pure {s : List UInt8} (h : s.length ≤ 281474976710656) : Pure Tryd.prog 37 [.d (.str s)] (.tup [.d (.int .i64 (parseW s).1), .d (.bool (parseW s).2)]) := by
  refine pure_of_below fun c w vs hr hM => ?_
  simp only [RelL, Rel, RelD] at hr
  obtain ⟨v1, vs1, rfl, rfl, rfl⟩ := hr
  have hs := bytes_mk s
  have hz := bytes_size s
  have key : Calls Tryd.prog 37 #[.string ⟨s.toArray⟩] w fun e w' => e = .returned (.tuple #[.int .i64 (parseW s).1, .bool (parseW s).2]) ∧ Below w.heap.size w w' := by
    have hE := calls_parse_err ⟨s.toArray⟩ (by omega) w
    rw [hs] at hE
    unfold parseW
    rcases hp : Lib.parseIntB 64 s with n | _ | _
    rotate_left
    · exact hE (.inl hp) (tab_cell hM 0 (.inl rfl)) (tab_cell hM 1 (.inr rfl))
    · exact hE (.inr hp) (tab_cell hM 0 (.inl rfl)) (tab_cell hM 1 (.inr rfl))
    · have hn : I64 n := by
        have := Lib.parseIntB_bounds hp
        simp at this
        unfold I64; omega
      have := calls_parse_ok ⟨s.toArray⟩ (by omega) n (by rw [hs]; exact hp) hn w (tabIs hM) ⟨(Lib.itoa n).toArray⟩ (ofItoa n)
      refine this.mono ?_
      rintro e w' ⟨rfl, hb⟩
      refine ⟨?_, hb⟩
      by_cases he : Lib.itoa n = s
      · simp [he]
      · have : ¬ (⟨(Lib.itoa n).toArray⟩ : ByteArray) = ⟨s.toArray⟩ := fun e => he (by have := congrArg (fun b : ByteArray => b.data.toList) e; simpa using this)
        simp [he, this]
  refine key.mono ?_
  rintro e w' ⟨rfl, hb⟩
  exact ⟨_, rfl, hb.os, hb.tape, hb.output, hb.size, fun k hk => hb.block k hk, (by simp [Rel, RelL, RelD])⟩
end Go.Proofs.YtpfbljkfbjjlkaaDoor

/- Whole numbers of 64 bits: plain laws. -/
namespace Go.Proofs.YtpfbljkfbjjlkaaDoor
open Go Go.Jq
set_option maxRecDepth 100000
set_option linter.unusedSimpArgs false
theorem u64_mod (n : Int) : IntKind.u64.wrap n = n % 18446744073709551616 := by
  simp only [IntKind.wrap, IntKind.signed, IntKind.bits, Bool.false_and, Bool.false_eq_true, if_false]
  rfl
theorem i64_mod (n : Int) : IntKind.i64.wrap (n % 18446744073709551616) = IntKind.i64.wrap n := by
  have e : (2 : Int) ^ 64 = 18446744073709551616 := rfl
  simp only [IntKind.wrap, IntKind.signed, IntKind.bits, e, Int.emod_emod]
def bv (n : Int) : BitVec 64 := BitVec.ofInt 64 n
theorem wrap_bv (n : Int) : IntKind.i64.wrap n = (bv n).toInt := by
  unfold bv
  rw [BitVec.toInt_ofInt, Int.bmod_def]
  have e1 : (2 : Int) ^ 64 = 18446744073709551616 := rfl
  have e2 : (2 : Int) ^ 63 = 9223372036854775808 := rfl
  simp only [IntKind.wrap, IntKind.signed, IntKind.bits, Bool.true_and, Nat.reduceSub, e1, e2, decide_eq_true_eq, ge_iff_le]
  simp only [Nat.reducePow]
  split <;> split <;> omega
theorem bv_id {n : Int} (h : I64 n) : (bv n).toInt = n := by
  rw [← wrap_bv]
  unfold I64 at h
  have e1 : (2 : Int) ^ 64 = 18446744073709551616 := rfl
  have e2 : (2 : Int) ^ 63 = 9223372036854775808 := rfl
  simp only [IntKind.wrap, IntKind.signed, IntKind.bits, Bool.true_and, Nat.reduceSub, e1, e2, decide_eq_true_eq, ge_iff_le]
  split <;> omega
theorem wrap_id {n : Int} (h : I64 n) : IntKind.i64.wrap n = n := by rw [wrap_bv, bv_id h]
theorem wrap_nat (v : BitVec 64) : IntKind.i64.wrap v.toNat = v.toInt := by
  rw [wrap_bv]
  congr 1
  unfold bv
  simp
theorem bits_and_bv (a b : Int) : bits .and .i64 a b = (bv a &&& bv b).toInt := wrap_nat _
theorem and_mask (k : Int) (m : Nat) (hm : m < 9223372036854775808) : 0 ≤ bits .and .i64 k m ∧ bits .and .i64 k m ≤ m := by
  have h : (bv k &&& bv m).toNat ≤ m := by
    rw [BitVec.toNat_and]
    refine Nat.le_trans Nat.and_le_right ?_
    unfold bv
    simp
    omega
  rw [bits_and_bv, ← wrap_nat, wrap_id (by unfold I64; omega)]
  omega
end Go.Proofs.YtpfbljkfbjjlkaaDoor

/- Numbers' texts: plain laws. -/
namespace Go.Proofs.YtpfbljkfbjjlkaaDoor
open Go Go.Jq
set_option maxRecDepth 100000
set_option linter.unusedSimpArgs false
theorem parseUintM_digit (M acc d : Nat) (r : List UInt8) (hd : d < 10) (ha : acc < 1844674407370955162) (hM : acc * 10 + d ≤ M) : Lib.parseUintM M acc (UInt8.ofNat (48 + d) :: r) = Lib.parseUintM M (acc * 10 + d) r := by
  have h1 : (UInt8.ofNat (48 + d)).toNat = 48 + d := by simp; omega
  rw [Lib.parseUintM, h1, if_pos (by omega), if_neg (by omega), if_neg (by omega)]
  congr 1
  omega
theorem parseUintM_dec (u : Nat) : ∀ (r : List UInt8), u ≤ 18446744073709551615 → Lib.parseUintM 18446744073709551615 0 (Lib.decDigits u ++ r) = Lib.parseUintM 18446744073709551615 u r := by
  induction u using Nat.strongRecOn with
  | _ u ih =>
    intro r hu
    by_cases h : u < 10
    · rw [Lib.decDigits_one h]
      have := parseUintM_digit 18446744073709551615 0 u r h (by omega) (by omega)
      simpa using this
    · rw [Lib.decDigits, dif_neg h, List.append_assoc, ih (u / 10) (by omega) _ (by omega), List.singleton_append, parseUintM_digit _ _ _ _ (by omega) (by omega) (by omega)]
      congr 1
      omega
theorem decDigits_ne (u : Nat) : Lib.decDigits u ≠ [] := by
  intro h
  have := Lib.decDigits_length u
  rw [h] at this
  have := Lib.nDigits_pos u
  simp at *
  omega
theorem parseUintB_dec {u : Nat} (hu : u ≤ 18446744073709551615) : Lib.parseUintB 64 (Lib.decDigits u) = .ok u := by
  unfold Lib.parseUintB
  rw [if_neg (decDigits_ne u)]
  have := parseUintM_dec u [] hu
  rw [List.append_nil] at this
  rw [show 2 ^ 64 - 1 = 18446744073709551615 from rfl, this]
  rfl
theorem decDigits_head (u : Nat) : ∃ (d : Nat) (r : List UInt8), Lib.decDigits u = UInt8.ofNat (48 + d) :: r ∧ d < 10 ∧ (d = 0 → u = 0) := by
  induction u using Nat.strongRecOn with
  | _ u ih =>
    by_cases h : u < 10
    · exact ⟨u, [], Lib.decDigits_one h, h, id⟩
    · obtain ⟨d, r, h1, h2, h3⟩ := ih (u / 10) (by omega)
      refine ⟨d, r ++ [UInt8.ofNat (48 + u % 10)], ?_, h2, fun hd => ?_⟩
      · rw [Lib.decDigits, dif_neg h, h1]; rfl
      · have := h3 hd; omega
theorem parse_itoa {n : Int} (h : I64 n) : Lib.parseIntB 64 (Lib.itoa n) = .ok n := by
  obtain ⟨h0, h1⟩ := h
  unfold Lib.itoa
  split
  · rename_i hn
    rw [Lib.parseIntB_minus, parseUintB_dec (by omega)]
    simp only [Lib.signedC]
    rw [if_neg (by simp; omega)]
    congr 1
    omega
  · rename_i hn
    obtain ⟨d, r, hd, hd1, _⟩ := decDigits_head n.toNat
    have hc : (UInt8.ofNat (48 + d)).toNat = 48 + d := by simp; omega
    have hp := parseUintB_dec (u := n.toNat) (by omega)
    rw [hd] at hp ⊢
    rw [Lib.parseIntB_plain _ _ _ (by omega) (by omega), hp]
    simp only [Lib.signlessC]
    rw [if_neg (by simp; omega)]
    congr 1
    omega
theorem parseW_itoa {n : Int} (h : I64 n) : parseW (Lib.itoa n) = (n, true) := by
  unfold parseW
  rw [parse_itoa h]
  simp
theorem parseW_text {s : List UInt8} (h : (parseW s).2 = true) : Lib.itoa (parseW s).1 = s ∧ I64 (parseW s).1 := by
  unfold parseW at h ⊢
  rcases hp : Lib.parseIntB 64 s with n | _ | _
  · rw [hp] at h
    simp only at h ⊢
    split at h
    · rename_i he
      rw [if_pos he]
      refine ⟨he, ?_⟩
      have := Lib.parseIntB_bounds hp
      simp at this
      unfold I64; omega
    · cases h
  · rw [hp] at h; cases h
  · rw [hp] at h; cases h
theorem parseW_no {s : List UInt8} (h : (parseW s).2 = false) : parseW s = (0, false) := by
  unfold parseW at h ⊢
  rcases hp : Lib.parseIntB 64 s with n | _ | _
  · rw [hp] at h
    simp only at h ⊢
    split at h
    · cases h
    · rename_i he
      rw [if_neg he]
  · rfl
  · rfl
end Go.Proofs.YtpfbljkfbjjlkaaDoor

/- The abstract layer: guards that hang on a test not yet decided. -/
namespace Go.Jq
open Go
section
variable {P : Program} {dst : Option Nat} {op : AOp} {r : List AOper} {K : St → Prop} {t : Fr} {m : Mem} {n : Nat} {want b : Bool} {acc : List Foot} {ms : List Nat}
theorem gateK_split (h1 : b = true → gateK P dst op r K t m n want (.d (.bool true))) (h0 : b = false → gateK P dst op r K t m n want (.d (.bool false))) : gateK P dst op r K t m n want (.d (.bool b)) := by
  cases b
  · exact h0 rfl
  · exact h1 rfl
theorem dGateK_split (h1 : b = true → dGateK P dst op r acc ms K t m n want (.d (.bool true))) (h0 : b = false → dGateK P dst op r acc ms K t m n want (.d (.bool false))) : dGateK P dst op r acc ms K t m n want (.d (.bool b)) := by
  cases b
  · exact h0 rfl
  · exact h1 rfl
end
theorem take_snoc {α : Type} (l : List α) (i : Nat) (h : i < l.length) : l.take (i + 1) = l.take i ++ [l[i]] := by
  rw [List.take_add_one, List.getElem?_eq_getElem h]; rfl
end Go.Jq

/- The document's numbers' texts. -/
namespace Go.Proofs.YtpfbljkfbjjlkaaDoor
open Go Go.Jq
set_option maxRecDepth 100000
set_option linter.unusedSimpArgs false
def dropSeq : Nat → ACode → ACode
  | 0, c => c
  | n + 1, .seq _ b => dropSeq n b
  | _, c => c
theorem digits_at : ∀ k : Fin 10, List.drop k.1 ((48 : UInt8) :: List.take k.1 [49, 50, 51, 52, 53, 54, 55, 56, 57]) = [UInt8.ofNat (48 + k.1)] := by decide
theorem wrap_u64_neg {n : Int} (h0 : -9223372036854775808 ≤ n) (h1 : n < 0) : IntKind.u64.wrap n = n + 18446744073709551616 := by
  unfold IntKind.wrap
  simp only [IntKind.signed, IntKind.bits, Bool.false_and, Bool.false_eq_true, if_false]
  omega
def rtS (u : Nat) (s sg : List UInt8) : St := ⟨[(3, .d (.int .u64 u)), (5, .d (.str s)), (4, .d (.str sg))], [], 0⟩
set_option maxHeartbeats 2000000 in
theorem rt_loop {u0 : Nat} (hu : u0 < 18446744073709551616) {sg : List UInt8} {Q : Exit → St → Prop}
    (hQ : ∀ u s, u < 10 → Lib.decDigits u0 = UInt8.ofNat (48 + u) :: s → Q (.exit 0) (rtS u s sg)) :
    BWP Tryd.prog (mbound []) 37 (.loop ac19L0) (rtS u0 [] sg) Q := by
  refine bwp_fam (ι := { p : Nat × List UInt8 // p.1 ≤ u0 ∧ Lib.decDigits u0 = Lib.decDigits p.1 ++ p.2 ∧ p.2.length + Lib.nDigits p.1 = Lib.nDigits u0 }) (fun p => rtS p.1.1 p.1.2 sg) (fun p => p.1.1) ⟨(u0, []), Nat.le_refl _, by simp, by simp⟩ ?_
  rintro ⟨⟨u, s⟩, hle, he, hln⟩
  simp only at hle he hln ⊢
  have hn0 := nDigits_le 19 u0 (by simp; omega)
  unfold ac19L0 rtS
  by_cases hb : 9 < u
  · have hb' : (9 : Int) < (u : Int) := by omega
    have hr : u % 10 < 10 := Nat.mod_lt _ (by omega)
    have hw : IntKind.i64.wrap ((u % 10 : Nat) : Int) = ((u % 10 : Nat) : Int) := wrap_i64 (by omega) (by omega)
    have hw1 : IntKind.i64.wrap (((u % 10 : Nat) : Int) + 1) = ((u % 10 + 1 : Nat) : Int) := by rw [wrap_i64 (by omega) (by omega)]; rfl
    have hw2 : IntKind.u64.wrap ((u / 10 : Nat) : Int) = ((u / 10 : Nat) : Int) := wrap_u64 (by omega) (by omega)
    have hdg := digits_at ⟨u % 10, hr⟩
    have e1 : (u : Int).tmod 10 = ((u % 10 : Nat) : Int) := rfl
    have e2 : (u : Int).tdiv 10 = ((u / 10 : Nat) : Int) := rfl
    have hd : Lib.decDigits u = Lib.decDigits (u / 10) ++ [UInt8.ofNat (48 + u % 10)] := by rw [Lib.decDigits, dif_neg (by omega)]
    have hnd : Lib.nDigits u = Lib.nDigits (u / 10) + 1 := Lib.nDigits_big (by omega)
    have b1 : 1 + s.length ≤ 9223372036854775807 := by have := Lib.nDigits_pos u; omega
    simp only at hdg
    refine bwp_seq fun K1 hK1 => ?_
    refine bwp_seq fun K hK => bwp_region rfl ?_
    simp only [go_sem, ↓reduceIte, Nat.reduceEqDiff, Nat.reduceAdd, hb']
    refine hK _ ?_; clear hK
    refine bwp_cond true (by simp [ev, fget, hb']) (fun _ => ?_) (fun h => nomatch h)
    refine bwp_skip ?_
    refine hK1 _ ?_; clear hK1
    refine bwp_block ?_
    generalize hq : u % 10 = q at *
    have q1 : (0 : Int) ≤ (q : Int) := Int.natCast_nonneg _
    have q2 : q ≤ q + 1 ∧ q + 1 ≤ 10 := by omega
    have q3 : (0 : Int) ≤ ((q + 1 : Nat) : Int) := Int.natCast_nonneg _
    have q4 : q ≤ q + 1 := by omega
    have q5 : q + 1 ≤ 10 := by omega
    refine bwp_seq fun K hK => bwp_region rfl ?_
    simp only [go_sem, ↓reduceIte, Nat.reduceEqDiff, Nat.reduceAdd, Nat.reduceLeDiff, Nat.reduceMul, Int.reduceEq, e1, hw]
    refine hK _ ?_; clear hK
    refine bwp_seq fun K hK => bwp_region rfl ?_
    simp -implicitDefEqProofs only [go_sem, ↓reduceIte, Nat.reduceEqDiff, Nat.reduceAdd, Nat.reduceLeDiff, Nat.reduceMul, Nat.reduceSub, Int.reduceLE, Int.reduceLT, Int.reduceEq, Int.reduceToNat, Int.reducePow, Int.reduceNeg, hw1, q1, q3, Int.toNat_natCast, List.length_cons, List.length_nil, Nat.zero_add, q2, q4, q5, hdg, b1, Option.map_some]
    refine hK _ ?_; clear hK
    refine bwp_region rfl ?_
    simp only [go_sem, ↓reduceIte, Nat.reduceEqDiff, Nat.reduceAdd, Nat.reduceLeDiff, Nat.reduceMul, Int.reduceEq, e2, hw2]
    refine ⟨⟨(u / 10, UInt8.ofNat (48 + q) :: s), by simp only; omega, by simp only; rw [he, hd]; simp, by simp only [List.length_cons]; omega⟩, by simp only; omega, ?_⟩
    exact Leads.ent [] ⟨by simp [entT, fget, AV.ren, renL, pget, rtS], by simp [entM, rtS], rfl, rfl⟩
  · have hb' : ¬ (9 : Int) < (u : Int) := by omega
    refine bwp_seq fun K1 hK1 => ?_
    refine bwp_seq fun K hK => bwp_region rfl ?_
    simp only [go_sem, ↓reduceIte, Nat.reduceEqDiff, Nat.reduceAdd, hb']
    refine hK _ ?_; clear hK
    refine bwp_cond false (by simp [ev, fget, hb']) (fun h => nomatch h) (fun _ => ?_)
    refine bwp_leads (S' := rtS u s sg) (Leads.ent [] ⟨by simp [entT, fget, AV.ren, renL, pget, rtS], by simp [entM, pinv, mget, mset, renL, AV.ren, pget, renL_append, -List.map_map, rtS], rfl, rfl⟩) ?_
    refine bwp_exit (hQ u s (by omega) ?_)
    rw [he, Lib.decDigits, dif_pos (by omega)]
    rfl
set_option maxHeartbeats 2000000 in
theorem refText_pure {n : Int} (h : I64 n) : Pure Tryd.prog 19 [.d (.int .i64 n)] (.d (.str (Lib.itoa n))) := by
  obtain ⟨h0, h1⟩ := h
  have hfin : ∀ (S : St) (sg : List UInt8) (K : St → Prop), sg.length ≤ 1 → Lib.itoa n = sg ++ Lib.decDigits n.natAbs → Leads (mbound []) 37 S ⟨[(3, .d (.int .u64 n.natAbs)), (4, .d (.str sg))], [], 0⟩ →
      (∀ S', BWP Tryd.prog (mbound []) 37 (dropSeq 4 ac19) S' (AEnd Tryd.prog #[.tmp 2] (mbound []) fun r m' => r = .d (.str (Lib.itoa n)) ∧ m' = []) → K S') → K S := by
    intro S sg K hsg hit hS hK
    refine hK _ ?_; clear hK
    refine bwp_leads hS ?_
    unfold ac19
    simp only [dropSeq]
    refine bwp_seq fun K hK => bwp_region rfl ?_
    simp only [go_sem, ↓reduceIte, Nat.reduceEqDiff, Nat.reduceAdd]
    refine hK _ ?_; clear hK
    refine bwp_seq fun K1 hK1 => ?_
    refine bwp_block ?_
    refine bwp_leads (S' := rtS n.natAbs [] sg) (Leads.ent [] ⟨by simp [entT, fget, AV.ren, renL, pget, rtS], by simp [entM, pinv, mget, mset, renL, AV.ren, pget, renL_append, -List.map_map, rtS], rfl, rfl⟩) ?_
    refine rt_loop (by omega) ?_
    intro u s hu hd
    have hl := itoa_len (n := n) ⟨h0, h1⟩
    rw [hit, hd] at hl
    simp only [List.length_append, List.length_cons] at hl
    unfold rtS
    simp only [go_sem, ↓reduceIte, Nat.reduceEqDiff, Nat.reduceAdd]
    refine hK1 _ ?_; clear hK1
    have hw : IntKind.i64.wrap (u : Int) = (u : Int) := wrap_i64 (by omega) (by omega)
    have hw1 : IntKind.i64.wrap ((u : Int) + 1) = ((u + 1 : Nat) : Int) := by rw [wrap_i64 (by omega) (by omega)]; rfl
    have hdg := digits_at ⟨u, hu⟩
    simp only at hdg
    have q1 : (0 : Int) ≤ (u : Int) := Int.natCast_nonneg _
    have q3 : (0 : Int) ≤ ((u + 1 : Nat) : Int) := Int.natCast_nonneg _
    have q4 : u ≤ u + 1 := by omega
    have q5 : u + 1 ≤ 10 := by omega
    have q2 : u ≤ u + 1 ∧ u + 1 ≤ 10 := ⟨q4, q5⟩
    have b1 : sg.length + 1 ≤ 9223372036854775807 := by omega
    have b2 : sg.length + 1 + s.length ≤ 9223372036854775807 := by omega
    refine bwp_seq fun K hK => bwp_region rfl ?_
    simp only [go_sem, ↓reduceIte, Nat.reduceEqDiff, Nat.reduceAdd, hw]
    refine hK _ ?_; clear hK
    refine bwp_seq fun K hK => bwp_region rfl ?_
    simp only [go_sem, ↓reduceIte, Nat.reduceEqDiff, Nat.reduceAdd, hw1, q1, q3, Int.toNat_natCast, List.length_cons, List.length_nil, List.length_append, Nat.zero_add, q2, q4, q5, hdg, b1, b2, Option.map_some]
    refine hK _ ?_; clear hK
    refine bwp_ret ?_
    simp only [go_sem]
    refine aend_ret _ rfl rfl ⟨?_, rfl⟩
    simp [fget, hit, hd]
  refine acalls_of Tryd.func19 ac19_ok Tryd.ntmps19 Tryd.results19 rfl ?_
  unfold ac19
  refine bwp_seq fun K hK => bwp_region rfl ?_
  simp only [go_sem, ↓reduceIte, Nat.reduceEqDiff, Nat.reduceAdd]
  refine hK _ ?_; clear hK
  by_cases hn : n < 0
  · have hw := wrap_u64_neg h0 hn
    have hw2 : IntKind.u64.wrap (0 - (n + 18446744073709551616)) = (n.natAbs : Int) := by
      unfold IntKind.wrap
      simp only [IntKind.signed, IntKind.bits, Bool.false_and, Bool.false_eq_true, if_false]
      omega
    refine bwp_seq fun K hK => bwp_region rfl ?_
    simp only [go_sem, ↓reduceIte, Nat.reduceEqDiff, Nat.reduceAdd, hw]
    refine hK _ ?_; clear hK
    refine bwp_seq fun K hK => bwp_region rfl ?_
    simp only [go_sem, ↓reduceIte, Nat.reduceEqDiff, Nat.reduceAdd]
    refine hK _ ?_; clear hK
    refine bwp_seq fun K0 hK0 => ?_
    refine bwp_seq fun K hK => bwp_region rfl ?_
    simp only [go_sem, ↓reduceIte, Nat.reduceEqDiff, Nat.reduceAdd, hn]
    refine hK _ ?_; clear hK
    refine bwp_cond true (by simp [ev, fget, hn]) (fun _ => ?_) (fun h => nomatch h)
    refine bwp_seq fun K hK => bwp_region rfl ?_
    simp only [go_sem, ↓reduceIte, Nat.reduceEqDiff, Nat.reduceAdd, hw2]
    refine hK _ ?_; clear hK
    refine bwp_region rfl ?_
    simp only [go_sem, ↓reduceIte, Nat.reduceEqDiff, Nat.reduceAdd]
    refine hfin _ [45] K0 (by simp) (by simp [Lib.itoa, hn]) ?_ hK0
    exact Leads.ent [] ⟨by simp [entT, fget, AV.ren, renL, pget], by simp [entM], rfl, rfl⟩
  · have hw : IntKind.u64.wrap n = (n.natAbs : Int) := by rw [wrap_u64 (by omega) (by omega)]; omega
    refine bwp_seq fun K hK => bwp_region rfl ?_
    simp only [go_sem, ↓reduceIte, Nat.reduceEqDiff, Nat.reduceAdd, hw]
    refine hK _ ?_; clear hK
    refine bwp_seq fun K hK => bwp_region rfl ?_
    simp only [go_sem, ↓reduceIte, Nat.reduceEqDiff, Nat.reduceAdd]
    refine hK _ ?_; clear hK
    refine bwp_seq fun K0 hK0 => ?_
    refine bwp_seq fun K hK => bwp_region rfl ?_
    simp only [go_sem, ↓reduceIte, Nat.reduceEqDiff, Nat.reduceAdd, hn]
    refine hK _ ?_; clear hK
    refine bwp_cond false (by simp [ev, fget, hn]) (fun h => nomatch h) (fun _ => ?_)
    refine bwp_skip ?_
    refine hfin _ [] K0 (by simp) (by have : n.toNat = n.natAbs := by omega
                                      simp [Lib.itoa, hn, this]) ?_ hK0
    exact Leads.ent [] ⟨by simp [entT, fget, AV.ren, renL, pget], by simp [entM], rfl, rfl⟩
end Go.Proofs.YtpfbljkfbjjlkaaDoor

/- The document's numbers of texts. -/
namespace Go.Proofs.YtpfbljkfbjjlkaaDoor
open Go Go.Jq
set_option maxRecDepth 100000
set_option linter.unusedSimpArgs false
def digB (c : UInt8) : Bool := decide (48 ≤ c.toNat) && decide (c.toNat ≤ 57)
def valD (d : List UInt8) : Nat := d.foldl (fun a c => 10 * a + (c.toNat - 48)) 0
theorem valD_snoc (d : List UInt8) (c : UInt8) : valD (d ++ [c]) = 10 * valD d + (c.toNat - 48) := by simp [valD, List.foldl_append]
theorem digB_ofNat {k : Nat} (h : k < 10) : digB (UInt8.ofNat (48 + k)) = true ∧ (UInt8.ofNat (48 + k)).toNat - 48 = k := by
  have h1 : (UInt8.ofNat (48 + k)).toNat = 48 + k := by simp; omega
  unfold digB
  rw [h1]
  simp
  omega
theorem dig_dec (u : Nat) : (Lib.decDigits u).all digB = true ∧ valD (Lib.decDigits u) = u := by
  induction u using Nat.strongRecOn with
  | _ u ih =>
    by_cases h : u < 10
    · rw [Lib.decDigits_one h]
      obtain ⟨h1, h2⟩ := digB_ofNat h
      refine ⟨by rw [List.all_cons, h1]; rfl, ?_⟩
      have := valD_snoc [] (UInt8.ofNat (48 + u))
      rw [List.nil_append] at this
      rw [this, h2]
      simp [valD]
    · obtain ⟨h1, h2⟩ := digB_ofNat (Nat.mod_lt u (by decide : 0 < 10))
      obtain ⟨i1, i2⟩ := ih (u / 10) (by omega)
      rw [Lib.decDigits, dif_neg h]
      refine ⟨by rw [List.all_append, i1, List.all_cons, h1]; rfl, ?_⟩
      rw [valD_snoc, i2, h2]
      omega
theorem valD_pos {c : UInt8} {r : List UInt8} (hd : (c :: r).all digB = true) (hc : c ≠ 48) : 1 ≤ valD (c :: r) := by
  have hc1 : 49 ≤ c.toNat := by
    simp only [List.all_cons, digB, Bool.and_eq_true, decide_eq_true_eq] at hd
    have : c.toNat ≠ 48 := fun h => hc (by apply UInt8.toNat_inj.1; exact h)
    omega
  have key : ∀ (r : List UInt8) (a : Nat), 1 ≤ a → 1 ≤ r.foldl (fun a c => 10 * a + (c.toNat - 48)) a := by
    intro r
    induction r with
    | nil => intro a h; exact h
    | cons x r ih => intro a h; exact ih _ (by show 1 ≤ 10 * a + _; omega)
  exact key r _ (by show 1 ≤ 10 * 0 + (c.toNat - 48); omega)
theorem dec_val : ∀ (n : Nat) (d : List UInt8), d.length = n → d ≠ [] → d.all digB = true → (d.getD 0 0 = 48 → d.length = 1) → Lib.decDigits (valD d) = d := by
  intro n
  induction n with
  | zero => intro d h hd; exact absurd (List.eq_nil_of_length_eq_zero h) hd
  | succ n ih =>
    intro d hl hne ha hz
    obtain ⟨e, c, rfl⟩ : ∃ e c, d = e ++ [c] := ⟨d.dropLast, d.getLast hne, (List.dropLast_concat_getLast hne).symm⟩
    rw [List.all_append, Bool.and_eq_true] at ha
    obtain ⟨ha1, ha2⟩ := ha
    simp only [List.all_cons, List.all_nil, Bool.and_true, digB, Bool.and_eq_true, decide_eq_true_eq] at ha2
    have hc : UInt8.ofNat (48 + (c.toNat - 48)) = c := by
      apply UInt8.toNat_inj.1
      simp
      omega
    rw [valD_snoc]
    cases e with
    | nil =>
      simp only [List.nil_append, valD, List.foldl_nil, Nat.mul_zero, Nat.zero_add]
      rw [Lib.decDigits_one (by omega), hc]
    | cons x r =>
      have hx : x ≠ 48 := by
        intro h
        have := hz (by simp [h])
        simp at this
      have hv := valD_pos ha1 hx
      have := ih (x :: r) (by simpa using hl) (by simp) ha1 (fun h => absurd (by simpa using h) hx)
      rw [Lib.decDigits, dif_neg (by omega)]
      rw [show (10 * valD (x :: r) + (c.toNat - 48)) / 10 = valD (x :: r) by omega, show (10 * valD (x :: r) + (c.toNat - 48)) % 10 = c.toNat - 48 by omega, this, hc]
def refD (neg : Bool) (d : List UInt8) : Int × Bool :=
  if d = [] ∨ 19 < d.length ∨ (d.getD 0 0 = 48 ∧ (1 < d.length ∨ neg = true)) then (0, false)
  else if d.all digB = true then
    (if neg = true then (IntKind.i64.wrap (IntKind.u64.wrap (0 - (valD d : Int))), decide ((valD d : Int) ≤ 9223372036854775808)) else (IntKind.i64.wrap (valD d), decide ((valD d : Int) < 9223372036854775808)))
  else (0, false)
def refW (s : List UInt8) : Int × Bool :=
  match s with
  | [] => refD false []
  | c :: r => if c = 45 then refD true r else refD false (c :: r)
def numW (s : List UInt8) : Int × Bool := if (refW s).2 = true then refW s else (0, false)
theorem refD_itoa_neg {u : Nat} (h1 : 1 ≤ u) (h2 : u ≤ 9223372036854775808) : refD true (Lib.decDigits u) = (-(u : Int), true) := by
  obtain ⟨a1, a2⟩ := dig_dec u
  obtain ⟨d, r, e, hd, hz⟩ := decDigits_head u
  have hl : (Lib.decDigits u).length ≤ 19 := by
    rw [Lib.decDigits_length]
    exact nDigits_le 18 u (by simp; omega)
  have hh : (Lib.decDigits u).getD 0 0 ≠ 48 := by
    rw [e]
    intro h
    have : (UInt8.ofNat (48 + d)).toNat = 48 := congrArg UInt8.toNat h
    simp at this
    have := hz (by omega)
    omega
  unfold refD
  rw [if_neg (by rintro (h | h | h); exact decDigits_ne u h; omega; exact hh h.1), if_pos a1, if_pos rfl, a2]
  have : IntKind.i64.wrap (IntKind.u64.wrap (0 - (u : Int))) = -(u : Int) := by
    rw [u64_mod, i64_mod, wrap_id (by unfold I64; omega)]; omega
  rw [this]
  simp
  omega
theorem refD_itoa_pos {u : Nat} (h2 : u < 9223372036854775808) : refD false (Lib.decDigits u) = ((u : Int), true) := by
  obtain ⟨a1, a2⟩ := dig_dec u
  obtain ⟨d, r, e, hd, hz⟩ := decDigits_head u
  have hl : (Lib.decDigits u).length ≤ 19 := by
    rw [Lib.decDigits_length]
    exact nDigits_le 18 u (by simp; omega)
  have hh : (Lib.decDigits u).getD 0 0 = 48 → (Lib.decDigits u).length = 1 := by
    intro h
    rw [e] at h
    have : (UInt8.ofNat (48 + d)).toNat = 48 := congrArg UInt8.toNat h
    simp at this
    have := hz (by omega)
    subst this
    rw [Lib.decDigits_one (by decide)]
    rfl
  unfold refD
  rw [if_neg (by rintro (h | h | ⟨h, h' | h'⟩); exact decDigits_ne u h; omega; have := hh h; omega; cases h'), if_pos a1, if_neg (by decide), a2, wrap_id (by unfold I64; omega)]
  simp
  omega
theorem refW_itoa {n : Int} (h : I64 n) : refW (Lib.itoa n) = (n, true) := by
  obtain ⟨h0, h1⟩ := h
  unfold Lib.itoa
  split
  · simp only [refW]
    rw [if_pos trivial, refD_itoa_neg (by omega) (by omega)]
    congr 1
    omega
  · obtain ⟨d, r, e, hd, hz⟩ := decDigits_head n.toNat
    have hp := refD_itoa_pos (u := n.toNat) (by omega)
    rw [e] at hp ⊢
    simp only [refW]
    rw [if_neg (by intro h; have := congrArg UInt8.toNat h; simp at this; omega), hp]
    congr 1
    omega
theorem refW_text {s : List UInt8} (h : (refW s).2 = true) : Lib.itoa (refW s).1 = s ∧ I64 (refW s).1 := by
  have key : ∀ (neg : Bool) (d : List UInt8), (refD neg d).2 = true → d ≠ [] ∧ Lib.decDigits (valD d) = d ∧ (if neg = true then (refD neg d).1 = -(valD d : Int) ∧ 1 ≤ valD d ∧ valD d ≤ 9223372036854775808 else (refD neg d).1 = (valD d : Int) ∧ valD d < 9223372036854775808) := by
    intro neg d hd
    unfold refD at hd ⊢
    split at hd
    · cases hd
    rename_i hc
    rw [if_neg hc]
    split at hd
    · rename_i ha
      rw [if_pos ha]
      have hne : d ≠ [] := fun h => hc (.inl h)
      have hz : d.getD 0 0 = 48 → d.length = 1 ∧ neg = false := fun h => by
        refine ⟨?_, ?_⟩
        · have : ¬ 1 < d.length := fun h' => hc (.inr (.inr ⟨h, .inl h'⟩))
          have : d.length ≠ 0 := fun h' => hne (List.eq_nil_of_length_eq_zero h')
          omega
        · cases neg with
          | false => rfl
          | true => exact absurd (.inr (.inr ⟨h, .inr rfl⟩)) hc
      refine ⟨hne, dec_val _ d rfl hne ha (fun h => (hz h).1), ?_⟩
      cases neg with
      | true =>
        rw [if_pos rfl] at hd ⊢
        simp only [if_true, decide_eq_true_eq] at hd ⊢
        have h1 : 1 ≤ valD d := by
          cases d with
          | nil => exact absurd rfl hne
          | cons c r => exact valD_pos ha (fun h => by have := (hz (by simp [h])).2; cases this)
        refine ⟨?_, h1, by omega⟩
        rw [u64_mod, i64_mod, wrap_id (by unfold I64; omega)]; omega
      | false =>
        rw [if_neg (by decide)] at hd ⊢
        simp only [if_false, decide_eq_true_eq, Bool.false_eq_true] at hd ⊢
        exact ⟨wrap_id (by unfold I64; omega), by omega⟩
    · cases hd
  cases s with
  | nil => exact absurd rfl (key false [] h).1
  | cons c r =>
    simp only [refW] at h ⊢
    split at h
    · rename_i hc
      subst hc
      rw [if_pos rfl]
      obtain ⟨_, k2, k3⟩ := key true r h
      rw [if_pos rfl] at k3
      rw [k3.1]
      refine ⟨?_, by unfold I64; omega⟩
      unfold Lib.itoa
      rw [if_pos (by omega), show (-(valD r : Int)).natAbs = valD r by omega, k2]
    · rename_i hc
      rw [if_neg hc]
      obtain ⟨_, k2, k3⟩ := key false (c :: r) h
      rw [if_neg (by decide)] at k3
      rw [k3.1]
      refine ⟨?_, by unfold I64; omega⟩
      unfold Lib.itoa
      rw [if_neg (by omega), show ((valD (c :: r) : Int)).toNat = valD (c :: r) by omega, k2]
theorem numW_eq (s : List UInt8) : numW s = parseW s := by
  unfold numW
  cases h : (refW s).2 with
  | true =>
    obtain ⟨h1, h2⟩ := refW_text h
    rw [if_pos rfl]
    have := parseW_itoa h2
    rw [h1] at this
    rw [this, ← h]
  | false =>
    rw [if_neg (by decide)]
    cases hp : (parseW s).2 with
    | true =>
      obtain ⟨h1, h2⟩ := parseW_text hp
      have := refW_itoa h2
      rw [h1] at this
      rw [this] at h
      cases h
    | false => rw [parseW_no hp]
end Go.Proofs.YtpfbljkfbjjlkaaDoor

/- Tokens of a text: what they are, in plain words. -/
namespace Go.Proofs.YtpfbljkfbjjlkaaDoor
open Go Go.Jq
set_option maxRecDepth 100000
set_option linter.unusedSimpArgs false
structure Tok where
  kd : Int
  tx : List UInt8
  pl : Nat
  deriving DecidableEq
def Tok.cells (t : Tok) : List DV := [.int .i64 t.kd, .str t.tx, .int .i64 t.pl]
def blankB (c : UInt8) : Bool := c == 32 || c == 9 || c == 10
def letB (c : UInt8) : Bool := decide (97 ≤ c.toNat) && decide (c.toNat ≤ 122)
def alnB (c : UInt8) : Bool := letB c || digB c
def skipN : Bool → List UInt8 → Nat
  | _, [] => 0
  | true, c :: r => 1 + skipN (c != 10) r
  | false, c :: r => if blankB c = true then 1 + skipN false r else if c = 35 then 1 + skipN true r else 0
def skipA (s : List UInt8) (at' : Nat) : Nat := at' + skipN false (s.drop at')
def runL : List UInt8 → Nat
  | [] => 0
  | c :: r => if alnB c = true then 1 + runL r else 0
def ones : List UInt8 := [123, 125, 59, 58, 61, 43, 45, 42, 38, 124, 94, 60]
def signL : List UInt8 → Nat
  | [] => 0
  | c :: r =>
    if (c = 60 ∧ r.head? = some 60) ∨ (c = 62 ∧ r.head? = some 62) ∨ ((c = 61 ∨ c = 33) ∧ r.head? = some 61) then 2
    else if c ∈ ones then 1 else 0
def noTok : Tok := ⟨0, [], 0⟩
def tokAt (a : Nat) : List UInt8 → Tok × Nat × Int
  | [] => (⟨4, [], a⟩, a, 0)
  | c :: r =>
    if letB c = true then (⟨1, c :: r.take (runL r), a⟩, a + (1 + runL r), 0)
    else if digB c = true ∨ (c = 45 ∧ (r.head?.map digB).getD false = true) then
      (if (parseW (c :: r.take (runL r))).2 = true then (⟨2, c :: r.take (runL r), a⟩, a + (1 + runL r), 0) else (noTok, a, 5))
    else if signL (c :: r) = 0 then (noTok, a, 4)
    else (⟨3, (c :: r).take (signL (c :: r)), a⟩, a + signL (c :: r), 0)
def nextW (s : List UInt8) (at' : Nat) : Tok × Nat × Int := tokAt (skipA s at') (s.drop (skipA s at'))
def errAt (s : List UInt8) (at' : Nat) : Nat := if (nextW s at').2.2 = 0 then 0 else skipA s at'
theorem skipN_le : ∀ (b : Bool) (l : List UInt8), skipN b l ≤ l.length
  | _, [] => by simp [skipN]
  | true, c :: r => by have := skipN_le (c != 10) r; simp only [skipN, List.length_cons]; omega
  | false, c :: r => by
    have h1 := skipN_le false r
    have h2 := skipN_le true r
    simp only [skipN, List.length_cons]
    split
    · omega
    · split <;> omega
theorem skipA_le {s : List UInt8} {a : Nat} (h : a ≤ s.length) : skipA s a ≤ s.length := by
  have := skipN_le false (s.drop a)
  rw [List.length_drop] at this
  unfold skipA
  omega
theorem le_skipA (s : List UInt8) (a : Nat) : a ≤ skipA s a := Nat.le_add_right ..
theorem runL_le : ∀ l : List UInt8, runL l ≤ l.length
  | [] => by simp [runL]
  | c :: r => by have := runL_le r; simp only [runL, List.length_cons]; split <;> omega
theorem signL_le : ∀ l : List UInt8, signL l ≤ l.length ∧ signL l ≤ 2
  | [] => by simp [signL]
  | c :: r => by
    rw [signL]
    split
    · rename_i h
      cases r with
      | nil => simp at h
      | cons d r => simp
    · split <;> simp
theorem tokAt_to (a : Nat) (l : List UInt8) : a ≤ (tokAt a l).2.1 ∧ (tokAt a l).2.1 ≤ a + l.length ∧ ((tokAt a l).2.2 = 0 → (tokAt a l).1.kd ≠ 4 → a < (tokAt a l).2.1) := by
  cases l with
  | nil => simp [tokAt]
  | cons c r =>
    have h1 := runL_le r
    have h2 := signL_le (c :: r)
    rw [tokAt]
    simp only [List.length_cons] at h2 ⊢
    split
    · simp only; omega
    · split
      · split
        · simp only; omega
        · simp
      · split
        · simp
        · simp only; omega
theorem nextW_to {s : List UInt8} {a : Nat} (h : a ≤ s.length) : a ≤ (nextW s a).2.1 ∧ (nextW s a).2.1 ≤ s.length ∧ ((nextW s a).2.2 = 0 → (nextW s a).1.kd ≠ 4 → a < (nextW s a).2.1) := by
  have h1 := tokAt_to (skipA s a) (s.drop (skipA s a))
  have h2 := skipA_le h
  have h3 := le_skipA s a
  rw [List.length_drop] at h1
  unfold nextW
  refine ⟨by omega, by omega, fun h4 h5 => ?_⟩
  have := h1.2.2 h4 h5
  omega
theorem tokAt_text (a : Nat) (l : List UInt8) (h : (tokAt a l).2.2 = 0) : (tokAt a l).1.pl = a ∧ (tokAt a l).1.tx = l.take ((tokAt a l).2.1 - a) ∧ (tokAt a l).2.1 = a + (tokAt a l).1.tx.length ∧ ((tokAt a l).1.kd = 4 ↔ l = []) := by
  cases l with
  | nil => simp [tokAt]
  | cons c r =>
    have h1 := runL_le r
    have h2 := signL_le (c :: r)
    rw [tokAt] at h ⊢
    split
    · simp [Nat.add_sub_cancel_left, Nat.add_comm 1]; omega
    · rename_i hc
      rw [if_neg hc] at h
      split
      · rename_i hd
        rw [if_pos hd] at h
        split
        · simp [Nat.add_sub_cancel_left, Nat.add_comm 1]; omega
        · rename_i hp
          rw [if_neg hp] at h
          cases h
      · rename_i hd
        rw [if_neg hd] at h
        split
        · rename_i hs
          rw [if_pos hs] at h
          cases h
        · simp only [List.length_cons] at h2; simp [Nat.add_sub_cancel_left]; omega
end Go.Proofs.YtpfbljkfbjjlkaaDoor

/- Tokens of a text: plain laws. -/
namespace Go.Proofs.YtpfbljkfbjjlkaaDoor
open Go Go.Jq
set_option maxRecDepth 100000
set_option linter.unusedSimpArgs false
def heads (c : UInt8) : Prop := blankB c = false ∧ c ≠ 35
theorem skip_zero {c : UInt8} (r : List UInt8) (h : heads c) : skipN false (c :: r) = 0 := by
  simp [skipN, h.1, h.2]
theorem let_heads {c : UInt8} (h : letB c = true) : heads c := by
  simp only [letB, Bool.and_eq_true, decide_eq_true_eq] at h
  constructor
  · simp only [blankB, Bool.or_eq_false_iff, beq_eq_false_iff_ne]
    refine ⟨⟨?_, ?_⟩, ?_⟩ <;> (rintro rfl; simp at h)
  · rintro rfl; simp at h
theorem dig_heads {c : UInt8} (h : digB c = true) : heads c := by
  simp only [digB, Bool.and_eq_true, decide_eq_true_eq] at h
  constructor
  · simp only [blankB, Bool.or_eq_false_iff, beq_eq_false_iff_ne]
    refine ⟨⟨?_, ?_⟩, ?_⟩ <;> (rintro rfl; simp at h)
  · rintro rfl; simp at h
end Go.Proofs.YtpfbljkfbjjlkaaDoor

/- Tokens with blanks between: plain laws. -/
namespace Go.Proofs.YtpfbljkfbjjlkaaDoor
open Go Go.Jq
set_option maxRecDepth 100000
set_option linter.unusedSimpArgs false
end Go.Proofs.YtpfbljkfbjjlkaaDoor

/- Rows of tokens: plain laws. -/
namespace Go.Proofs.YtpfbljkfbjjlkaaDoor
open Go Go.Jq
set_option maxRecDepth 100000
set_option linter.unusedSimpArgs false
def TL (s : List UInt8) : Nat → List Tok → Prop
  | _, [] => False
  | a, t :: r => ∃ e, nextW s a = (t, e, 0) ∧ (if t.kd = 4 then r = [] else TL s e r)
theorem next_text {s : List UInt8} {a e : Nat} {t : Tok} (ha : a ≤ s.length) (h : nextW s a = (t, e, 0)) : t.pl = skipA s a ∧ t.tx = (s.drop t.pl).take t.tx.length ∧ e = t.pl + t.tx.length ∧ a ≤ t.pl ∧ e ≤ s.length ∧ (t.kd = 4 ↔ t.pl = s.length) ∧ (t.kd = 4 → t.tx = [] ∧ e = s.length) := by
  have h1 := tokAt_text (skipA s a) (s.drop (skipA s a)) (by unfold nextW at h; rw [h])
  have h2 := nextW_to ha
  have h3 := skipA_le ha
  have h4 := le_skipA s a
  unfold nextW at h
  rw [h] at h1
  rw [show nextW s a = (t, e, 0) from h] at h2
  simp only at h1 h2
  obtain ⟨p1, p2, p3, p4⟩ := h1
  have hk : t.kd = 4 ↔ t.pl = s.length := by
    rw [p4, p1]
    constructor
    · intro h5
      have := congrArg List.length h5
      rw [List.length_drop, List.length_nil] at this
      omega
    · intro h5; rw [h5, List.drop_length]
  have ht : t.tx = (s.drop t.pl).take t.tx.length := by
    have : e - skipA s a = t.tx.length := by omega
    rw [p1, ← this]
    exact p2
  refine ⟨p1, ht, by omega, by omega, h2.2.1, hk, fun h5 => ?_⟩
  have h6 := hk.1 h5
  have : t.tx = [] := by
    rw [ht, h6, List.drop_length, List.take_nil]
  refine ⟨this, ?_⟩
  rw [this] at p3
  simp at p3
  omega
end Go.Proofs.YtpfbljkfbjjlkaaDoor

/- The functions' code with its types resolved, as the layer's 'cCode' gives it. Written by a program of this session's (wip/x/dump.lean). -/
namespace Go.Proofs.YtpfbljkfbjjlkaaDoor
open Go Go.Jq
set_option maxRecDepth 100000
-- 11 jacquard/jacquardlaw3.ParseWords
-- 12 jacquard/jacquardlaw3.ParseNames
-- 13 jacquard/jacquardlaw3.ParseConds
-- 14 jacquard/jacquardlaw3.ParseBack
def ac14L0 : ACode := (.seq (.seq (.region false [ ⟨(some 56), .mv (.t 11), none⟩, ⟨(some 57), .mv (.t 9), none⟩, ⟨(some 58), .lens (.t 57), none⟩, ⟨(some 59), .bin .lss (.t 56) (.t 58), none⟩] []) (.cond (.t 59) .skip (.exit 2))) (.seq (.block 3 (.seq (.region false [ ⟨(some 62), .mv (.t 10), none⟩, ⟨(some 63), .mv (.t 9), none⟩, ⟨(some 64), .mv (.t 11), none⟩, ⟨(some 65), .mv (.t 11), none⟩, ⟨(some 66), .bin .add (.t 65) (.c (.d (.int .i64 1))), none⟩, ⟨(some 67), .slcs (.t 63) (some (.t 64)) (some (.t 66)), none⟩, ⟨(some 68), .bin .add (.t 62) (.t 67), none⟩, ⟨(some 10), .mv (.t 68), none⟩] []) (.seq (.region false [ ⟨(some 69), .mv (.t 9), none⟩, ⟨(some 70), .mv (.t 11), none⟩, ⟨(some 71), .idxs (.t 69) (.t 70), none⟩, ⟨(some 72), .bin .eql (.t 71) (.c (.d (.int .u8 32))), none⟩, ⟨(some 73), .mv (.t 72), none⟩, ⟨(some 74), .mv (.t 2), (some (73, true))⟩, ⟨(some 75), .mv (.t 11), (some (73, true))⟩, ⟨(some 76), .bin .and (.t 75) (.c (.d (.int .i64 15))), (some (73, true))⟩, ⟨(some 77), .bin .shr (.t 74) (.t 76), (some (73, true))⟩, ⟨(some 78), .bin .and (.t 77) (.c (.d (.int .i64 3))), (some (73, true))⟩, ⟨(some 79), .bin .eql (.t 78) (.c (.d (.int .i64 0))), (some (73, true))⟩, ⟨(some 80), .pick (.t 73) (.t 79) (.c (.d (.bool false))), none⟩] []) (.cond (.t 80) (.region false [ ⟨(some 81), .mv (.t 10), none⟩, ⟨(some 82), .bslice 1 3 [(.d (.str [])), (.d (.str [])), (.d (.str []))] [(0, 1, (.c (.d (.str [10])))), (1, 1, (.c (.d (.str [9, 32])))), (2, 1, (.c (.d (.str [32, 32]))))], none⟩, ⟨(some 83), .mv (.t 11), none⟩, ⟨(some 84), .bin .rem (.t 83) (.c (.d (.int .i64 3))), none⟩, ⟨(some 85), .iaddr 1 none (.t 82) (.t 84), none⟩, ⟨(some 86), .load none (.t 85), none⟩, ⟨(some 87), .bin .add (.t 81) (.t 86), none⟩, ⟨(some 10), .mv (.t 87), none⟩] []) .skip)))) (.region false [ ⟨(some 60), .mv (.t 11), none⟩, ⟨(some 61), .bin .add (.t 60) (.c (.d (.int .i64 1))), none⟩, ⟨(some 11), .mv (.t 61), none⟩] [])))
def ac14L1 : ACode := (.seq (.seq (.region false [ ⟨(some 40), .mv (.t 8), none⟩, ⟨(some 41), .bin .lss (.t 40) (.c (.d (.int .i64 2))), none⟩] []) (.cond (.t 41) .skip (.exit 0))) (.seq (.block 1 (.seq (.seq (.region false [ ⟨(some 44), .mv (.t 8), none⟩, ⟨(some 45), .bin .eql (.t 44) (.c (.d (.int .i64 1))), none⟩] []) (.cond (.t 45) (.region false [ ⟨(some 46), .load (some 5) (.t 7), none⟩, ⟨none, .store 5 (.t 3) (.t 46), none⟩] []) .skip)) (.seq (.region false [ ⟨(some 47), .load (some 5) (.t 3), none⟩, ⟨(some 48), .callf 30 [(.t 47)], none⟩, ⟨(some 9), .mv (.t 48), none⟩] []) (.seq (.seq (.region false [ ⟨(some 49), .mv (.t 9), none⟩, ⟨(some 50), .bin .eql (.t 49) (.c (.d (.str []))), none⟩, ⟨(some 51), .mv (.t 50), none⟩, ⟨(some 52), .mv (.t 9), (some (51, false))⟩, ⟨(some 53), .lens (.t 52), (some (51, false))⟩, ⟨(some 54), .bin .gtr (.t 53) (.c (.d (.int .i64 3000))), (some (51, false))⟩, ⟨(some 55), .pick (.t 51) (.c (.d (.bool true))) (.t 54), none⟩] []) (.cond (.t 55) (.exit 1) .skip)) (.seq (.region false [ ⟨(some 10), .mv (.c (.d (.str []))), none⟩] []) (.seq (.seq (.region false [ ⟨(some 11), .mv (.c (.d (.int .i64 0))), none⟩] []) (.block 2 (.loop ac14L0))) (.seq (.seq (.region false [ ⟨(some 88), .mv (.t 10), none⟩, ⟨(some 89), .lens (.t 88), none⟩, ⟨(some 90), .bin .gtr (.t 89) (.c (.d (.int .i64 4000))), none⟩] []) (.cond (.t 90) (.exit 1) .skip)) (.seq (.region false [ ⟨(some 92), .mv (.t 10), none⟩, ⟨(some 93), .callf 25 [(.t 92)], none⟩, ⟨(some 91), .mv (.t 93), none⟩, ⟨(some 94), .ext (.t 91) 0, none⟩, ⟨(some 95), .ext (.t 91) 1, none⟩, ⟨(some 12), .alloc [(.d (.str [])), (.d .nsl), (.d .nsl), (.d (.int .i64 0)), (.d .nsl)], none⟩, ⟨(some 13), .alloc [(.d (.int .i64 0)), (.d (.int .i64 0))], none⟩, ⟨none, .store 5 (.t 12) (.t 94), none⟩, ⟨none, .store 2 (.t 13) (.t 95), none⟩] []) (.seq (.region false [ ⟨(some 96), .load (some 2) (.t 13), none⟩, ⟨(some 97), .build [(.d (.int .i64 0)), (.d (.int .i64 0))] [], none⟩, ⟨(some 98), .eqs [0, 0] true (.t 96) (.t 97), none⟩, ⟨(some 99), .mv (.t 98), none⟩, ⟨(some 100), .load (some 5) (.t 12), (some (99, false))⟩, ⟨(some 101), .load (some 5) (.t 3), (some (99, false))⟩, ⟨(some 102), .callf 27 [(.t 100), (.t 101)], (some (99, false))⟩, ⟨(some 103), .un .not (.t 102), (some (99, false))⟩, ⟨(some 104), .pick (.t 99) (.c (.d (.bool true))) (.t 103), none⟩] []) (.cond (.t 104) (.seq (.region false [ ⟨(some 6), .mv (.c (.d (.bool false))), none⟩] []) .ret) .skip)))))))))) (.region false [ ⟨(some 42), .mv (.t 8), none⟩, ⟨(some 43), .bin .add (.t 42) (.c (.d (.int .i64 1))), none⟩, ⟨(some 8), .mv (.t 43), none⟩] [])))
def ac14 : ACode := (.seq (.region false [ ⟨(some 3), .box (.t 0), none⟩, ⟨(some 6), .mv (.c (.d (.bool false))), none⟩] []) (.seq (.seq (.region false [ ⟨(some 14), .faddr (.t 3) 2, none⟩, ⟨(some 15), .load none (.t 14), none⟩, ⟨(some 16), .lenl (.t 15), none⟩, ⟨(some 17), .bin .gtr (.t 16) (.c (.d (.int .i64 6))), none⟩, ⟨(some 18), .mv (.t 17), none⟩, ⟨(some 19), .faddr (.t 3) 1, (some (18, false))⟩, ⟨(some 20), .load none (.t 19), (some (18, false))⟩, ⟨(some 21), .lenl (.t 20), (some (18, false))⟩, ⟨(some 22), .bin .gtr (.t 21) (.c (.d (.int .i64 10))), (some (18, false))⟩, ⟨(some 23), .pick (.t 18) (.c (.d (.bool true))) (.t 22), none⟩, ⟨(some 24), .mv (.t 23), none⟩, ⟨(some 25), .faddr (.t 3) 0, (some (24, false))⟩, ⟨(some 26), .load none (.t 25), (some (24, false))⟩, ⟨(some 27), .lens (.t 26), (some (24, false))⟩, ⟨(some 28), .bin .gtr (.t 27) (.c (.d (.int .i64 50))), (some (24, false))⟩, ⟨(some 29), .pick (.t 24) (.c (.d (.bool true))) (.t 28), none⟩, ⟨(some 30), .mv (.t 29), none⟩, ⟨(some 31), .faddr (.t 3) 3, (some (30, false))⟩, ⟨(some 32), .faddr (.t 31) 1, (some (30, false))⟩, ⟨(some 33), .load none (.t 32), (some (30, false))⟩, ⟨(some 34), .lenl (.t 33), (some (30, false))⟩, ⟨(some 35), .bin .gtr (.t 34) (.c (.d (.int .i64 10))), (some (30, false))⟩, ⟨(some 36), .pick (.t 30) (.c (.d (.bool true))) (.t 35), none⟩] []) (.cond (.t 36) (.seq (.region false [ ⟨(some 37), .callf 24 [], none⟩, ⟨(some 6), .mv (.t 37), none⟩] []) .ret) .skip)) (.seq (.region false [ ⟨(some 38), .mv (.t 1), none⟩, ⟨(some 39), .callf 29 [(.t 38), (.c (.d (.int .i64 8)))], none⟩, ⟨(some 7), .alloc [(.d (.str [])), (.d .nsl), (.d .nsl), (.d (.int .i64 0)), (.d .nsl)], none⟩, ⟨none, .store 5 (.t 7) (.t 39), none⟩] []) (.seq (.seq (.region false [ ⟨(some 8), .mv (.c (.d (.int .i64 0))), none⟩] []) (.block 0 (.loop ac14L1))) (.seq (.region false [ ⟨(some 105), .callf 24 [], none⟩, ⟨(some 6), .mv (.t 105), none⟩] []) .ret)))))
theorem ac14_ok : Tryd.f14.body.bind (cCode Tryd.prog Tryd.f14.ntmps) = some ac14 := by kernel_rfl
-- 15 jacquard/jacquardlaw3.ParseFirst
-- 24 jacquard/jacquardlaw3.awake
def ac24 : ACode := (.seq (.region false [ ⟨(some 0), .mv (.c (.d (.bool false))), none⟩] []) (.seq (.region false [ ⟨(some 4), .callf 25 [(.c (.d (.str [116, 101, 115, 116, 32, 97, 32, 123, 32, 116, 104, 114, 101, 97, 100, 32, 123, 32, 102, 101, 110, 99, 101, 32, 59, 32, 125, 32, 125])))], none⟩, ⟨(some 3), .mv (.t 4), none⟩, ⟨(some 5), .ext (.t 3) 0, none⟩, ⟨(some 6), .ext (.t 3) 1, none⟩, ⟨(some 1), .alloc [(.d (.str [])), (.d .nsl), (.d .nsl), (.d (.int .i64 0)), (.d .nsl)], none⟩, ⟨(some 2), .alloc [(.d (.int .i64 0)), (.d (.int .i64 0))], none⟩, ⟨none, .store 5 (.t 1) (.t 5), none⟩, ⟨none, .store 2 (.t 2) (.t 6), none⟩] []) (.seq (.region false [ ⟨(some 7), .load (some 2) (.t 2), none⟩, ⟨(some 8), .build [(.d (.int .i64 0)), (.d (.int .i64 0))] [], none⟩, ⟨(some 9), .eqs [0, 0] false (.t 7) (.t 8), none⟩, ⟨(some 10), .mv (.t 9), none⟩, ⟨(some 11), .faddr (.t 1) 0, (some (10, true))⟩, ⟨(some 12), .load none (.t 11), (some (10, true))⟩, ⟨(some 13), .bin .eql (.t 12) (.c (.d (.str [97]))), (some (10, true))⟩, ⟨(some 14), .pick (.t 10) (.t 13) (.c (.d (.bool false))), none⟩, ⟨(some 15), .mv (.t 14), none⟩, ⟨(some 16), .faddr (.t 1) 2, (some (15, true))⟩, ⟨(some 17), .load none (.t 16), (some (15, true))⟩, ⟨(some 18), .lenl (.t 17), (some (15, true))⟩, ⟨(some 19), .bin .eql (.t 18) (.c (.d (.int .i64 1))), (some (15, true))⟩, ⟨(some 20), .pick (.t 15) (.t 19) (.c (.d (.bool false))), none⟩, ⟨(some 21), .mv (.t 20), none⟩, ⟨(some 22), .faddr (.t 1) 2, (some (21, true))⟩, ⟨(some 23), .load none (.t 22), (some (21, true))⟩, ⟨(some 24), .iaddr 1 none (.t 23) (.c (.d (.int .i64 0))), (some (21, true))⟩, ⟨(some 25), .load none (.t 24), (some (21, true))⟩, ⟨(some 26), .lenl (.t 25), (some (21, true))⟩, ⟨(some 27), .bin .eql (.t 26) (.c (.d (.int .i64 1))), (some (21, true))⟩, ⟨(some 28), .pick (.t 21) (.t 27) (.c (.d (.bool false))), none⟩, ⟨(some 29), .mv (.t 28), none⟩, ⟨(some 30), .faddr (.t 1) 2, (some (29, true))⟩, ⟨(some 31), .load none (.t 30), (some (29, true))⟩, ⟨(some 32), .iaddr 1 none (.t 31) (.c (.d (.int .i64 0))), (some (29, true))⟩, ⟨(some 33), .load none (.t 32), (some (29, true))⟩, ⟨(some 34), .iaddr 9 none (.t 33) (.c (.d (.int .i64 0))), (some (29, true))⟩, ⟨(some 35), .load (some 9) (.t 34), (some (29, true))⟩, ⟨(some 36), .build [(.d (.int .i64 0)), (.d (.int .i64 0)), (.d (.int .i64 0)), (.d (.int .i64 0)), (.d (.int .i64 0)), (.d (.int .i64 0)), (.d (.int .i64 0)), (.d (.int .i64 0)), (.d (.int .i64 0))] [(0, 1, (.c (.d (.int .i64 3))))], (some (29, true))⟩, ⟨(some 37), .eqs [0, 0, 0, 0, 0, 0, 0, 0, 0] false (.t 35) (.t 36), (some (29, true))⟩, ⟨(some 38), .pick (.t 29) (.t 37) (.c (.d (.bool false))), none⟩, ⟨(some 0), .mv (.t 38), none⟩] []) .ret)))
theorem ac24_ok : Tryd.f24.body.bind (cCode Tryd.prog Tryd.f24.ntmps) = some ac24 := by kernel_rfl
-- 25 jacquard/parse.Parse
def ac25L0 : ACode := (.seq (.seq (.region false [ ⟨(some 32), .mv (.t 5), none⟩, ⟨(some 33), .callf 47 [(.t 32), (.c (.d (.str [116, 104, 114, 101, 97, 100])))], none⟩] []) (.cond (.t 33) .skip (.exit 0))) (.block 1 (.region true [ ⟨(some 34), .faddr (.t 6) 2, none⟩, ⟨(some 35), .load none (.t 34), none⟩, ⟨(some 36), .mv (.t 5), none⟩, ⟨(some 37), .callf 49 [(.t 36)], none⟩, ⟨(some 38), .bslice 1 1 [(.d .nsl)] [(0, 1, (.t 37))], none⟩, ⟨(some 39), .app 1 24 82 (.t 35) (.t 38), none⟩, ⟨(some 40), .faddr (.t 6) 2, none⟩, ⟨none, .store 1 (.t 40) (.t 39), none⟩] [0, 1, 0, 4, 8, 26, 63, 127])))
def ac25 : ACode := (.seq (.region false [ ⟨(some 2), .alloc [(.d (.str [])), (.d .nsl), (.d .nsl), (.d (.int .i64 0)), (.d .nsl)], none⟩, ⟨(some 3), .alloc [(.d (.int .i64 0)), (.d (.int .i64 0))], none⟩] []) (.seq (.seq (.region false [ ⟨(some 7), .mv (.t 0), none⟩, ⟨(some 8), .callf 31 [(.t 7)], none⟩, ⟨(some 4), .alloc [(.d (.int .i64 0)), (.d (.int .i64 0))], none⟩, ⟨none, .store 2 (.t 4) (.t 8), none⟩] []) (.seq (.region false [ ⟨(some 9), .faddr (.t 4) 0, none⟩, ⟨(some 10), .load none (.t 9), none⟩, ⟨(some 11), .bin .neq (.t 10) (.c (.d (.int .i64 0))), none⟩] []) (.cond (.t 11) (.seq (.region true [ ⟨(some 12), .build [(.d (.str [])), (.d .nsl), (.d .nsl), (.d (.int .i64 0)), (.d .nsl)] [], none⟩, ⟨(some 13), .load (some 2) (.t 4), none⟩, ⟨none, .store 5 (.t 2) (.t 12), none⟩, ⟨none, .store 2 (.t 3) (.t 13), none⟩] [0, 0, 1, 7]) .ret) .skip))) (.seq (.region false [ ⟨(some 14), .mv (.t 0), none⟩, ⟨(some 15), .callf 20 [(.t 14)], none⟩, ⟨(some 16), .build [(.d .nptr), (.d (.int .i64 0)), (.d (.str [])), (.d (.int .i64 0)), (.d (.int .i64 0)), (.d (.int .i64 0))] [(0, 1, (.t 15))], none⟩, ⟨(some 17), .box (.t 16), none⟩, ⟨(some 5), .mv (.t 17), none⟩] []) (.seq (.region false [ ⟨(some 18), .mv (.t 5), none⟩, ⟨(some 19), .callf 44 [(.t 18)], none⟩] []) (.seq (.region false [ ⟨(some 6), .alloc [(.d (.str [])), (.d .nsl), (.d .nsl), (.d (.int .i64 0)), (.d .nsl)], none⟩] []) (.seq (.region false [ ⟨(some 20), .mv (.t 5), none⟩, ⟨(some 21), .callf 45 [(.t 20), (.c (.d (.str [116, 101, 115, 116])))], none⟩] []) (.seq (.region false [ ⟨(some 22), .mv (.t 5), none⟩, ⟨(some 23), .callf 46 [(.t 22)], none⟩, ⟨(some 24), .faddr (.t 6) 0, none⟩, ⟨none, .store 1 (.t 24) (.t 23), none⟩] []) (.seq (.region false [ ⟨(some 25), .mv (.t 5), none⟩, ⟨(some 26), .callf 45 [(.t 25), (.c (.d (.str [123])))], none⟩] []) (.seq (.seq (.region false [ ⟨(some 27), .mv (.t 5), none⟩, ⟨(some 28), .callf 47 [(.t 27), (.c (.d (.str [105, 110, 105, 116])))], none⟩] []) (.cond (.t 28) (.region false [ ⟨(some 29), .mv (.t 5), none⟩, ⟨(some 30), .callf 48 [(.t 29)], none⟩, ⟨(some 31), .faddr (.t 6) 1, none⟩, ⟨none, .store 1 (.t 31) (.t 30), none⟩] []) .skip)) (.seq (.block 0 (.loop ac25L0)) (.seq (.block 2 (.seq (.region false [ ⟨(some 42), .mv (.t 5), none⟩, ⟨(some 43), .callf 47 [(.t 42), (.c (.d (.str [101, 120, 105, 115, 116, 115])))], none⟩, ⟨(some 41), .mv (.t 43), none⟩] []) (.cond (.t 41) (.region false [ ⟨(some 44), .mv (.t 5), none⟩, ⟨(some 45), .callf 50 [(.t 44), (.c (.d (.int .i64 1)))], none⟩, ⟨(some 46), .faddr (.t 6) 3, none⟩, ⟨none, .store 2 (.t 46) (.t 45), none⟩] []) (.seq (.region false [ ⟨(some 48), .mv (.t 5), none⟩, ⟨(some 49), .callf 47 [(.t 48), (.c (.d (.str [102, 111, 114, 97, 108, 108])))], none⟩, ⟨(some 47), .mv (.t 49), none⟩] []) (.cond (.t 47) (.region false [ ⟨(some 50), .mv (.t 5), none⟩, ⟨(some 51), .callf 50 [(.t 50), (.c (.d (.int .i64 2)))], none⟩, ⟨(some 52), .faddr (.t 6) 3, none⟩, ⟨none, .store 2 (.t 52) (.t 51), none⟩] []) .skip))))) (.seq (.region false [ ⟨(some 53), .mv (.t 5), none⟩, ⟨(some 54), .callf 45 [(.t 53), (.c (.d (.str [125])))], none⟩] []) (.seq (.seq (.region false [ ⟨(some 55), .mv (.t 5), none⟩, ⟨(some 56), .callf 51 [(.t 55)], none⟩, ⟨(some 57), .mv (.t 56), none⟩, ⟨(some 58), .mv (.t 5), (some (57, true))⟩, ⟨(some 59), .nilck (.t 58), (some (57, true))⟩, ⟨(some 60), .faddr (.t 59) 1, (some (57, true))⟩, ⟨(some 61), .faddr (.t 60) 0, (some (57, true))⟩, ⟨(some 62), .load none (.t 61), (some (57, true))⟩, ⟨(some 63), .bin .neq (.t 62) (.c (.d (.int .i64 4))), (some (57, true))⟩, ⟨(some 64), .pick (.t 57) (.t 63) (.c (.d (.bool false))), none⟩] []) (.cond (.t 64) (.region false [ ⟨(some 65), .mv (.t 5), none⟩, ⟨(some 66), .callf 52 [(.t 65), (.c (.d (.int .i64 6)))], none⟩] []) .skip)) (.seq (.seq (.region false [ ⟨(some 67), .mv (.t 5), none⟩, ⟨(some 68), .callf 51 [(.t 67)], none⟩, ⟨(some 69), .un .not (.t 68), none⟩] []) (.cond (.t 69) (.seq (.region true [ ⟨(some 70), .build [(.d (.str [])), (.d .nsl), (.d .nsl), (.d (.int .i64 0)), (.d .nsl)] [], none⟩, ⟨(some 71), .mv (.t 5), none⟩, ⟨(some 72), .nilck (.t 71), none⟩, ⟨(some 73), .faddr (.t 72) 4, none⟩, ⟨(some 74), .load (some 2) (.t 73), none⟩, ⟨none, .store 5 (.t 2) (.t 70), none⟩, ⟨none, .store 2 (.t 3) (.t 74), none⟩] [0, 0, 2, 4, 8, 1, 63]) .ret) .skip)) (.seq (.region false [ ⟨(some 75), .load (some 5) (.t 6), none⟩, ⟨(some 76), .build [(.d (.int .i64 0)), (.d (.int .i64 0))] [], none⟩, ⟨none, .store 5 (.t 2) (.t 75), none⟩, ⟨none, .store 2 (.t 3) (.t 76), none⟩] []) .ret)))))))))))))))
theorem ac25_ok : Tryd.f25.body.bind (cCode Tryd.prog Tryd.f25.ntmps) = some ac25 := by kernel_rfl
-- 26 jacquard/jacquardref2.Tree
-- 27 jacquard/jacquardref2.Same
def ac27L0 : ACode := (.seq (.seq (.region false [ ⟨(some 39), .mv (.t 5), none⟩, ⟨(some 40), .faddr (.t 2) 1, none⟩, ⟨(some 41), .load none (.t 40), none⟩, ⟨(some 42), .lenl (.t 41), none⟩, ⟨(some 43), .bin .lss (.t 39) (.t 42), none⟩] []) (.cond (.t 43) .skip (.exit 0))) (.seq (.block 1 (.seq (.region true [ ⟨(some 46), .faddr (.t 2) 1, none⟩, ⟨(some 47), .load none (.t 46), none⟩, ⟨(some 48), .mv (.t 5), none⟩, ⟨(some 49), .iaddr 2 none (.t 47) (.t 48), none⟩, ⟨(some 50), .load (some 2) (.t 49), none⟩, ⟨(some 51), .faddr (.t 3) 1, none⟩, ⟨(some 52), .load none (.t 51), none⟩, ⟨(some 53), .mv (.t 5), none⟩, ⟨(some 54), .iaddr 2 none (.t 52) (.t 53), none⟩, ⟨(some 55), .load (some 2) (.t 54), none⟩, ⟨(some 56), .eqs [0, 0] true (.t 50) (.t 55), none⟩] [0, 1, 0, 6, 8, 0, 32, 0, 192, 256, 528]) (.cond (.t 56) (.seq (.region false [ ⟨(some 4), .mv (.c (.d (.bool false))), none⟩] []) .ret) .skip))) (.region false [ ⟨(some 44), .mv (.t 5), none⟩, ⟨(some 45), .bin .add (.t 44) (.c (.d (.int .i64 1))), none⟩, ⟨(some 5), .mv (.t 45), none⟩] [])))
def ac27L1 : ACode := (.seq (.seq (.region false [ ⟨(some 77), .mv (.t 7), none⟩, ⟨(some 78), .faddr (.t 2) 2, none⟩, ⟨(some 79), .load none (.t 78), none⟩, ⟨(some 80), .mv (.t 6), none⟩, ⟨(some 81), .iaddr 1 none (.t 79) (.t 80), none⟩, ⟨(some 82), .load none (.t 81), none⟩, ⟨(some 83), .lenl (.t 82), none⟩, ⟨(some 84), .bin .lss (.t 77) (.t 83), none⟩] []) (.cond (.t 84) .skip (.exit 4))) (.seq (.block 5 (.seq (.region true [ ⟨(some 87), .faddr (.t 2) 2, none⟩, ⟨(some 88), .load none (.t 87), none⟩, ⟨(some 89), .mv (.t 6), none⟩, ⟨(some 90), .iaddr 1 none (.t 88) (.t 89), none⟩, ⟨(some 91), .load none (.t 90), none⟩, ⟨(some 92), .mv (.t 7), none⟩, ⟨(some 93), .iaddr 9 none (.t 91) (.t 92), none⟩, ⟨(some 94), .load (some 9) (.t 93), none⟩, ⟨(some 95), .faddr (.t 3) 2, none⟩, ⟨(some 96), .load none (.t 95), none⟩, ⟨(some 97), .mv (.t 6), none⟩, ⟨(some 98), .iaddr 1 none (.t 96) (.t 97), none⟩, ⟨(some 99), .load none (.t 98), none⟩, ⟨(some 100), .mv (.t 7), none⟩, ⟨(some 101), .iaddr 9 none (.t 99) (.t 100), none⟩, ⟨(some 102), .load (some 9) (.t 101), none⟩, ⟨(some 103), .eqs [0, 0, 0, 0, 0, 0, 0, 0, 0] true (.t 94) (.t 102), none⟩] [0, 1, 0, 6, 8, 0, 48, 64, 0, 256, 0, 1536, 2048, 0, 12288, 16384, 32896]) (.cond (.t 103) (.seq (.region false [ ⟨(some 4), .mv (.c (.d (.bool false))), none⟩] []) .ret) .skip))) (.region false [ ⟨(some 85), .mv (.t 7), none⟩, ⟨(some 86), .bin .add (.t 85) (.c (.d (.int .i64 1))), none⟩, ⟨(some 7), .mv (.t 86), none⟩] [])))
def ac27L2 : ACode := (.seq (.seq (.region false [ ⟨(some 57), .mv (.t 6), none⟩, ⟨(some 58), .faddr (.t 2) 2, none⟩, ⟨(some 59), .load none (.t 58), none⟩, ⟨(some 60), .lenl (.t 59), none⟩, ⟨(some 61), .bin .lss (.t 57) (.t 60), none⟩] []) (.cond (.t 61) .skip (.exit 2))) (.seq (.block 3 (.seq (.seq (.region true [ ⟨(some 64), .faddr (.t 2) 2, none⟩, ⟨(some 65), .load none (.t 64), none⟩, ⟨(some 66), .mv (.t 6), none⟩, ⟨(some 67), .iaddr 1 none (.t 65) (.t 66), none⟩, ⟨(some 68), .load none (.t 67), none⟩, ⟨(some 69), .lenl (.t 68), none⟩, ⟨(some 70), .faddr (.t 3) 2, none⟩, ⟨(some 71), .load none (.t 70), none⟩, ⟨(some 72), .mv (.t 6), none⟩, ⟨(some 73), .iaddr 1 none (.t 71) (.t 72), none⟩, ⟨(some 74), .load none (.t 73), none⟩, ⟨(some 75), .lenl (.t 74), none⟩, ⟨(some 76), .bin .neq (.t 69) (.t 75), none⟩] [0, 1, 0, 6, 8, 16, 0, 64, 0, 384, 512, 1024, 2080]) (.cond (.t 76) (.seq (.region false [ ⟨(some 4), .mv (.c (.d (.bool false))), none⟩] []) .ret) .skip)) (.seq (.region false [ ⟨(some 7), .mv (.c (.d (.int .i64 0))), none⟩] []) (.block 4 (.loop ac27L1))))) (.region false [ ⟨(some 62), .mv (.t 6), none⟩, ⟨(some 63), .bin .add (.t 62) (.c (.d (.int .i64 1))), none⟩, ⟨(some 6), .mv (.t 63), none⟩] [])))
def ac27 : ACode := (.seq (.region false [ ⟨(some 2), .box (.t 0), none⟩, ⟨(some 3), .box (.t 1), none⟩, ⟨(some 4), .mv (.c (.d (.bool false))), none⟩] []) (.seq (.seq (.region false [ ⟨(some 8), .faddr (.t 2) 0, none⟩, ⟨(some 9), .load none (.t 8), none⟩, ⟨(some 10), .faddr (.t 3) 0, none⟩, ⟨(some 11), .load none (.t 10), none⟩, ⟨(some 12), .bin .neq (.t 9) (.t 11), none⟩, ⟨(some 13), .mv (.t 12), none⟩, ⟨(some 14), .faddr (.t 2) 1, (some (13, false))⟩, ⟨(some 15), .load none (.t 14), (some (13, false))⟩, ⟨(some 16), .lenl (.t 15), (some (13, false))⟩, ⟨(some 17), .faddr (.t 3) 1, (some (13, false))⟩, ⟨(some 18), .load none (.t 17), (some (13, false))⟩, ⟨(some 19), .lenl (.t 18), (some (13, false))⟩, ⟨(some 20), .bin .neq (.t 16) (.t 19), (some (13, false))⟩, ⟨(some 21), .pick (.t 13) (.c (.d (.bool true))) (.t 20), none⟩, ⟨(some 22), .mv (.t 21), none⟩, ⟨(some 23), .faddr (.t 2) 2, (some (22, false))⟩, ⟨(some 24), .load none (.t 23), (some (22, false))⟩, ⟨(some 25), .lenl (.t 24), (some (22, false))⟩, ⟨(some 26), .faddr (.t 3) 2, (some (22, false))⟩, ⟨(some 27), .load none (.t 26), (some (22, false))⟩, ⟨(some 28), .lenl (.t 27), (some (22, false))⟩, ⟨(some 29), .bin .neq (.t 25) (.t 28), (some (22, false))⟩, ⟨(some 30), .pick (.t 22) (.c (.d (.bool true))) (.t 29), none⟩, ⟨(some 31), .mv (.t 30), none⟩, ⟨(some 32), .faddr (.t 2) 3, (some (31, false))⟩, ⟨(some 33), .load (some 2) (.t 32), (some (31, false))⟩, ⟨(some 34), .faddr (.t 3) 3, (some (31, false))⟩, ⟨(some 35), .load (some 2) (.t 34), (some (31, false))⟩, ⟨(some 36), .callf 28 [(.t 33), (.t 35)], (some (31, false))⟩, ⟨(some 37), .un .not (.t 36), (some (31, false))⟩, ⟨(some 38), .pick (.t 31) (.c (.d (.bool true))) (.t 37), none⟩] []) (.cond (.t 38) (.seq (.region false [ ⟨(some 4), .mv (.c (.d (.bool false))), none⟩] []) .ret) .skip)) (.seq (.seq (.region false [ ⟨(some 5), .mv (.c (.d (.int .i64 0))), none⟩] []) (.block 0 (.loop ac27L0))) (.seq (.seq (.region false [ ⟨(some 6), .mv (.c (.d (.int .i64 0))), none⟩] []) (.block 2 (.loop ac27L2))) (.seq (.region false [ ⟨(some 4), .mv (.c (.d (.bool true))), none⟩] []) .ret)))))
theorem ac27_ok : Tryd.f27.body.bind (cCode Tryd.prog Tryd.f27.ntmps) = some ac27 := by kernel_rfl
-- 28 jacquard/jacquardref2.SameCond
def ac28L0 : ACode := (.seq (.seq (.region false [ ⟨(some 41), .mv (.t 6), none⟩, ⟨(some 42), .faddr (.t 2) 1, none⟩, ⟨(some 43), .load none (.t 42), none⟩, ⟨(some 44), .mv (.t 5), none⟩, ⟨(some 45), .iaddr 1 none (.t 43) (.t 44), none⟩, ⟨(some 46), .load none (.t 45), none⟩, ⟨(some 47), .lenl (.t 46), none⟩, ⟨(some 48), .bin .lss (.t 41) (.t 47), none⟩] []) (.cond (.t 48) .skip (.exit 2))) (.seq (.block 3 (.seq (.region true [ ⟨(some 51), .faddr (.t 2) 1, none⟩, ⟨(some 52), .load none (.t 51), none⟩, ⟨(some 53), .mv (.t 5), none⟩, ⟨(some 54), .iaddr 1 none (.t 52) (.t 53), none⟩, ⟨(some 55), .load none (.t 54), none⟩, ⟨(some 56), .mv (.t 6), none⟩, ⟨(some 57), .iaddr 4 none (.t 55) (.t 56), none⟩, ⟨(some 58), .load (some 4) (.t 57), none⟩, ⟨(some 59), .faddr (.t 3) 1, none⟩, ⟨(some 60), .load none (.t 59), none⟩, ⟨(some 61), .mv (.t 5), none⟩, ⟨(some 62), .iaddr 1 none (.t 60) (.t 61), none⟩, ⟨(some 63), .load none (.t 62), none⟩, ⟨(some 64), .mv (.t 6), none⟩, ⟨(some 65), .iaddr 4 none (.t 63) (.t 64), none⟩, ⟨(some 66), .load (some 4) (.t 65), none⟩, ⟨(some 67), .eqs [0, 0, 0, 0] true (.t 58) (.t 66), none⟩] [0, 1, 0, 6, 8, 0, 48, 64, 0, 256, 0, 1536, 2048, 0, 12288, 16384, 32896]) (.cond (.t 67) (.seq (.region false [ ⟨(some 4), .mv (.c (.d (.bool false))), none⟩] []) .ret) .skip))) (.region false [ ⟨(some 49), .mv (.t 6), none⟩, ⟨(some 50), .bin .add (.t 49) (.c (.d (.int .i64 1))), none⟩, ⟨(some 6), .mv (.t 50), none⟩] [])))
def ac28L1 : ACode := (.seq (.seq (.region false [ ⟨(some 21), .mv (.t 5), none⟩, ⟨(some 22), .faddr (.t 2) 1, none⟩, ⟨(some 23), .load none (.t 22), none⟩, ⟨(some 24), .lenl (.t 23), none⟩, ⟨(some 25), .bin .lss (.t 21) (.t 24), none⟩] []) (.cond (.t 25) .skip (.exit 0))) (.seq (.block 1 (.seq (.seq (.region true [ ⟨(some 28), .faddr (.t 2) 1, none⟩, ⟨(some 29), .load none (.t 28), none⟩, ⟨(some 30), .mv (.t 5), none⟩, ⟨(some 31), .iaddr 1 none (.t 29) (.t 30), none⟩, ⟨(some 32), .load none (.t 31), none⟩, ⟨(some 33), .lenl (.t 32), none⟩, ⟨(some 34), .faddr (.t 3) 1, none⟩, ⟨(some 35), .load none (.t 34), none⟩, ⟨(some 36), .mv (.t 5), none⟩, ⟨(some 37), .iaddr 1 none (.t 35) (.t 36), none⟩, ⟨(some 38), .load none (.t 37), none⟩, ⟨(some 39), .lenl (.t 38), none⟩, ⟨(some 40), .bin .neq (.t 33) (.t 39), none⟩] [0, 1, 0, 6, 8, 16, 0, 64, 0, 384, 512, 1024, 2080]) (.cond (.t 40) (.seq (.region false [ ⟨(some 4), .mv (.c (.d (.bool false))), none⟩] []) .ret) .skip)) (.seq (.region false [ ⟨(some 6), .mv (.c (.d (.int .i64 0))), none⟩] []) (.block 2 (.loop ac28L0))))) (.region false [ ⟨(some 26), .mv (.t 5), none⟩, ⟨(some 27), .bin .add (.t 26) (.c (.d (.int .i64 1))), none⟩, ⟨(some 5), .mv (.t 27), none⟩] [])))
def ac28 : ACode := (.seq (.region false [ ⟨(some 2), .box (.t 0), none⟩, ⟨(some 3), .box (.t 1), none⟩, ⟨(some 4), .mv (.c (.d (.bool false))), none⟩] []) (.seq (.seq (.region false [ ⟨(some 7), .faddr (.t 2) 0, none⟩, ⟨(some 8), .load none (.t 7), none⟩, ⟨(some 9), .faddr (.t 3) 0, none⟩, ⟨(some 10), .load none (.t 9), none⟩, ⟨(some 11), .bin .neq (.t 8) (.t 10), none⟩, ⟨(some 12), .mv (.t 11), none⟩, ⟨(some 13), .faddr (.t 2) 1, (some (12, false))⟩, ⟨(some 14), .load none (.t 13), (some (12, false))⟩, ⟨(some 15), .lenl (.t 14), (some (12, false))⟩, ⟨(some 16), .faddr (.t 3) 1, (some (12, false))⟩, ⟨(some 17), .load none (.t 16), (some (12, false))⟩, ⟨(some 18), .lenl (.t 17), (some (12, false))⟩, ⟨(some 19), .bin .neq (.t 15) (.t 18), (some (12, false))⟩, ⟨(some 20), .pick (.t 12) (.c (.d (.bool true))) (.t 19), none⟩] []) (.cond (.t 20) (.seq (.region false [ ⟨(some 4), .mv (.c (.d (.bool false))), none⟩] []) .ret) .skip)) (.seq (.seq (.region false [ ⟨(some 5), .mv (.c (.d (.int .i64 0))), none⟩] []) (.block 0 (.loop ac28L1))) (.seq (.region false [ ⟨(some 4), .mv (.c (.d (.bool true))), none⟩] []) .ret))))
theorem ac28_ok : Tryd.f28.body.bind (cCode Tryd.prog Tryd.f28.ntmps) = some ac28 := by kernel_rfl
-- 29 jacquard/jacquardlaw3.Small
def ac29L0 : ACode := (.seq (.seq (.region false [ ⟨(some 51), .mv (.t 13), none⟩, ⟨(some 52), .bin .gtr (.t 51) (.c (.d (.int .i64 0))), none⟩, ⟨(some 53), .mv (.t 52), none⟩, ⟨(some 54), .mv (.t 10), (some (53, true))⟩, ⟨(some 55), .mv (.t 1), (some (53, true))⟩, ⟨(some 56), .bin .lss (.t 54) (.t 55), (some (53, true))⟩, ⟨(some 57), .pick (.t 53) (.t 56) (.c (.d (.bool false))), none⟩] []) (.cond (.t 57) .skip (.exit 2))) (.seq (.block 3 (.seq (.region false [ ⟨(some 60), .mv (.t 7), none⟩, ⟨(some 61), .callv (.t 60) [], none⟩, ⟨(some 14), .mv (.t 61), none⟩] []) (.seq (.region false [ ⟨(some 62), .mv (.t 14), none⟩, ⟨(some 63), .bin .shr (.t 62) (.c (.d (.int .u64 4))), none⟩, ⟨(some 64), .mv (.t 9), none⟩, ⟨(some 65), .bin .rem (.t 63) (.t 64), none⟩, ⟨(some 66), .bin .add (.c (.d (.int .i64 120))) (.t 65), none⟩, ⟨(some 15), .mv (.t 66), none⟩] []) (.seq (.region false [ ⟨(some 67), .mv (.t 14), none⟩, ⟨(some 68), .bin .shr (.t 67) (.c (.d (.int .u64 6))), none⟩, ⟨(some 69), .bin .rem (.t 68) (.c (.d (.int .i64 3))), none⟩, ⟨(some 70), .build [(.d (.int .i64 0)), (.d (.int .i64 0))] [(0, 1, (.c (.d (.int .i64 (-1))))), (1, 1, (.t 69))], none⟩, ⟨(some 16), .alloc [(.d (.int .i64 0)), (.d (.int .i64 0))], none⟩, ⟨none, .store 2 (.t 16) (.t 70), none⟩] []) (.seq (.seq (.region false [ ⟨(some 71), .mv (.t 14), none⟩, ⟨(some 72), .bin .shr (.t 71) (.c (.d (.int .u64 8))), none⟩, ⟨(some 73), .bin .rem (.t 72) (.c (.d (.int .i64 3))), none⟩, ⟨(some 74), .bin .eql (.t 73) (.c (.d (.int .i64 0))), none⟩] []) (.cond (.t 74) (.region false [ ⟨(some 75), .mv (.t 14), none⟩, ⟨(some 76), .bin .shr (.t 75) (.c (.d (.int .u64 10))), none⟩, ⟨(some 77), .bin .and (.t 76) (.c (.d (.int .i64 1))), none⟩, ⟨(some 78), .build [(.d (.int .i64 0)), (.d (.int .i64 0))] [(0, 1, (.t 77))], none⟩, ⟨none, .store 2 (.t 16) (.t 78), none⟩] []) .skip)) (.seq (.region false [ ⟨(some 79), .mv (.t 14), none⟩, ⟨(some 80), .bin .shr (.t 79) (.c (.d (.int .u64 11))), none⟩, ⟨(some 81), .bin .and (.t 80) (.c (.d (.int .i64 1))), none⟩, ⟨(some 17), .mv (.t 81), none⟩] []) (.seq (.region false [ ⟨(some 82), .mv (.t 14), none⟩, ⟨(some 83), .bin .rem (.t 82) (.c (.d (.int .i64 12))), none⟩] []) (.block 4 (.seq (.seq (.region false [ ⟨(some 96), .bin .eql (.t 83) (.c (.d (.int .i64 0))), none⟩, ⟨(some 95), .mv (.t 96), none⟩] []) (.cond (.t 95) .skip (.seq (.region false [ ⟨(some 97), .bin .eql (.t 83) (.c (.d (.int .i64 1))), none⟩, ⟨(some 95), .mv (.t 97), none⟩] []) (.cond (.t 95) .skip (.seq (.region false [ ⟨(some 98), .bin .eql (.t 83) (.c (.d (.int .i64 2))), none⟩, ⟨(some 95), .mv (.t 98), none⟩] []) (.cond (.t 95) .skip (.region false [ ⟨(some 99), .bin .eql (.t 83) (.c (.d (.int .i64 3))), none⟩, ⟨(some 95), .mv (.t 99), none⟩] []))))))) (.cond (.t 95) (.seq (.region false [ ⟨(some 100), .mv (.t 12), none⟩, ⟨(some 101), .mv (.t 15), none⟩, ⟨(some 102), .load (some 2) (.t 16), none⟩, ⟨(some 103), .build [(.d (.int .i64 0)), (.d (.int .i64 0)), (.d (.int .i64 0)), (.d (.int .i64 0)), (.d (.int .i64 0)), (.d (.int .i64 0)), (.d (.int .i64 0)), (.d (.int .i64 0)), (.d (.int .i64 0))] [(0, 1, (.c (.d (.int .i64 1)))), (2, 1, (.t 101)), (3, 2, (.t 102))], none⟩, ⟨(some 104), .bslice 9 1 [(.d (.int .i64 0)), (.d (.int .i64 0)), (.d (.int .i64 0)), (.d (.int .i64 0)), (.d (.int .i64 0)), (.d (.int .i64 0)), (.d (.int .i64 0)), (.d (.int .i64 0)), (.d (.int .i64 0))] [(0, 9, (.t 103))], none⟩, ⟨(some 105), .app 9 72 86 (.t 100) (.t 104), none⟩, ⟨(some 12), .mv (.t 105), none⟩] []) (.region false [ ⟨(some 106), .mv (.t 10), none⟩, ⟨(some 107), .bin .add (.t 106) (.c (.d (.int .i64 1))), none⟩, ⟨(some 10), .mv (.t 107), none⟩] [])) (.seq (.seq (.region false [ ⟨(some 109), .bin .eql (.t 83) (.c (.d (.int .i64 4))), none⟩, ⟨(some 108), .mv (.t 109), none⟩] []) (.cond (.t 108) .skip (.seq (.region false [ ⟨(some 110), .bin .eql (.t 83) (.c (.d (.int .i64 5))), none⟩, ⟨(some 108), .mv (.t 110), none⟩] []) (.cond (.t 108) .skip (.seq (.region false [ ⟨(some 111), .bin .eql (.t 83) (.c (.d (.int .i64 6))), none⟩, ⟨(some 108), .mv (.t 111), none⟩] []) (.cond (.t 108) .skip (.region false [ ⟨(some 112), .bin .eql (.t 83) (.c (.d (.int .i64 7))), none⟩, ⟨(some 108), .mv (.t 112), none⟩] []))))))) (.cond (.t 108) (.seq (.region false [ ⟨(some 113), .mv (.t 12), none⟩, ⟨(some 114), .mv (.t 17), none⟩, ⟨(some 115), .mv (.t 15), none⟩, ⟨(some 116), .build [(.d (.int .i64 0)), (.d (.int .i64 0)), (.d (.int .i64 0)), (.d (.int .i64 0)), (.d (.int .i64 0)), (.d (.int .i64 0)), (.d (.int .i64 0)), (.d (.int .i64 0)), (.d (.int .i64 0))] [(0, 1, (.c (.d (.int .i64 2)))), (1, 1, (.t 114)), (2, 1, (.t 115))], none⟩, ⟨(some 117), .bslice 9 1 [(.d (.int .i64 0)), (.d (.int .i64 0)), (.d (.int .i64 0)), (.d (.int .i64 0)), (.d (.int .i64 0)), (.d (.int .i64 0)), (.d (.int .i64 0)), (.d (.int .i64 0)), (.d (.int .i64 0))] [(0, 9, (.t 116))], none⟩, ⟨(some 118), .app 9 72 86 (.t 113) (.t 117), none⟩, ⟨(some 12), .mv (.t 118), none⟩] []) (.region false [ ⟨(some 119), .mv (.t 10), none⟩, ⟨(some 120), .bin .add (.t 119) (.c (.d (.int .i64 1))), none⟩, ⟨(some 10), .mv (.t 120), none⟩] [])) (.seq (.region false [ ⟨(some 122), .bin .eql (.t 83) (.c (.d (.int .i64 8))), none⟩, ⟨(some 121), .mv (.t 122), none⟩] []) (.cond (.t 121) (.region false [ ⟨(some 123), .mv (.t 12), none⟩, ⟨(some 124), .build [(.d (.int .i64 0)), (.d (.int .i64 0)), (.d (.int .i64 0)), (.d (.int .i64 0)), (.d (.int .i64 0)), (.d (.int .i64 0)), (.d (.int .i64 0)), (.d (.int .i64 0)), (.d (.int .i64 0))] [(0, 1, (.c (.d (.int .i64 3))))], none⟩, ⟨(some 125), .bslice 9 1 [(.d (.int .i64 0)), (.d (.int .i64 0)), (.d (.int .i64 0)), (.d (.int .i64 0)), (.d (.int .i64 0)), (.d (.int .i64 0)), (.d (.int .i64 0)), (.d (.int .i64 0)), (.d (.int .i64 0))] [(0, 9, (.t 124))], none⟩, ⟨(some 126), .app 9 72 86 (.t 123) (.t 125), none⟩, ⟨(some 12), .mv (.t 126), none⟩] []) (.seq (.region false [ ⟨(some 128), .bin .eql (.t 83) (.c (.d (.int .i64 9))), none⟩, ⟨(some 127), .mv (.t 128), none⟩] []) (.cond (.t 127) (.seq (.region false [ ⟨(some 129), .mv (.t 12), none⟩, ⟨(some 130), .mv (.t 17), none⟩, ⟨(some 131), .mv (.t 15), none⟩, ⟨(some 132), .load (some 2) (.t 16), none⟩, ⟨(some 133), .build [(.d (.int .i64 0)), (.d (.int .i64 0))] [(0, 1, (.c (.d (.int .i64 (-1))))), (1, 1, (.c (.d (.int .i64 1))))], none⟩, ⟨(some 134), .build [(.d (.int .i64 0)), (.d (.int .i64 0)), (.d (.int .i64 0)), (.d (.int .i64 0)), (.d (.int .i64 0)), (.d (.int .i64 0)), (.d (.int .i64 0)), (.d (.int .i64 0)), (.d (.int .i64 0))] [(0, 1, (.c (.d (.int .i64 4)))), (1, 1, (.t 130)), (2, 1, (.t 131)), (3, 2, (.t 132)), (6, 2, (.t 133))], none⟩, ⟨(some 135), .bslice 9 1 [(.d (.int .i64 0)), (.d (.int .i64 0)), (.d (.int .i64 0)), (.d (.int .i64 0)), (.d (.int .i64 0)), (.d (.int .i64 0)), (.d (.int .i64 0)), (.d (.int .i64 0)), (.d (.int .i64 0))] [(0, 9, (.t 134))], none⟩, ⟨(some 136), .app 9 72 86 (.t 129) (.t 135), none⟩, ⟨(some 12), .mv (.t 136), none⟩] []) (.region false [ ⟨(some 137), .mv (.t 10), none⟩, ⟨(some 138), .bin .add (.t 137) (.c (.d (.int .i64 1))), none⟩, ⟨(some 10), .mv (.t 138), none⟩] [])) (.seq (.region false [ ⟨(some 140), .bin .eql (.t 83) (.c (.d (.int .i64 10))), none⟩, ⟨(some 139), .mv (.t 140), none⟩] []) (.cond (.t 139) (.region false [ ⟨(some 141), .mv (.t 12), none⟩, ⟨(some 142), .mv (.t 17), none⟩, ⟨(some 143), .load (some 2) (.t 16), none⟩, ⟨(some 144), .build [(.d (.int .i64 0)), (.d (.int .i64 0))] [(0, 1, (.c (.d (.int .i64 (-1))))), (1, 1, (.c (.d (.int .i64 1))))], none⟩, ⟨(some 145), .build [(.d (.int .i64 0)), (.d (.int .i64 0)), (.d (.int .i64 0)), (.d (.int .i64 0)), (.d (.int .i64 0)), (.d (.int .i64 0)), (.d (.int .i64 0)), (.d (.int .i64 0)), (.d (.int .i64 0))] [(0, 1, (.c (.d (.int .i64 5)))), (1, 1, (.t 142)), (3, 2, (.t 143)), (5, 1, (.c (.d (.int .i64 6)))), (6, 2, (.t 144))], none⟩, ⟨(some 146), .bslice 9 1 [(.d (.int .i64 0)), (.d (.int .i64 0)), (.d (.int .i64 0)), (.d (.int .i64 0)), (.d (.int .i64 0)), (.d (.int .i64 0)), (.d (.int .i64 0)), (.d (.int .i64 0)), (.d (.int .i64 0))] [(0, 9, (.t 145))], none⟩, ⟨(some 147), .app 9 72 86 (.t 141) (.t 146), none⟩, ⟨(some 12), .mv (.t 147), none⟩] []) (.seq (.region false [ ⟨(some 84), .mv (.t 12), none⟩, ⟨(some 85), .load (some 2) (.t 16), none⟩, ⟨(some 86), .build [(.d (.int .i64 0)), (.d (.int .i64 0))] [(0, 1, (.c (.d (.int .i64 (-1)))))], none⟩, ⟨(some 87), .build [(.d (.int .i64 0)), (.d (.int .i64 0)), (.d (.int .i64 0)), (.d (.int .i64 0)), (.d (.int .i64 0)), (.d (.int .i64 0)), (.d (.int .i64 0)), (.d (.int .i64 0)), (.d (.int .i64 0))] [(0, 1, (.c (.d (.int .i64 6)))), (3, 2, (.t 85)), (6, 2, (.t 86)), (8, 1, (.c (.d (.int .i64 1))))], none⟩, ⟨(some 88), .mv (.t 15), none⟩, ⟨(some 89), .build [(.d (.int .i64 0)), (.d (.int .i64 0))] [(0, 1, (.c (.d (.int .i64 (-1))))), (1, 1, (.c (.d (.int .i64 2))))], none⟩, ⟨(some 90), .build [(.d (.int .i64 0)), (.d (.int .i64 0)), (.d (.int .i64 0)), (.d (.int .i64 0)), (.d (.int .i64 0)), (.d (.int .i64 0)), (.d (.int .i64 0)), (.d (.int .i64 0)), (.d (.int .i64 0))] [(0, 1, (.c (.d (.int .i64 1)))), (2, 1, (.t 88)), (3, 2, (.t 89))], none⟩, ⟨(some 91), .bslice 9 2 [(.d (.int .i64 0)), (.d (.int .i64 0)), (.d (.int .i64 0)), (.d (.int .i64 0)), (.d (.int .i64 0)), (.d (.int .i64 0)), (.d (.int .i64 0)), (.d (.int .i64 0)), (.d (.int .i64 0)), (.d (.int .i64 0)), (.d (.int .i64 0)), (.d (.int .i64 0)), (.d (.int .i64 0)), (.d (.int .i64 0)), (.d (.int .i64 0)), (.d (.int .i64 0)), (.d (.int .i64 0)), (.d (.int .i64 0))] [(0, 9, (.t 87)), (9, 9, (.t 90))], none⟩, ⟨(some 92), .app 9 72 86 (.t 84) (.t 91), none⟩, ⟨(some 12), .mv (.t 92), none⟩] []) (.region false [ ⟨(some 93), .mv (.t 10), none⟩, ⟨(some 94), .bin .add (.t 93) (.c (.d (.int .i64 1))), none⟩, ⟨(some 10), .mv (.t 94), none⟩] [])))))))))))))))))))) (.region false [ ⟨(some 58), .mv (.t 13), none⟩, ⟨(some 59), .bin .sub (.t 58) (.c (.d (.int .i64 1))), none⟩, ⟨(some 13), .mv (.t 59), none⟩] [])))
def ac29L1 : ACode := (.seq (.seq (.region false [ ⟨(some 42), .mv (.t 11), none⟩, ⟨(some 43), .mv (.t 8), none⟩, ⟨(some 44), .bin .lss (.t 42) (.t 43), none⟩] []) (.cond (.t 44) .skip (.exit 0))) (.seq (.block 1 (.seq (.region false [ ⟨(some 12), .mv (.c (.d .nsl)), none⟩] []) (.seq (.seq (.region false [ ⟨(some 47), .mv (.t 7), none⟩, ⟨(some 48), .callv (.t 47) [], none⟩, ⟨(some 49), .bin .rem (.t 48) (.c (.d (.int .i64 3))), none⟩, ⟨(some 50), .bin .add (.t 49) (.c (.d (.int .i64 1))), none⟩, ⟨(some 13), .mv (.t 50), none⟩] []) (.block 2 (.loop ac29L0))) (.region false [ ⟨(some 148), .faddr (.t 5) 2, none⟩, ⟨(some 149), .load none (.t 148), none⟩, ⟨(some 150), .mv (.t 12), none⟩, ⟨(some 151), .bslice 1 1 [(.d .nsl)] [(0, 1, (.t 150))], none⟩, ⟨(some 152), .app 1 24 82 (.t 149) (.t 151), none⟩, ⟨(some 153), .faddr (.t 5) 2, none⟩, ⟨none, .store 1 (.t 153) (.t 152), none⟩] [])))) (.region false [ ⟨(some 45), .mv (.t 11), none⟩, ⟨(some 46), .bin .add (.t 45) (.c (.d (.int .i64 1))), none⟩, ⟨(some 11), .mv (.t 46), none⟩] [])))
def ac29 : ACode := (.seq (.region false [ ⟨(some 2), .box (.t 0), none⟩, ⟨(some 4), .alloc [(.d (.str [])), (.d .nsl), (.d .nsl), (.d (.int .i64 0)), (.d .nsl)], none⟩] []) (.seq (.region false [ ⟨(some 19), .build [(.d (.str [])), (.d .nsl), (.d .nsl), (.d (.int .i64 0)), (.d .nsl)] [(0, 1, (.c (.d (.str [116]))))], none⟩, ⟨(some 5), .alloc [(.d (.str [])), (.d .nsl), (.d .nsl), (.d (.int .i64 0)), (.d .nsl)], none⟩, ⟨none, .store 5 (.t 5) (.t 19), none⟩] []) (.seq (.region false [ ⟨(some 6), .alloc [(.d (.int .i64 0))], none⟩, ⟨none, .store 1 (.t 6) (.c (.d (.int .i64 0))), none⟩] []) (.seq (.region false [ ⟨(some 20), .mkfn 63 [(.t 6), (.t 2)], none⟩, ⟨(some 7), .mv (.t 20), none⟩] []) (.seq (.region false [ ⟨(some 21), .mv (.t 7), none⟩, ⟨(some 22), .callv (.t 21) [], none⟩, ⟨(some 23), .bin .rem (.t 22) (.c (.d (.int .i64 2))), none⟩, ⟨(some 24), .bin .add (.t 23) (.c (.d (.int .i64 2))), none⟩, ⟨(some 8), .mv (.t 24), none⟩] []) (.seq (.region false [ ⟨(some 25), .mv (.t 7), none⟩, ⟨(some 26), .callv (.t 25) [], none⟩, ⟨(some 27), .bin .rem (.t 26) (.c (.d (.int .i64 2))), none⟩, ⟨(some 28), .bin .add (.t 27) (.c (.d (.int .i64 2))), none⟩, ⟨(some 9), .mv (.t 28), none⟩] []) (.seq (.seq (.region false [ ⟨(some 29), .mv (.t 7), none⟩, ⟨(some 30), .callv (.t 29) [], none⟩, ⟨(some 31), .bin .rem (.t 30) (.c (.d (.int .i64 4))), none⟩, ⟨(some 32), .bin .eql (.t 31) (.c (.d (.int .i64 0))), none⟩] []) (.cond (.t 32) (.region true [ ⟨(some 33), .faddr (.t 5) 1, none⟩, ⟨(some 34), .load none (.t 33), none⟩, ⟨(some 35), .mv (.t 7), none⟩, ⟨(some 36), .callv (.t 35) [], none⟩, ⟨(some 37), .bin .rem (.t 36) (.c (.d (.int .i64 3))), none⟩, ⟨(some 38), .build [(.d (.int .i64 0)), (.d (.int .i64 0))] [(0, 1, (.c (.d (.int .i64 120)))), (1, 1, (.t 37))], none⟩, ⟨(some 39), .bslice 2 1 [(.d (.int .i64 0)), (.d (.int .i64 0))] [(0, 2, (.t 38))], none⟩, ⟨(some 40), .app 2 16 99 (.t 34) (.t 39), none⟩, ⟨(some 41), .faddr (.t 5) 1, none⟩, ⟨none, .store 1 (.t 41) (.t 40), none⟩] [0, 1, 0, 4, 8, 16, 32, 74, 255, 511]) .skip)) (.seq (.region false [ ⟨(some 10), .mv (.c (.d (.int .i64 0))), none⟩] []) (.seq (.seq (.region false [ ⟨(some 11), .mv (.c (.d (.int .i64 0))), none⟩] []) (.block 0 (.loop ac29L1))) (.seq (.seq (.region false [ ⟨(some 154), .mv (.t 7), none⟩, ⟨(some 155), .callv (.t 154) [], none⟩, ⟨(some 18), .mv (.t 155), none⟩] []) (.seq (.region false [ ⟨(some 156), .mv (.t 18), none⟩, ⟨(some 157), .bin .rem (.t 156) (.c (.d (.int .i64 3))), none⟩, ⟨(some 158), .bin .eql (.t 157) (.c (.d (.int .i64 0))), none⟩] []) (.cond (.t 158) (.region false [ ⟨(some 159), .mv (.t 18), none⟩, ⟨(some 160), .bin .quo (.t 159) (.c (.d (.int .i64 3))), none⟩, ⟨(some 161), .bin .rem (.t 160) (.c (.d (.int .i64 2))), none⟩, ⟨(some 162), .bin .add (.t 161) (.c (.d (.int .i64 1))), none⟩, ⟨(some 163), .mv (.t 18), none⟩, ⟨(some 164), .bin .shr (.t 163) (.c (.d (.int .u64 3))), none⟩, ⟨(some 165), .bin .and (.t 164) (.c (.d (.int .i64 1))), none⟩, ⟨(some 166), .mv (.t 18), none⟩, ⟨(some 167), .bin .shr (.t 166) (.c (.d (.int .u64 4))), none⟩, ⟨(some 168), .bin .and (.t 167) (.c (.d (.int .i64 1))), none⟩, ⟨(some 169), .build [(.d (.int .i64 0)), (.d (.int .i64 0)), (.d (.int .i64 0)), (.d (.int .i64 0))] [(0, 1, (.c (.d (.int .i64 0)))), (1, 1, (.t 165)), (3, 1, (.t 168))], none⟩, ⟨(some 170), .bslice 4 1 [(.d (.int .i64 0)), (.d (.int .i64 0)), (.d (.int .i64 0)), (.d (.int .i64 0))] [(0, 4, (.t 169))], none⟩, ⟨(some 171), .mv (.t 18), none⟩, ⟨(some 172), .bin .shr (.t 171) (.c (.d (.int .u64 5))), none⟩, ⟨(some 173), .bin .rem (.t 172) (.c (.d (.int .i64 3))), none⟩, ⟨(some 174), .build [(.d (.int .i64 0)), (.d (.int .i64 0)), (.d (.int .i64 0)), (.d (.int .i64 0))] [(0, 1, (.c (.d (.int .i64 (-1))))), (2, 1, (.c (.d (.int .i64 120)))), (3, 1, (.t 173))], none⟩, ⟨(some 175), .mv (.t 18), none⟩, ⟨(some 176), .bin .shr (.t 175) (.c (.d (.int .u64 7))), none⟩, ⟨(some 177), .bin .and (.t 176) (.c (.d (.int .i64 1))), none⟩, ⟨(some 178), .build [(.d (.int .i64 0)), (.d (.int .i64 0)), (.d (.int .i64 0)), (.d (.int .i64 0))] [(0, 1, (.c (.d (.int .i64 1)))), (1, 1, (.c (.d (.int .i64 0)))), (3, 1, (.t 177))], none⟩, ⟨(some 179), .bslice 4 2 [(.d (.int .i64 0)), (.d (.int .i64 0)), (.d (.int .i64 0)), (.d (.int .i64 0)), (.d (.int .i64 0)), (.d (.int .i64 0)), (.d (.int .i64 0)), (.d (.int .i64 0))] [(0, 4, (.t 174)), (4, 4, (.t 178))], none⟩, ⟨(some 180), .bslice 1 2 [(.d .nsl), (.d .nsl)] [(0, 1, (.t 170)), (1, 1, (.t 179))], none⟩, ⟨(some 181), .build [(.d (.int .i64 0)), (.d .nsl)] [(0, 1, (.t 162)), (1, 1, (.t 180))], none⟩, ⟨(some 182), .faddr (.t 5) 3, none⟩, ⟨none, .store 2 (.t 182) (.t 181), none⟩] []) .skip))) (.seq (.region false [ ⟨(some 183), .load (some 5) (.t 5), none⟩, ⟨none, .store 5 (.t 4) (.t 183), none⟩] []) .ret)))))))))))
theorem ac29_ok : Tryd.f29.body.bind (cCode Tryd.prog Tryd.f29.ntmps) = some ac29 := by kernel_rfl
-- 30 jacquard/jacquardref2.Print
def ac30L0 : ACode := (.seq (.seq (.region false [ ⟨(some 20), .mv (.t 4), none⟩, ⟨(some 21), .faddr (.t 1) 1, none⟩, ⟨(some 22), .load none (.t 21), none⟩, ⟨(some 23), .lenl (.t 22), none⟩, ⟨(some 24), .bin .lss (.t 20) (.t 23), none⟩] []) (.cond (.t 24) .skip (.exit 0))) (.seq (.block 1 (.region true [ ⟨(some 27), .mv (.t 3), none⟩, ⟨(some 28), .faddr (.t 1) 1, none⟩, ⟨(some 29), .load none (.t 28), none⟩, ⟨(some 30), .mv (.t 4), none⟩, ⟨(some 31), .iaddr 2 none (.t 29) (.t 30), none⟩, ⟨(some 32), .faddr (.t 31) 0, none⟩, ⟨(some 33), .load none (.t 32), none⟩, ⟨(some 34), .callf 65 [(.t 33)], none⟩, ⟨(some 35), .bin .add (.t 27) (.t 34), none⟩, ⟨(some 36), .bin .add (.t 35) (.c (.d (.str [32, 61, 32]))), none⟩, ⟨(some 37), .faddr (.t 1) 1, none⟩, ⟨(some 38), .load none (.t 37), none⟩, ⟨(some 39), .mv (.t 4), none⟩, ⟨(some 40), .iaddr 2 none (.t 38) (.t 39), none⟩, ⟨(some 41), .faddr (.t 40) 1, none⟩, ⟨(some 42), .load none (.t 41), none⟩, ⟨(some 43), .callf 19 [(.t 42)], none⟩, ⟨(some 44), .bin .add (.t 36) (.t 43), none⟩, ⟨(some 45), .bin .add (.t 44) (.c (.d (.str [32, 59, 10]))), none⟩, ⟨(some 3), .mv (.t 45), none⟩] [0, 0, 2, 0, 12, 16, 32, 64, 129, 256, 0, 1024, 0, 6144, 8192, 16384, 32896, 66048, 131072, 524287])) (.region false [ ⟨(some 25), .mv (.t 4), none⟩, ⟨(some 26), .bin .add (.t 25) (.c (.d (.int .i64 1))), none⟩, ⟨(some 4), .mv (.t 26), none⟩] [])))
def ac30L1 : ACode := (.seq (.seq (.region false [ ⟨(some 57), .mv (.t 6), none⟩, ⟨(some 58), .faddr (.t 1) 2, none⟩, ⟨(some 59), .load none (.t 58), none⟩, ⟨(some 60), .mv (.t 5), none⟩, ⟨(some 61), .iaddr 1 none (.t 59) (.t 60), none⟩, ⟨(some 62), .load none (.t 61), none⟩, ⟨(some 63), .lenl (.t 62), none⟩, ⟨(some 64), .bin .lss (.t 57) (.t 63), none⟩] []) (.cond (.t 64) .skip (.exit 4))) (.seq (.block 5 (.region false [ ⟨(some 67), .mv (.t 3), none⟩, ⟨(some 68), .faddr (.t 1) 2, none⟩, ⟨(some 69), .load none (.t 68), none⟩, ⟨(some 70), .mv (.t 5), none⟩, ⟨(some 71), .iaddr 1 none (.t 69) (.t 70), none⟩, ⟨(some 72), .load none (.t 71), none⟩, ⟨(some 73), .mv (.t 6), none⟩, ⟨(some 74), .iaddr 9 none (.t 72) (.t 73), none⟩, ⟨(some 75), .load (some 9) (.t 74), none⟩, ⟨(some 76), .callf 66 [(.t 75)], none⟩, ⟨(some 77), .bin .add (.t 67) (.t 76), none⟩, ⟨(some 78), .bin .add (.t 77) (.c (.d (.str [10]))), none⟩, ⟨(some 3), .mv (.t 78), none⟩] [])) (.region false [ ⟨(some 65), .mv (.t 6), none⟩, ⟨(some 66), .bin .add (.t 65) (.c (.d (.int .i64 1))), none⟩, ⟨(some 6), .mv (.t 66), none⟩] [])))
def ac30L2 : ACode := (.seq (.seq (.region false [ ⟨(some 48), .mv (.t 5), none⟩, ⟨(some 49), .faddr (.t 1) 2, none⟩, ⟨(some 50), .load none (.t 49), none⟩, ⟨(some 51), .lenl (.t 50), none⟩, ⟨(some 52), .bin .lss (.t 48) (.t 51), none⟩] []) (.cond (.t 52) .skip (.exit 2))) (.seq (.block 3 (.seq (.region false [ ⟨(some 55), .mv (.t 3), none⟩, ⟨(some 56), .bin .add (.t 55) (.c (.d (.str [116, 104, 114, 101, 97, 100, 32, 123, 10]))), none⟩, ⟨(some 3), .mv (.t 56), none⟩] []) (.seq (.seq (.region false [ ⟨(some 6), .mv (.c (.d (.int .i64 0))), none⟩] []) (.block 4 (.loop ac30L1))) (.region false [ ⟨(some 79), .mv (.t 3), none⟩, ⟨(some 80), .bin .add (.t 79) (.c (.d (.str [125, 10]))), none⟩, ⟨(some 3), .mv (.t 80), none⟩] [])))) (.region false [ ⟨(some 53), .mv (.t 5), none⟩, ⟨(some 54), .bin .add (.t 53) (.c (.d (.int .i64 1))), none⟩, ⟨(some 5), .mv (.t 54), none⟩] [])))
def ac30 : ACode := (.seq (.region false [ ⟨(some 1), .box (.t 0), none⟩, ⟨(some 2), .mv (.c (.d (.str []))), none⟩] []) (.seq (.seq (.region false [ ⟨(some 7), .load (some 5) (.t 1), none⟩, ⟨(some 8), .callf 64 [(.t 7)], none⟩, ⟨(some 9), .un .not (.t 8), none⟩] []) (.cond (.t 9) (.seq (.region false [ ⟨(some 2), .mv (.c (.d (.str []))), none⟩] []) .ret) .skip)) (.seq (.region false [ ⟨(some 10), .faddr (.t 1) 0, none⟩, ⟨(some 11), .load none (.t 10), none⟩, ⟨(some 12), .bin .add (.c (.d (.str [116, 101, 115, 116, 32]))) (.t 11), none⟩, ⟨(some 13), .bin .add (.t 12) (.c (.d (.str [32, 123, 10]))), none⟩, ⟨(some 3), .mv (.t 13), none⟩] []) (.seq (.seq (.region false [ ⟨(some 14), .faddr (.t 1) 1, none⟩, ⟨(some 15), .load none (.t 14), none⟩, ⟨(some 16), .lenl (.t 15), none⟩, ⟨(some 17), .bin .gtr (.t 16) (.c (.d (.int .i64 0))), none⟩] []) (.cond (.t 17) (.seq (.region false [ ⟨(some 18), .mv (.t 3), none⟩, ⟨(some 19), .bin .add (.t 18) (.c (.d (.str [105, 110, 105, 116, 32, 123, 10]))), none⟩, ⟨(some 3), .mv (.t 19), none⟩] []) (.seq (.seq (.region false [ ⟨(some 4), .mv (.c (.d (.int .i64 0))), none⟩] []) (.block 0 (.loop ac30L0))) (.region false [ ⟨(some 46), .mv (.t 3), none⟩, ⟨(some 47), .bin .add (.t 46) (.c (.d (.str [125, 10]))), none⟩, ⟨(some 3), .mv (.t 47), none⟩] []))) .skip)) (.seq (.seq (.region false [ ⟨(some 5), .mv (.c (.d (.int .i64 0))), none⟩] []) (.block 2 (.loop ac30L2))) (.seq (.seq (.region false [ ⟨(some 81), .faddr (.t 1) 3, none⟩, ⟨(some 82), .faddr (.t 81) 0, none⟩, ⟨(some 83), .load none (.t 82), none⟩, ⟨(some 84), .bin .neq (.t 83) (.c (.d (.int .i64 0))), none⟩] []) (.cond (.t 84) (.region false [ ⟨(some 85), .mv (.t 3), none⟩, ⟨(some 86), .faddr (.t 1) 3, none⟩, ⟨(some 87), .load (some 2) (.t 86), none⟩, ⟨(some 88), .callf 67 [(.t 87)], none⟩, ⟨(some 89), .bin .add (.t 85) (.t 88), none⟩, ⟨(some 90), .bin .add (.t 89) (.c (.d (.str [10]))), none⟩, ⟨(some 3), .mv (.t 90), none⟩] []) .skip)) (.seq (.region false [ ⟨(some 91), .mv (.t 3), none⟩, ⟨(some 92), .bin .add (.t 91) (.c (.d (.str [125, 10]))), none⟩, ⟨(some 2), .mv (.t 92), none⟩] []) .ret)))))))
theorem ac30_ok : Tryd.f30.body.bind (cCode Tryd.prog Tryd.f30.ntmps) = some ac30 := by kernel_rfl
-- 44 (*jacquard/parse.parser).next
def ac44 : ACode := (.seq (.region false [ ⟨(some 2), .mv (.t 0), none⟩, ⟨(some 3), .nilck (.t 2), none⟩, ⟨(some 4), .faddr (.t 3) 4, none⟩, ⟨(some 5), .faddr (.t 4) 0, none⟩, ⟨(some 6), .load none (.t 5), none⟩, ⟨(some 7), .bin .eql (.t 6) (.c (.d (.int .i64 0))), none⟩] []) (.cond (.t 7) (.region false [ ⟨(some 9), .mv (.t 0), none⟩, ⟨(some 10), .mv (.t 0), none⟩, ⟨(some 11), .mv (.t 0), none⟩, ⟨(some 12), .nilck (.t 11), none⟩, ⟨(some 13), .faddr (.t 12) 0, none⟩, ⟨(some 14), .load none (.t 13), none⟩, ⟨(some 15), .callf 22 [(.t 14)], none⟩, ⟨(some 8), .mv (.t 15), none⟩, ⟨(some 16), .ext (.t 8) 0, none⟩, ⟨(some 17), .ext (.t 8) 1, none⟩, ⟨(some 18), .nilck (.t 9), none⟩, ⟨(some 19), .faddr (.t 18) 1, none⟩, ⟨none, .store 3 (.t 19) (.t 16), none⟩, ⟨(some 20), .nilck (.t 10), none⟩, ⟨(some 21), .faddr (.t 20) 4, none⟩, ⟨none, .store 2 (.t 21) (.t 17), none⟩] []) .skip))
theorem ac44_ok : Tryd.f44.body.bind (cCode Tryd.prog Tryd.f44.ntmps) = some ac44 := by kernel_rfl
-- 45 (*jacquard/parse.parser).must
def ac45 : ACode := (.seq (.region false [ ⟨(some 4), .mv (.t 0), none⟩, ⟨(some 5), .mv (.t 1), none⟩, ⟨(some 6), .callf 47 [(.t 4), (.t 5)], none⟩, ⟨(some 7), .un .not (.t 6), none⟩] []) (.cond (.t 7) (.region false [ ⟨(some 8), .mv (.t 0), none⟩, ⟨(some 9), .callf 52 [(.t 8), (.c (.d (.int .i64 6)))], none⟩] []) .skip))
theorem ac45_ok : Tryd.f45.body.bind (cCode Tryd.prog Tryd.f45.ntmps) = some ac45 := by kernel_rfl
-- 46 (*jacquard/parse.parser).word
def ac46 : ACode := (.seq (.region false [ ⟨(some 2), .mv (.c (.d (.str []))), none⟩] []) (.seq (.region false [ ⟨(some 4), .mv (.t 0), none⟩, ⟨(some 5), .nilck (.t 4), none⟩, ⟨(some 6), .faddr (.t 5) 1, none⟩, ⟨(some 7), .faddr (.t 6) 1, none⟩, ⟨(some 8), .load none (.t 7), none⟩, ⟨(some 3), .mv (.t 8), none⟩] []) (.seq (.seq (.region false [ ⟨(some 9), .mv (.t 0), none⟩, ⟨(some 10), .nilck (.t 9), none⟩, ⟨(some 11), .faddr (.t 10) 1, none⟩, ⟨(some 12), .faddr (.t 11) 0, none⟩, ⟨(some 13), .load none (.t 12), none⟩, ⟨(some 14), .bin .neq (.t 13) (.c (.d (.int .i64 1))), none⟩] []) (.cond (.t 14) (.seq (.region false [ ⟨(some 15), .mv (.t 0), none⟩, ⟨(some 16), .callf 52 [(.t 15), (.c (.d (.int .i64 6)))], none⟩] []) (.seq (.region false [ ⟨(some 2), .mv (.c (.d (.str []))), none⟩] []) .ret)) .skip)) (.seq (.region false [ ⟨(some 17), .mv (.t 0), none⟩, ⟨(some 18), .callf 44 [(.t 17)], none⟩] []) (.seq (.region false [ ⟨(some 19), .mv (.t 3), none⟩, ⟨(some 2), .mv (.t 19), none⟩] []) .ret)))))
theorem ac46_ok : Tryd.f46.body.bind (cCode Tryd.prog Tryd.f46.ntmps) = some ac46 := by kernel_rfl
-- 47 (*jacquard/parse.parser).take
def ac47 : ACode := (.seq (.region false [ ⟨(some 4), .mv (.c (.d (.bool false))), none⟩] []) (.seq (.seq (.region false [ ⟨(some 5), .mv (.t 0), none⟩, ⟨(some 6), .mv (.t 1), none⟩, ⟨(some 7), .callf 71 [(.t 5), (.t 6)], none⟩, ⟨(some 8), .un .not (.t 7), none⟩] []) (.cond (.t 8) (.seq (.region false [ ⟨(some 4), .mv (.c (.d (.bool false))), none⟩] []) .ret) .skip)) (.seq (.region false [ ⟨(some 9), .mv (.t 0), none⟩, ⟨(some 10), .callf 44 [(.t 9)], none⟩] []) (.seq (.region false [ ⟨(some 4), .mv (.c (.d (.bool true))), none⟩] []) .ret))))
theorem ac47_ok : Tryd.f47.body.bind (cCode Tryd.prog Tryd.f47.ntmps) = some ac47 := by kernel_rfl
-- 48 (*jacquard/parse.parser).init
def ac48L0 : ACode := (.seq (.seq (.region false [ ⟨(some 7), .mv (.t 0), none⟩, ⟨(some 8), .callf 51 [(.t 7)], none⟩, ⟨(some 9), .mv (.t 8), none⟩, ⟨(some 10), .mv (.t 0), (some (9, true))⟩, ⟨(some 11), .callf 47 [(.t 10), (.c (.d (.str [125])))], (some (9, true))⟩, ⟨(some 12), .un .not (.t 11), (some (9, true))⟩, ⟨(some 13), .pick (.t 9) (.t 12) (.c (.d (.bool false))), none⟩] []) (.cond (.t 13) .skip (.exit 0))) (.block 1 (.seq (.region false [ ⟨(some 14), .mv (.t 0), none⟩, ⟨(some 15), .callf 72 [(.t 14), (.c (.fn 73 []))], none⟩, ⟨(some 16), .build [(.d (.int .i64 0)), (.d (.int .i64 0))] [(0, 1, (.t 15))], none⟩, ⟨(some 4), .alloc [(.d (.int .i64 0)), (.d (.int .i64 0))], none⟩, ⟨none, .store 2 (.t 4) (.t 16), none⟩] []) (.seq (.region false [ ⟨(some 17), .mv (.t 0), none⟩, ⟨(some 18), .callf 45 [(.t 17), (.c (.d (.str [61])))], none⟩] []) (.seq (.region false [ ⟨(some 19), .mv (.t 0), none⟩, ⟨(some 20), .callf 74 [(.t 19)], none⟩, ⟨(some 21), .faddr (.t 4) 1, none⟩, ⟨none, .store 1 (.t 21) (.t 20), none⟩] []) (.seq (.region false [ ⟨(some 22), .mv (.t 0), none⟩, ⟨(some 23), .callf 45 [(.t 22), (.c (.d (.str [59])))], none⟩] []) (.region false [ ⟨(some 24), .mv (.t 3), none⟩, ⟨(some 25), .load (some 2) (.t 4), none⟩, ⟨(some 26), .bslice 2 1 [(.d (.int .i64 0)), (.d (.int .i64 0))] [(0, 2, (.t 25))], none⟩, ⟨(some 27), .app 2 16 99 (.t 24) (.t 26), none⟩, ⟨(some 3), .mv (.t 27), none⟩] [])))))))
def ac48 : ACode := (.seq (.region false [ ⟨(some 2), .mv (.c (.d .nsl)), none⟩] []) (.seq (.region false [ ⟨(some 3), .mv (.c (.d .nsl)), none⟩] []) (.seq (.region false [ ⟨(some 5), .mv (.t 0), none⟩, ⟨(some 6), .callf 45 [(.t 5), (.c (.d (.str [123])))], none⟩] []) (.seq (.block 0 (.loop ac48L0)) (.seq (.region false [ ⟨(some 28), .mv (.t 3), none⟩, ⟨(some 2), .mv (.t 28), none⟩] []) .ret)))))
theorem ac48_ok : Tryd.f48.body.bind (cCode Tryd.prog Tryd.f48.ntmps) = some ac48 := by kernel_rfl
-- 49 (*jacquard/parse.parser).thread
def ac49L0 : ACode := (.seq (.seq (.region false [ ⟨(some 6), .mv (.t 0), none⟩, ⟨(some 7), .callf 51 [(.t 6)], none⟩, ⟨(some 8), .mv (.t 7), none⟩, ⟨(some 9), .mv (.t 0), (some (8, true))⟩, ⟨(some 10), .callf 47 [(.t 9), (.c (.d (.str [125])))], (some (8, true))⟩, ⟨(some 11), .un .not (.t 10), (some (8, true))⟩, ⟨(some 12), .pick (.t 8) (.t 11) (.c (.d (.bool false))), none⟩] []) (.cond (.t 12) .skip (.exit 0))) (.block 1 (.seq (.region false [ ⟨(some 13), .mv (.t 3), none⟩, ⟨(some 14), .mv (.t 0), none⟩, ⟨(some 15), .callf 75 [(.t 14)], none⟩, ⟨(some 16), .bslice 9 1 [(.d (.int .i64 0)), (.d (.int .i64 0)), (.d (.int .i64 0)), (.d (.int .i64 0)), (.d (.int .i64 0)), (.d (.int .i64 0)), (.d (.int .i64 0)), (.d (.int .i64 0)), (.d (.int .i64 0))] [(0, 9, (.t 15))], none⟩, ⟨(some 17), .app 9 72 86 (.t 13) (.t 16), none⟩, ⟨(some 3), .mv (.t 17), none⟩] []) (.region false [ ⟨(some 18), .mv (.t 0), none⟩, ⟨(some 19), .callf 45 [(.t 18), (.c (.d (.str [59])))], none⟩] []))))
def ac49 : ACode := (.seq (.region false [ ⟨(some 2), .mv (.c (.d .nsl)), none⟩] []) (.seq (.region false [ ⟨(some 3), .mv (.c (.d .nsl)), none⟩] []) (.seq (.region false [ ⟨(some 4), .mv (.t 0), none⟩, ⟨(some 5), .callf 45 [(.t 4), (.c (.d (.str [123])))], none⟩] []) (.seq (.block 0 (.loop ac49L0)) (.seq (.region false [ ⟨(some 20), .mv (.t 3), none⟩, ⟨(some 2), .mv (.t 20), none⟩] []) .ret)))))
theorem ac49_ok : Tryd.f49.body.bind (cCode Tryd.prog Tryd.f49.ntmps) = some ac49 := by kernel_rfl
-- 50 (*jacquard/parse.parser).cond
def ac50L0 : ACode := (.seq (.seq (.region false [ ⟨(some 12), .mv (.t 0), none⟩, ⟨(some 13), .callf 47 [(.t 12), (.c (.d (.str [38])))], none⟩] []) (.cond (.t 13) .skip (.exit 2))) (.block 3 (.region false [ ⟨(some 14), .mv (.t 6), none⟩, ⟨(some 15), .mv (.t 0), none⟩, ⟨(some 16), .callf 76 [(.t 15)], none⟩, ⟨(some 17), .bslice 4 1 [(.d (.int .i64 0)), (.d (.int .i64 0)), (.d (.int .i64 0)), (.d (.int .i64 0))] [(0, 4, (.t 16))], none⟩, ⟨(some 18), .app 4 32 61 (.t 14) (.t 17), none⟩, ⟨(some 6), .mv (.t 18), none⟩] [])))
def ac50L1 : ACode := (.block 1 (.seq (.region false [ ⟨(some 9), .mv (.t 0), none⟩, ⟨(some 10), .callf 76 [(.t 9)], none⟩, ⟨(some 11), .bslice 4 1 [(.d (.int .i64 0)), (.d (.int .i64 0)), (.d (.int .i64 0)), (.d (.int .i64 0))] [(0, 4, (.t 10))], none⟩, ⟨(some 6), .mv (.t 11), none⟩] []) (.seq (.block 2 (.loop ac50L0)) (.seq (.region false [ ⟨(some 19), .faddr (.t 5) 1, none⟩, ⟨(some 20), .load none (.t 19), none⟩, ⟨(some 21), .mv (.t 6), none⟩, ⟨(some 22), .bslice 1 1 [(.d .nsl)] [(0, 1, (.t 21))], none⟩, ⟨(some 23), .app 1 24 62 (.t 20) (.t 22), none⟩, ⟨(some 24), .faddr (.t 5) 1, none⟩, ⟨none, .store 1 (.t 24) (.t 23), none⟩] []) (.seq (.region false [ ⟨(some 25), .mv (.t 0), none⟩, ⟨(some 26), .callf 47 [(.t 25), (.c (.d (.str [124])))], none⟩, ⟨(some 27), .un .not (.t 26), none⟩] []) (.cond (.t 27) (.seq (.region false [ ⟨(some 28), .mv (.t 0), none⟩, ⟨(some 29), .callf 45 [(.t 28), (.c (.d (.str [59])))], none⟩] []) (.seq (.region false [ ⟨(some 30), .load (some 2) (.t 5), none⟩, ⟨none, .store 2 (.t 4) (.t 30), none⟩] []) .ret)) .skip))))))
def ac50 : ACode := (.seq (.region false [ ⟨(some 4), .alloc [(.d (.int .i64 0)), (.d .nsl)], none⟩] []) (.seq (.region false [ ⟨(some 7), .mv (.t 1), none⟩, ⟨(some 8), .build [(.d (.int .i64 0)), (.d .nsl)] [(0, 1, (.t 7))], none⟩, ⟨(some 5), .alloc [(.d (.int .i64 0)), (.d .nsl)], none⟩, ⟨none, .store 2 (.t 5) (.t 8), none⟩] []) (.block 0 (.loop ac50L1))))
theorem ac50_ok : Tryd.f50.body.bind (cCode Tryd.prog Tryd.f50.ntmps) = some ac50 := by kernel_rfl
-- 51 (*jacquard/parse.parser).ok
def ac51 : ACode := (.seq (.region false [ ⟨(some 2), .mv (.c (.d (.bool false))), none⟩] []) (.seq (.region false [ ⟨(some 3), .mv (.t 0), none⟩, ⟨(some 4), .nilck (.t 3), none⟩, ⟨(some 5), .faddr (.t 4) 4, none⟩, ⟨(some 6), .faddr (.t 5) 0, none⟩, ⟨(some 7), .load none (.t 6), none⟩, ⟨(some 8), .bin .eql (.t 7) (.c (.d (.int .i64 0))), none⟩, ⟨(some 2), .mv (.t 8), none⟩] []) .ret))
theorem ac51_ok : Tryd.f51.body.bind (cCode Tryd.prog Tryd.f51.ntmps) = some ac51 := by kernel_rfl
-- 52 (*jacquard/parse.parser).fail
def ac52 : ACode := (.seq (.region false [ ⟨(some 4), .mv (.t 0), none⟩, ⟨(some 5), .nilck (.t 4), none⟩, ⟨(some 6), .faddr (.t 5) 4, none⟩, ⟨(some 7), .faddr (.t 6) 0, none⟩, ⟨(some 8), .load none (.t 7), none⟩, ⟨(some 9), .bin .eql (.t 8) (.c (.d (.int .i64 0))), none⟩] []) (.cond (.t 9) (.region false [ ⟨(some 10), .mv (.t 0), none⟩, ⟨(some 11), .mv (.t 1), none⟩, ⟨(some 12), .mv (.t 0), none⟩, ⟨(some 13), .nilck (.t 12), none⟩, ⟨(some 14), .faddr (.t 13) 1, none⟩, ⟨(some 15), .faddr (.t 14) 2, none⟩, ⟨(some 16), .load none (.t 15), none⟩, ⟨(some 17), .build [(.d (.int .i64 0)), (.d (.int .i64 0))] [(0, 1, (.t 11)), (1, 1, (.t 16))], none⟩, ⟨(some 18), .nilck (.t 10), none⟩, ⟨(some 19), .faddr (.t 18) 4, none⟩, ⟨none, .store 2 (.t 19) (.t 17), none⟩] []) .skip))
theorem ac52_ok : Tryd.f52.body.bind (cCode Tryd.prog Tryd.f52.ntmps) = some ac52 := by kernel_rfl
-- 53 (*jacquard/jacquardref2.reader).eat
-- 54 (*jacquard/jacquardref2.reader).word
-- 55 (*jacquard/jacquardref2.reader).is
-- 56 (*jacquard/jacquardref2.reader).go1
-- 57 (*jacquard/jacquardref2.reader).loc
-- 58 (*jacquard/jacquardref2.reader).num
-- 59 (*jacquard/jacquardref2.reader).ins
-- 60 (*jacquard/jacquardref2.reader).atom
-- 61 (*jacquard/jacquardref2.reader).look
-- 62 (*jacquard/jacquardref2.reader).fail
-- 63 jacquard/jacquardlaw3.Small$1
def ac63 : ACode := (.seq (.region false [ ⟨(some 2), .mv (.c (.d (.int .i64 0))), none⟩] []) (.seq (.region false [ ⟨(some 3), .load none (.t 0), none⟩, ⟨(some 4), .bin .add (.t 3) (.c (.d (.int .i64 1))), none⟩, ⟨none, .store 1 (.t 0) (.t 4), none⟩] []) (.seq (.seq (.region false [ ⟨(some 5), .load none (.t 0), none⟩, ⟨(some 6), .load none (.t 1), none⟩, ⟨(some 7), .lenl (.t 6), none⟩, ⟨(some 8), .bin .gtr (.t 5) (.t 7), none⟩] []) (.cond (.t 8) (.seq (.region false [ ⟨(some 2), .mv (.c (.d (.int .i64 0))), none⟩] []) .ret) .skip)) (.seq (.region false [ ⟨(some 9), .load none (.t 1), none⟩, ⟨(some 10), .load none (.t 0), none⟩, ⟨(some 11), .bin .sub (.t 10) (.c (.d (.int .i64 1))), none⟩, ⟨(some 12), .iaddr 1 none (.t 9) (.t 11), none⟩, ⟨(some 13), .load none (.t 12), none⟩, ⟨(some 14), .bin .and (.t 13) (.c (.d (.int .i64 65535))), none⟩, ⟨(some 2), .mv (.t 14), none⟩] []) .ret))))
theorem ac63_ok : Tryd.f63.body.bind (cCode Tryd.prog Tryd.f63.ntmps) = some ac63 := by kernel_rfl
-- 64 jacquard/jacquardref2.TestOk
def ac64L0 : ACode := (.seq (.seq (.region false [ ⟨(some 16), .mv (.t 3), none⟩, ⟨(some 17), .faddr (.t 1) 1, none⟩, ⟨(some 18), .load none (.t 17), none⟩, ⟨(some 19), .lenl (.t 18), none⟩, ⟨(some 20), .bin .lss (.t 16) (.t 19), none⟩] []) (.cond (.t 20) .skip (.exit 0))) (.seq (.block 1 (.seq (.region false [ ⟨(some 23), .faddr (.t 1) 1, none⟩, ⟨(some 24), .load none (.t 23), none⟩, ⟨(some 25), .mv (.t 3), none⟩, ⟨(some 26), .iaddr 2 none (.t 24) (.t 25), none⟩, ⟨(some 27), .faddr (.t 26) 0, none⟩, ⟨(some 28), .load none (.t 27), none⟩, ⟨(some 29), .callf 82 [(.t 28)], none⟩, ⟨(some 30), .un .not (.t 29), none⟩] []) (.cond (.t 30) (.seq (.region false [ ⟨(some 2), .mv (.c (.d (.bool false))), none⟩] []) .ret) .skip))) (.region false [ ⟨(some 21), .mv (.t 3), none⟩, ⟨(some 22), .bin .add (.t 21) (.c (.d (.int .i64 1))), none⟩, ⟨(some 3), .mv (.t 22), none⟩] [])))
def ac64L1 : ACode := (.seq (.seq (.region false [ ⟨(some 38), .mv (.t 5), none⟩, ⟨(some 39), .faddr (.t 1) 2, none⟩, ⟨(some 40), .load none (.t 39), none⟩, ⟨(some 41), .mv (.t 4), none⟩, ⟨(some 42), .iaddr 1 none (.t 40) (.t 41), none⟩, ⟨(some 43), .load none (.t 42), none⟩, ⟨(some 44), .lenl (.t 43), none⟩, ⟨(some 45), .bin .lss (.t 38) (.t 44), none⟩] []) (.cond (.t 45) .skip (.exit 4))) (.seq (.block 5 (.seq (.region false [ ⟨(some 48), .faddr (.t 1) 2, none⟩, ⟨(some 49), .load none (.t 48), none⟩, ⟨(some 50), .mv (.t 4), none⟩, ⟨(some 51), .iaddr 1 none (.t 49) (.t 50), none⟩, ⟨(some 52), .load none (.t 51), none⟩, ⟨(some 53), .mv (.t 5), none⟩, ⟨(some 54), .iaddr 9 none (.t 52) (.t 53), none⟩, ⟨(some 55), .load (some 9) (.t 54), none⟩, ⟨(some 56), .callf 83 [(.t 55)], none⟩, ⟨(some 57), .un .not (.t 56), none⟩] []) (.cond (.t 57) (.seq (.region false [ ⟨(some 2), .mv (.c (.d (.bool false))), none⟩] []) .ret) .skip))) (.region false [ ⟨(some 46), .mv (.t 5), none⟩, ⟨(some 47), .bin .add (.t 46) (.c (.d (.int .i64 1))), none⟩, ⟨(some 5), .mv (.t 47), none⟩] [])))
def ac64L2 : ACode := (.seq (.seq (.region false [ ⟨(some 31), .mv (.t 4), none⟩, ⟨(some 32), .faddr (.t 1) 2, none⟩, ⟨(some 33), .load none (.t 32), none⟩, ⟨(some 34), .lenl (.t 33), none⟩, ⟨(some 35), .bin .lss (.t 31) (.t 34), none⟩] []) (.cond (.t 35) .skip (.exit 2))) (.seq (.block 3 (.seq (.region false [ ⟨(some 5), .mv (.c (.d (.int .i64 0))), none⟩] []) (.block 4 (.loop ac64L1)))) (.region false [ ⟨(some 36), .mv (.t 4), none⟩, ⟨(some 37), .bin .add (.t 36) (.c (.d (.int .i64 1))), none⟩, ⟨(some 4), .mv (.t 37), none⟩] [])))
def ac64 : ACode := (.seq (.region false [ ⟨(some 1), .box (.t 0), none⟩, ⟨(some 2), .mv (.c (.d (.bool false))), none⟩] []) (.seq (.seq (.region false [ ⟨(some 6), .faddr (.t 1) 0, none⟩, ⟨(some 7), .load none (.t 6), none⟩, ⟨(some 8), .callf 80 [(.t 7)], none⟩, ⟨(some 9), .un .not (.t 8), none⟩, ⟨(some 10), .mv (.t 9), none⟩, ⟨(some 11), .faddr (.t 1) 3, (some (10, false))⟩, ⟨(some 12), .load (some 2) (.t 11), (some (10, false))⟩, ⟨(some 13), .callf 81 [(.t 12)], (some (10, false))⟩, ⟨(some 14), .un .not (.t 13), (some (10, false))⟩, ⟨(some 15), .pick (.t 10) (.c (.d (.bool true))) (.t 14), none⟩] []) (.cond (.t 15) (.seq (.region false [ ⟨(some 2), .mv (.c (.d (.bool false))), none⟩] []) .ret) .skip)) (.seq (.seq (.region false [ ⟨(some 3), .mv (.c (.d (.int .i64 0))), none⟩] []) (.block 0 (.loop ac64L0))) (.seq (.seq (.region false [ ⟨(some 4), .mv (.c (.d (.int .i64 0))), none⟩] []) (.block 2 (.loop ac64L2))) (.seq (.region false [ ⟨(some 2), .mv (.c (.d (.bool true))), none⟩] []) .ret)))))
theorem ac64_ok : Tryd.f64.body.bind (cCode Tryd.prog Tryd.f64.ntmps) = some ac64 := by kernel_rfl
-- 65 jacquard/jacquardref2.locText
def ac65 : ACode := (.seq (.region false [ ⟨(some 2), .mv (.c (.d (.str []))), none⟩] []) (.seq (.region false [ ⟨(some 3), .mv (.t 0), none⟩, ⟨(some 4), .cvi .u8 (.t 3), none⟩, ⟨(some 5), .bslice 1 1 [(.d (.int .u8 0))] [(0, 1, (.t 4))], none⟩, ⟨(some 6), .cvbs (.t 5), none⟩, ⟨(some 2), .mv (.t 6), none⟩] []) .ret))
theorem ac65_ok : Tryd.f65.body.bind (cCode Tryd.prog Tryd.f65.ntmps) = some ac65 := by kernel_rfl
-- 66 jacquard/jacquardref2.Ins
def ac66 : ACode := (.seq (.region false [ ⟨(some 1), .box (.t 0), none⟩, ⟨(some 2), .mv (.c (.d (.str []))), none⟩] []) (.seq (.seq (.region false [ ⟨(some 4), .load (some 9) (.t 1), none⟩, ⟨(some 5), .callf 83 [(.t 4)], none⟩, ⟨(some 6), .un .not (.t 5), none⟩] []) (.cond (.t 6) (.seq (.region false [ ⟨(some 2), .mv (.c (.d (.str []))), none⟩] []) .ret) .skip)) (.seq (.seq (.region false [ ⟨(some 7), .faddr (.t 1) 0, none⟩, ⟨(some 8), .load none (.t 7), none⟩] []) (.block 0 (.seq (.region false [ ⟨(some 10), .bin .eql (.t 8) (.c (.d (.int .i64 1))), none⟩, ⟨(some 9), .mv (.t 10), none⟩] []) (.cond (.t 9) (.seq (.region true [ ⟨(some 11), .faddr (.t 1) 2, none⟩, ⟨(some 12), .load none (.t 11), none⟩, ⟨(some 13), .callf 65 [(.t 12)], none⟩, ⟨(some 14), .bin .add (.c (.d (.str [115, 116, 111, 114, 101, 32]))) (.t 13), none⟩, ⟨(some 15), .bin .add (.t 14) (.c (.d (.str [32]))), none⟩, ⟨(some 16), .faddr (.t 1) 3, none⟩, ⟨(some 17), .load (some 2) (.t 16), none⟩, ⟨(some 18), .callf 84 [(.t 17)], none⟩, ⟨(some 19), .bin .add (.t 15) (.t 18), none⟩, ⟨(some 20), .bin .add (.t 19) (.c (.d (.str [32, 59]))), none⟩, ⟨(some 2), .mv (.t 20), none⟩] [0, 1, 2, 4, 8, 0, 32, 68, 144, 256, 1023]) .ret) (.seq (.region false [ ⟨(some 22), .bin .eql (.t 8) (.c (.d (.int .i64 2))), none⟩, ⟨(some 21), .mv (.t 22), none⟩] []) (.cond (.t 21) (.seq (.region true [ ⟨(some 23), .faddr (.t 1) 1, none⟩, ⟨(some 24), .load none (.t 23), none⟩, ⟨(some 25), .callf 85 [(.t 24)], none⟩, ⟨(some 26), .bin .add (.t 25) (.c (.d (.str [32, 61, 32, 108, 111, 97, 100, 32]))), none⟩, ⟨(some 27), .faddr (.t 1) 2, none⟩, ⟨(some 28), .load none (.t 27), none⟩, ⟨(some 29), .callf 65 [(.t 28)], none⟩, ⟨(some 30), .bin .add (.t 26) (.t 29), none⟩, ⟨(some 31), .bin .add (.t 30) (.c (.d (.str [32, 59]))), none⟩, ⟨(some 2), .mv (.t 31), none⟩] [0, 1, 2, 4, 0, 16, 36, 72, 128, 511]) .ret) (.seq (.region false [ ⟨(some 33), .bin .eql (.t 8) (.c (.d (.int .i64 3))), none⟩, ⟨(some 32), .mv (.t 33), none⟩] []) (.cond (.t 32) (.seq (.region false [ ⟨(some 2), .mv (.c (.d (.str [102, 101, 110, 99, 101, 32, 59]))), none⟩] []) .ret) (.seq (.region false [ ⟨(some 35), .bin .eql (.t 8) (.c (.d (.int .i64 4))), none⟩, ⟨(some 34), .mv (.t 35), none⟩] []) (.cond (.t 34) (.seq (.region true [ ⟨(some 36), .faddr (.t 1) 1, none⟩, ⟨(some 37), .load none (.t 36), none⟩, ⟨(some 38), .callf 85 [(.t 37)], none⟩, ⟨(some 39), .bin .add (.t 38) (.c (.d (.str [32, 61, 32, 99, 97, 115, 32]))), none⟩, ⟨(some 40), .faddr (.t 1) 2, none⟩, ⟨(some 41), .load none (.t 40), none⟩, ⟨(some 42), .callf 65 [(.t 41)], none⟩, ⟨(some 43), .bin .add (.t 39) (.t 42), none⟩, ⟨(some 44), .bin .add (.t 43) (.c (.d (.str [32]))), none⟩, ⟨(some 45), .faddr (.t 1) 3, none⟩, ⟨(some 46), .load (some 2) (.t 45), none⟩, ⟨(some 47), .callf 84 [(.t 46)], none⟩, ⟨(some 48), .bin .add (.t 44) (.t 47), none⟩, ⟨(some 49), .bin .add (.t 48) (.c (.d (.str [32]))), none⟩, ⟨(some 50), .faddr (.t 1) 6, none⟩, ⟨(some 51), .load (some 2) (.t 50), none⟩, ⟨(some 52), .callf 84 [(.t 51)], none⟩, ⟨(some 53), .bin .add (.t 49) (.t 52), none⟩, ⟨(some 54), .bin .add (.t 53) (.c (.d (.str [32, 59]))), none⟩, ⟨(some 2), .mv (.t 54), none⟩] [0, 1, 2, 4, 0, 16, 36, 72, 128, 0, 512, 1088, 2304, 4096, 0, 16384, 34816, 73728, 131072, 524287]) .ret) (.seq (.region false [ ⟨(some 56), .bin .eql (.t 8) (.c (.d (.int .i64 5))), none⟩, ⟨(some 55), .mv (.t 56), none⟩] []) (.cond (.t 55) (.seq (.region true [ ⟨(some 57), .faddr (.t 1) 1, none⟩, ⟨(some 58), .load none (.t 57), none⟩, ⟨(some 59), .callf 85 [(.t 58)], none⟩, ⟨(some 60), .bin .add (.t 59) (.c (.d (.str [32, 61, 32]))), none⟩, ⟨(some 61), .faddr (.t 1) 3, none⟩, ⟨(some 62), .load (some 2) (.t 61), none⟩, ⟨(some 63), .callf 84 [(.t 62)], none⟩, ⟨(some 64), .bin .add (.t 60) (.t 63), none⟩, ⟨(some 3), .mv (.t 64), none⟩] [0, 1, 2, 4, 0, 16, 36, 72, 255]) (.seq (.seq (.region false [ ⟨(some 65), .faddr (.t 1) 5, none⟩, ⟨(some 66), .load none (.t 65), none⟩, ⟨(some 67), .bin .gtr (.t 66) (.c (.d (.int .i64 0))), none⟩] []) (.cond (.t 67) (.region true [ ⟨(some 68), .mv (.t 3), none⟩, ⟨(some 69), .bin .add (.t 68) (.c (.d (.str [32]))), none⟩, ⟨(some 70), .faddr (.t 1) 5, none⟩, ⟨(some 71), .load none (.t 70), none⟩, ⟨(some 72), .callf 86 [(.t 71)], none⟩, ⟨(some 73), .bin .add (.t 69) (.t 72), none⟩, ⟨(some 74), .bin .add (.t 73) (.c (.d (.str [32]))), none⟩, ⟨(some 75), .faddr (.t 1) 6, none⟩, ⟨(some 76), .load (some 2) (.t 75), none⟩, ⟨(some 77), .callf 84 [(.t 76)], none⟩, ⟨(some 78), .bin .add (.t 74) (.t 77), none⟩, ⟨(some 3), .mv (.t 78), none⟩] [0, 1, 0, 4, 8, 18, 32, 0, 128, 272, 576, 2047]) .skip)) (.seq (.region false [ ⟨(some 79), .mv (.t 3), none⟩, ⟨(some 80), .bin .add (.t 79) (.c (.d (.str [32, 59]))), none⟩, ⟨(some 2), .mv (.t 80), none⟩] []) .ret))) .skip)))))))))))) (.seq (.region true [ ⟨(some 81), .faddr (.t 1) 8, none⟩, ⟨(some 82), .load none (.t 81), none⟩, ⟨(some 83), .callf 19 [(.t 82)], none⟩, ⟨(some 84), .bin .add (.c (.d (.str [115, 107, 105, 112, 32]))) (.t 83), none⟩, ⟨(some 85), .bin .add (.t 84) (.c (.d (.str [32, 105, 102, 32]))), none⟩, ⟨(some 86), .faddr (.t 1) 3, none⟩, ⟨(some 87), .load (some 2) (.t 86), none⟩, ⟨(some 88), .callf 84 [(.t 87)], none⟩, ⟨(some 89), .bin .add (.t 85) (.t 88), none⟩, ⟨(some 90), .bin .add (.t 89) (.c (.d (.str [32, 61, 61, 32]))), none⟩, ⟨(some 91), .faddr (.t 1) 6, none⟩, ⟨(some 92), .load (some 2) (.t 91), none⟩, ⟨(some 93), .callf 84 [(.t 92)], none⟩, ⟨(some 94), .bin .add (.t 90) (.t 93), none⟩, ⟨(some 95), .bin .add (.t 94) (.c (.d (.str [32, 59]))), none⟩, ⟨(some 2), .mv (.t 95), none⟩] [0, 1, 2, 4, 8, 0, 32, 68, 144, 256, 0, 1024, 2176, 4608, 8192, 32767]) .ret))))
theorem ac66_ok : Tryd.f66.body.bind (cCode Tryd.prog Tryd.f66.ntmps) = some ac66 := by kernel_rfl
-- 67 jacquard/jacquardref2.Cond
def ac67L0 : ACode := (.seq (.seq (.region false [ ⟨(some 25), .mv (.t 5), none⟩, ⟨(some 26), .faddr (.t 1) 1, none⟩, ⟨(some 27), .load none (.t 26), none⟩, ⟨(some 28), .mv (.t 4), none⟩, ⟨(some 29), .iaddr 1 none (.t 27) (.t 28), none⟩, ⟨(some 30), .load none (.t 29), none⟩, ⟨(some 31), .lenl (.t 30), none⟩, ⟨(some 32), .bin .lss (.t 25) (.t 31), none⟩] []) (.cond (.t 32) .skip (.exit 2))) (.seq (.block 3 (.seq (.region false [ ⟨(some 35), .faddr (.t 1) 1, none⟩, ⟨(some 36), .load none (.t 35), none⟩, ⟨(some 37), .mv (.t 4), none⟩, ⟨(some 38), .iaddr 1 none (.t 36) (.t 37), none⟩, ⟨(some 39), .load none (.t 38), none⟩, ⟨(some 40), .mv (.t 5), none⟩, ⟨(some 41), .iaddr 4 none (.t 39) (.t 40), none⟩, ⟨(some 42), .load (some 4) (.t 41), none⟩, ⟨(some 6), .alloc [(.d (.int .i64 0)), (.d (.int .i64 0)), (.d (.int .i64 0)), (.d (.int .i64 0))], none⟩, ⟨none, .store 4 (.t 6) (.t 42), none⟩] []) (.seq (.seq (.region false [ ⟨(some 43), .mv (.t 5), none⟩, ⟨(some 44), .bin .gtr (.t 43) (.c (.d (.int .i64 0))), none⟩] []) (.cond (.t 44) (.region false [ ⟨(some 45), .mv (.t 3), none⟩, ⟨(some 46), .bin .add (.t 45) (.c (.d (.str [32, 38]))), none⟩, ⟨(some 3), .mv (.t 46), none⟩] []) (.seq (.region false [ ⟨(some 47), .mv (.t 4), none⟩, ⟨(some 48), .bin .gtr (.t 47) (.c (.d (.int .i64 0))), none⟩] []) (.cond (.t 48) (.region false [ ⟨(some 49), .mv (.t 3), none⟩, ⟨(some 50), .bin .add (.t 49) (.c (.d (.str [32, 124]))), none⟩, ⟨(some 3), .mv (.t 50), none⟩] []) .skip)))) (.seq (.region false [ ⟨(some 51), .faddr (.t 6) 0, none⟩, ⟨(some 52), .load none (.t 51), none⟩, ⟨(some 53), .bin .geq (.t 52) (.c (.d (.int .i64 0))), none⟩] []) (.cond (.t 53) (.region true [ ⟨(some 54), .mv (.t 3), none⟩, ⟨(some 55), .bin .add (.t 54) (.c (.d (.str [32]))), none⟩, ⟨(some 56), .faddr (.t 6) 0, none⟩, ⟨(some 57), .load none (.t 56), none⟩, ⟨(some 58), .callf 19 [(.t 57)], none⟩, ⟨(some 59), .bin .add (.t 55) (.t 58), none⟩, ⟨(some 60), .bin .add (.t 59) (.c (.d (.str [32, 58, 32]))), none⟩, ⟨(some 61), .faddr (.t 6) 1, none⟩, ⟨(some 62), .load none (.t 61), none⟩, ⟨(some 63), .callf 85 [(.t 62)], none⟩, ⟨(some 64), .bin .add (.t 60) (.t 63), none⟩, ⟨(some 65), .bin .add (.t 64) (.c (.d (.str [32, 61, 32]))), none⟩, ⟨(some 66), .faddr (.t 6) 3, none⟩, ⟨(some 67), .load none (.t 66), none⟩, ⟨(some 68), .callf 19 [(.t 67)], none⟩, ⟨(some 69), .bin .add (.t 65) (.t 68), none⟩, ⟨(some 3), .mv (.t 69), none⟩] [0, 1, 0, 4, 8, 18, 32, 0, 128, 272, 576, 1024, 0, 4096, 8704, 18432, 65535]) (.region true [ ⟨(some 70), .mv (.t 3), none⟩, ⟨(some 71), .bin .add (.t 70) (.c (.d (.str [32]))), none⟩, ⟨(some 72), .faddr (.t 6) 2, none⟩, ⟨(some 73), .load none (.t 72), none⟩, ⟨(some 74), .callf 65 [(.t 73)], none⟩, ⟨(some 75), .bin .add (.t 71) (.t 74), none⟩, ⟨(some 76), .bin .add (.t 75) (.c (.d (.str [32, 61, 32]))), none⟩, ⟨(some 77), .faddr (.t 6) 3, none⟩, ⟨(some 78), .load none (.t 77), none⟩, ⟨(some 79), .callf 19 [(.t 78)], none⟩, ⟨(some 80), .bin .add (.t 76) (.t 79), none⟩, ⟨(some 3), .mv (.t 80), none⟩] [0, 1, 0, 4, 8, 18, 32, 0, 128, 272, 576, 2047])))))) (.region false [ ⟨(some 33), .mv (.t 5), none⟩, ⟨(some 34), .bin .add (.t 33) (.c (.d (.int .i64 1))), none⟩, ⟨(some 5), .mv (.t 34), none⟩] [])))
def ac67L1 : ACode := (.seq (.seq (.region false [ ⟨(some 18), .mv (.t 4), none⟩, ⟨(some 19), .faddr (.t 1) 1, none⟩, ⟨(some 20), .load none (.t 19), none⟩, ⟨(some 21), .lenl (.t 20), none⟩, ⟨(some 22), .bin .lss (.t 18) (.t 21), none⟩] []) (.cond (.t 22) .skip (.exit 0))) (.seq (.block 1 (.seq (.region false [ ⟨(some 5), .mv (.c (.d (.int .i64 0))), none⟩] []) (.block 2 (.loop ac67L0)))) (.region false [ ⟨(some 23), .mv (.t 4), none⟩, ⟨(some 24), .bin .add (.t 23) (.c (.d (.int .i64 1))), none⟩, ⟨(some 4), .mv (.t 24), none⟩] [])))
def ac67 : ACode := (.seq (.region false [ ⟨(some 1), .box (.t 0), none⟩, ⟨(some 2), .mv (.c (.d (.str []))), none⟩] []) (.seq (.seq (.region false [ ⟨(some 7), .load (some 2) (.t 1), none⟩, ⟨(some 8), .callf 81 [(.t 7)], none⟩, ⟨(some 9), .un .not (.t 8), none⟩, ⟨(some 10), .mv (.t 9), none⟩, ⟨(some 11), .faddr (.t 1) 0, (some (10, false))⟩, ⟨(some 12), .load none (.t 11), (some (10, false))⟩, ⟨(some 13), .bin .eql (.t 12) (.c (.d (.int .i64 0))), (some (10, false))⟩, ⟨(some 14), .pick (.t 10) (.c (.d (.bool true))) (.t 13), none⟩] []) (.cond (.t 14) (.seq (.region false [ ⟨(some 2), .mv (.c (.d (.str []))), none⟩] []) .ret) .skip)) (.seq (.region false [ ⟨(some 3), .mv (.c (.d (.str [101, 120, 105, 115, 116, 115]))), none⟩] []) (.seq (.seq (.region false [ ⟨(some 15), .faddr (.t 1) 0, none⟩, ⟨(some 16), .load none (.t 15), none⟩, ⟨(some 17), .bin .eql (.t 16) (.c (.d (.int .i64 2))), none⟩] []) (.cond (.t 17) (.region false [ ⟨(some 3), .mv (.c (.d (.str [102, 111, 114, 97, 108, 108]))), none⟩] []) .skip)) (.seq (.seq (.region false [ ⟨(some 4), .mv (.c (.d (.int .i64 0))), none⟩] []) (.block 0 (.loop ac67L1))) (.seq (.region false [ ⟨(some 81), .mv (.t 3), none⟩, ⟨(some 82), .bin .add (.t 81) (.c (.d (.str [32, 59]))), none⟩, ⟨(some 2), .mv (.t 82), none⟩] []) .ret))))))
theorem ac67_ok : Tryd.f67.body.bind (cCode Tryd.prog Tryd.f67.ntmps) = some ac67 := by kernel_rfl
-- 71 (*jacquard/parse.parser).is
def ac71 : ACode := (.seq (.region false [ ⟨(some 4), .mv (.c (.d (.bool false))), none⟩] []) (.seq (.region false [ ⟨(some 5), .mv (.t 0), none⟩, ⟨(some 6), .callf 51 [(.t 5)], none⟩, ⟨(some 7), .mv (.t 6), none⟩, ⟨(some 8), .mv (.t 0), (some (7, true))⟩, ⟨(some 9), .nilck (.t 8), (some (7, true))⟩, ⟨(some 10), .faddr (.t 9) 1, (some (7, true))⟩, ⟨(some 11), .faddr (.t 10) 0, (some (7, true))⟩, ⟨(some 12), .load none (.t 11), (some (7, true))⟩, ⟨(some 13), .bin .eql (.t 12) (.c (.d (.int .i64 3))), (some (7, true))⟩, ⟨(some 14), .mv (.t 13), (some (7, true))⟩, ⟨(some 15), .mv (.t 0), (some (14, false))⟩, ⟨(some 16), .nilck (.t 15), (some (14, false))⟩, ⟨(some 17), .faddr (.t 16) 1, (some (14, false))⟩, ⟨(some 18), .faddr (.t 17) 0, (some (14, false))⟩, ⟨(some 19), .load none (.t 18), (some (14, false))⟩, ⟨(some 20), .bin .eql (.t 19) (.c (.d (.int .i64 1))), (some (14, false))⟩, ⟨(some 21), .pick (.t 14) (.c (.d (.bool true))) (.t 20), (some (7, true))⟩, ⟨(some 22), .pick (.t 7) (.t 21) (.c (.d (.bool false))), none⟩, ⟨(some 23), .mv (.t 22), none⟩, ⟨(some 24), .mv (.t 0), (some (23, true))⟩, ⟨(some 25), .nilck (.t 24), (some (23, true))⟩, ⟨(some 26), .faddr (.t 25) 1, (some (23, true))⟩, ⟨(some 27), .faddr (.t 26) 1, (some (23, true))⟩, ⟨(some 28), .load none (.t 27), (some (23, true))⟩, ⟨(some 29), .mv (.t 1), (some (23, true))⟩, ⟨(some 30), .bin .eql (.t 28) (.t 29), (some (23, true))⟩, ⟨(some 31), .pick (.t 23) (.t 30) (.c (.d (.bool false))), none⟩, ⟨(some 4), .mv (.t 31), none⟩] []) .ret))
theorem ac71_ok : Tryd.f71.body.bind (cCode Tryd.prog Tryd.f71.ntmps) = some ac71 := by kernel_rfl
-- 72 (*jacquard/parse.parser).named
def ac72 : ACode := (.seq (.region false [ ⟨(some 4), .mv (.c (.d (.int .i64 0))), none⟩] []) (.seq (.seq (.region false [ ⟨(some 7), .mv (.t 0), none⟩, ⟨(some 8), .nilck (.t 7), none⟩, ⟨(some 9), .faddr (.t 8) 1, none⟩, ⟨(some 10), .faddr (.t 9) 0, none⟩, ⟨(some 11), .load none (.t 10), none⟩, ⟨(some 12), .bin .neq (.t 11) (.c (.d (.int .i64 1))), none⟩] []) (.cond (.t 12) (.seq (.region false [ ⟨(some 13), .mv (.t 0), none⟩, ⟨(some 14), .callf 52 [(.t 13), (.c (.d (.int .i64 6)))], none⟩] []) (.seq (.region false [ ⟨(some 4), .mv (.c (.d (.int .i64 0))), none⟩] []) .ret)) .skip)) (.seq (.region false [ ⟨(some 16), .mv (.t 1), none⟩, ⟨(some 17), .mv (.t 0), none⟩, ⟨(some 18), .nilck (.t 17), none⟩, ⟨(some 19), .faddr (.t 18) 1, none⟩, ⟨(some 20), .faddr (.t 19) 1, none⟩, ⟨(some 21), .load none (.t 20), none⟩, ⟨(some 22), .callv (.t 16) [(.t 21)], none⟩, ⟨(some 15), .mv (.t 22), none⟩, ⟨(some 23), .ext (.t 15) 0, none⟩, ⟨(some 24), .ext (.t 15) 1, none⟩, ⟨(some 5), .mv (.t 23), none⟩, ⟨(some 6), .mv (.t 24), none⟩] []) (.seq (.seq (.region false [ ⟨(some 25), .mv (.t 6), none⟩, ⟨(some 26), .un .not (.t 25), none⟩] []) (.cond (.t 26) (.seq (.region false [ ⟨(some 27), .mv (.t 0), none⟩, ⟨(some 28), .callf 52 [(.t 27), (.c (.d (.int .i64 7)))], none⟩] []) (.seq (.region false [ ⟨(some 4), .mv (.c (.d (.int .i64 0))), none⟩] []) .ret)) .skip)) (.seq (.region false [ ⟨(some 29), .mv (.t 0), none⟩, ⟨(some 30), .callf 44 [(.t 29)], none⟩] []) (.seq (.region false [ ⟨(some 31), .mv (.t 5), none⟩, ⟨(some 4), .mv (.t 31), none⟩] []) .ret))))))
theorem ac72_ok : Tryd.f72.body.bind (cCode Tryd.prog Tryd.f72.ntmps) = some ac72 := by kernel_rfl
-- 73 jacquard/parse.isLoc
def ac73 : ACode := (.seq (.region false [ ⟨(some 2), .mv (.c (.d (.int .i64 0))), none⟩, ⟨(some 3), .mv (.c (.d (.bool false))), none⟩] []) (.seq (.region false [ ⟨(some 4), .mv (.t 0), none⟩, ⟨(some 5), .idxs (.t 4) (.c (.d (.int .i64 0))), none⟩, ⟨(some 6), .cvi .i64 (.t 5), none⟩, ⟨(some 7), .mv (.t 0), none⟩, ⟨(some 8), .lens (.t 7), none⟩, ⟨(some 9), .bin .eql (.t 8) (.c (.d (.int .i64 1))), none⟩, ⟨(some 2), .mv (.t 6), none⟩, ⟨(some 3), .mv (.t 9), none⟩] []) .ret))
theorem ac73_ok : Tryd.f73.body.bind (cCode Tryd.prog Tryd.f73.ntmps) = some ac73 := by kernel_rfl
-- 74 (*jacquard/parse.parser).number
def ac74 : ACode := (.seq (.region false [ ⟨(some 2), .mv (.c (.d (.int .i64 0))), none⟩] []) (.seq (.seq (.region false [ ⟨(some 5), .mv (.t 0), none⟩, ⟨(some 6), .nilck (.t 5), none⟩, ⟨(some 7), .faddr (.t 6) 1, none⟩, ⟨(some 8), .faddr (.t 7) 0, none⟩, ⟨(some 9), .load none (.t 8), none⟩, ⟨(some 10), .bin .neq (.t 9) (.c (.d (.int .i64 2))), none⟩] []) (.cond (.t 10) (.region false [ ⟨(some 11), .mv (.t 0), none⟩, ⟨(some 12), .callf 52 [(.t 11), (.c (.d (.int .i64 6)))], none⟩] []) .skip)) (.seq (.seq (.region false [ ⟨(some 13), .mv (.t 0), none⟩, ⟨(some 14), .callf 51 [(.t 13)], none⟩, ⟨(some 15), .un .not (.t 14), none⟩] []) (.cond (.t 15) (.seq (.region false [ ⟨(some 2), .mv (.c (.d (.int .i64 0))), none⟩] []) .ret) .skip)) (.seq (.region false [ ⟨(some 17), .mv (.t 0), none⟩, ⟨(some 18), .nilck (.t 17), none⟩, ⟨(some 19), .faddr (.t 18) 1, none⟩, ⟨(some 20), .faddr (.t 19) 1, none⟩, ⟨(some 21), .load none (.t 20), none⟩, ⟨(some 22), .callf 37 [(.t 21)], none⟩, ⟨(some 16), .mv (.t 22), none⟩, ⟨(some 23), .ext (.t 16) 0, none⟩, ⟨(some 24), .ext (.t 16) 1, none⟩, ⟨(some 3), .mv (.t 23), none⟩, ⟨(some 4), .mv (.t 24), none⟩] []) (.seq (.region false [ ⟨(some 25), .mv (.t 0), none⟩, ⟨(some 26), .callf 44 [(.t 25)], none⟩] []) (.seq (.region false [ ⟨(some 27), .mv (.t 3), none⟩, ⟨(some 2), .mv (.t 27), none⟩] []) .ret))))))
theorem ac74_ok : Tryd.f74.body.bind (cCode Tryd.prog Tryd.f74.ntmps) = some ac74 := by kernel_rfl
-- 75 (*jacquard/parse.parser).ins
def ac75 : ACode := (.seq (.region false [ ⟨(some 2), .alloc [(.d (.int .i64 0)), (.d (.int .i64 0)), (.d (.int .i64 0)), (.d (.int .i64 0)), (.d (.int .i64 0)), (.d (.int .i64 0)), (.d (.int .i64 0)), (.d (.int .i64 0)), (.d (.int .i64 0))], none⟩] []) (.seq (.region false [ ⟨(some 6), .build [(.d (.int .i64 0)), (.d (.int .i64 0)), (.d (.int .i64 0)), (.d (.int .i64 0)), (.d (.int .i64 0)), (.d (.int .i64 0)), (.d (.int .i64 0)), (.d (.int .i64 0)), (.d (.int .i64 0))] [], none⟩, ⟨(some 3), .alloc [(.d (.int .i64 0)), (.d (.int .i64 0)), (.d (.int .i64 0)), (.d (.int .i64 0)), (.d (.int .i64 0)), (.d (.int .i64 0)), (.d (.int .i64 0)), (.d (.int .i64 0)), (.d (.int .i64 0))], none⟩, ⟨none, .store 9 (.t 3) (.t 6), none⟩] []) (.seq (.block 0 (.seq (.region false [ ⟨(some 15), .mv (.t 0), none⟩, ⟨(some 16), .callf 47 [(.t 15), (.c (.d (.str [115, 116, 111, 114, 101])))], none⟩, ⟨(some 14), .mv (.t 16), none⟩] []) (.cond (.t 14) (.seq (.region false [ ⟨(some 17), .mv (.t 0), none⟩, ⟨(some 18), .callf 72 [(.t 17), (.c (.fn 73 []))], none⟩, ⟨(some 19), .faddr (.t 3) 0, none⟩, ⟨none, .store 1 (.t 19) (.c (.d (.int .i64 1))), none⟩, ⟨(some 20), .faddr (.t 3) 2, none⟩, ⟨none, .store 1 (.t 20) (.t 18), none⟩] []) (.region false [ ⟨(some 21), .mv (.t 0), none⟩, ⟨(some 22), .callf 91 [(.t 21)], none⟩, ⟨(some 23), .faddr (.t 3) 3, none⟩, ⟨none, .store 2 (.t 23) (.t 22), none⟩] [])) (.seq (.region false [ ⟨(some 25), .mv (.t 0), none⟩, ⟨(some 26), .callf 47 [(.t 25), (.c (.d (.str [102, 101, 110, 99, 101])))], none⟩, ⟨(some 24), .mv (.t 26), none⟩] []) (.cond (.t 24) (.region false [ ⟨(some 27), .faddr (.t 3) 0, none⟩, ⟨none, .store 1 (.t 27) (.c (.d (.int .i64 3))), none⟩] []) (.seq (.region false [ ⟨(some 29), .mv (.t 0), none⟩, ⟨(some 30), .callf 47 [(.t 29), (.c (.d (.str [115, 107, 105, 112])))], none⟩, ⟨(some 28), .mv (.t 30), none⟩] []) (.cond (.t 28) (.seq (.region false [ ⟨(some 31), .faddr (.t 3) 0, none⟩, ⟨none, .store 1 (.t 31) (.c (.d (.int .i64 6))), none⟩] []) (.seq (.seq (.region false [ ⟨(some 33), .mv (.t 0), none⟩, ⟨(some 34), .nilck (.t 33), none⟩, ⟨(some 35), .faddr (.t 34) 1, none⟩, ⟨(some 36), .faddr (.t 35) 1, none⟩, ⟨(some 37), .load none (.t 36), none⟩, ⟨(some 38), .callf 37 [(.t 37)], none⟩, ⟨(some 32), .mv (.t 38), none⟩, ⟨(some 39), .ext (.t 32) 0, none⟩, ⟨(some 40), .ext (.t 32) 1, none⟩, ⟨(some 4), .mv (.t 39), none⟩, ⟨(some 5), .mv (.t 40), none⟩] []) (.seq (.region false [ ⟨(some 41), .mv (.t 0), none⟩, ⟨(some 42), .nilck (.t 41), none⟩, ⟨(some 43), .faddr (.t 42) 1, none⟩, ⟨(some 44), .faddr (.t 43) 0, none⟩, ⟨(some 45), .load none (.t 44), none⟩, ⟨(some 46), .bin .eql (.t 45) (.c (.d (.int .i64 2))), none⟩, ⟨(some 47), .mv (.t 46), none⟩, ⟨(some 48), .mv (.t 4), (some (47, true))⟩, ⟨(some 49), .bin .lss (.t 48) (.c (.d (.int .i64 0))), (some (47, true))⟩, ⟨(some 50), .pick (.t 47) (.t 49) (.c (.d (.bool false))), none⟩] []) (.cond (.t 50) (.region false [ ⟨(some 51), .mv (.t 0), none⟩, ⟨(some 52), .callf 52 [(.t 51), (.c (.d (.int .i64 6)))], none⟩] []) .skip))) (.seq (.region false [ ⟨(some 53), .mv (.t 0), none⟩, ⟨(some 54), .callf 74 [(.t 53)], none⟩, ⟨(some 55), .faddr (.t 3) 8, none⟩, ⟨none, .store 1 (.t 55) (.t 54), none⟩] []) (.seq (.region false [ ⟨(some 56), .mv (.t 0), none⟩, ⟨(some 57), .callf 45 [(.t 56), (.c (.d (.str [105, 102])))], none⟩] []) (.seq (.region false [ ⟨(some 58), .mv (.t 0), none⟩, ⟨(some 59), .callf 91 [(.t 58)], none⟩, ⟨(some 60), .faddr (.t 3) 3, none⟩, ⟨none, .store 2 (.t 60) (.t 59), none⟩] []) (.seq (.region false [ ⟨(some 61), .mv (.t 0), none⟩, ⟨(some 62), .callf 45 [(.t 61), (.c (.d (.str [61, 61])))], none⟩] []) (.region false [ ⟨(some 63), .mv (.t 0), none⟩, ⟨(some 64), .callf 91 [(.t 63)], none⟩, ⟨(some 65), .faddr (.t 3) 6, none⟩, ⟨none, .store 2 (.t 65) (.t 64), none⟩] []))))))) (.seq (.region false [ ⟨(some 7), .mv (.t 0), none⟩, ⟨(some 8), .callf 72 [(.t 7), (.c (.fn 92 []))], none⟩, ⟨(some 9), .faddr (.t 3) 1, none⟩, ⟨none, .store 1 (.t 9) (.t 8), none⟩] []) (.seq (.region false [ ⟨(some 10), .mv (.t 0), none⟩, ⟨(some 11), .callf 45 [(.t 10), (.c (.d (.str [61])))], none⟩] []) (.region false [ ⟨(some 12), .mv (.t 0), none⟩, ⟨(some 13), .callf 93 [(.t 12), (.t 3)], none⟩] [])))))))))) (.seq (.region false [ ⟨(some 66), .load (some 9) (.t 3), none⟩, ⟨none, .store 9 (.t 2) (.t 66), none⟩] []) .ret))))
theorem ac75_ok : Tryd.f75.body.bind (cCode Tryd.prog Tryd.f75.ntmps) = some ac75 := by kernel_rfl
-- 76 (*jacquard/parse.parser).atom
def ac76 : ACode := (.seq (.region false [ ⟨(some 2), .alloc [(.d (.int .i64 0)), (.d (.int .i64 0)), (.d (.int .i64 0)), (.d (.int .i64 0))], none⟩] []) (.seq (.region false [ ⟨(some 6), .build [(.d (.int .i64 0)), (.d (.int .i64 0)), (.d (.int .i64 0)), (.d (.int .i64 0))] [(0, 1, (.c (.d (.int .i64 (-1)))))], none⟩, ⟨(some 3), .alloc [(.d (.int .i64 0)), (.d (.int .i64 0)), (.d (.int .i64 0)), (.d (.int .i64 0))], none⟩, ⟨none, .store 4 (.t 3) (.t 6), none⟩] []) (.seq (.seq (.region false [ ⟨(some 7), .mv (.t 0), none⟩, ⟨(some 8), .callf 51 [(.t 7)], none⟩, ⟨(some 9), .mv (.t 8), none⟩, ⟨(some 10), .mv (.t 0), (some (9, true))⟩, ⟨(some 11), .nilck (.t 10), (some (9, true))⟩, ⟨(some 12), .faddr (.t 11) 1, (some (9, true))⟩, ⟨(some 13), .faddr (.t 12) 0, (some (9, true))⟩, ⟨(some 14), .load none (.t 13), (some (9, true))⟩, ⟨(some 15), .bin .eql (.t 14) (.c (.d (.int .i64 2))), (some (9, true))⟩, ⟨(some 16), .pick (.t 9) (.t 15) (.c (.d (.bool false))), none⟩] []) (.cond (.t 16) (.seq (.region false [ ⟨(some 18), .mv (.t 0), none⟩, ⟨(some 19), .nilck (.t 18), none⟩, ⟨(some 20), .faddr (.t 19) 1, none⟩, ⟨(some 21), .faddr (.t 20) 1, none⟩, ⟨(some 22), .load none (.t 21), none⟩, ⟨(some 23), .callf 37 [(.t 22)], none⟩, ⟨(some 17), .mv (.t 23), none⟩, ⟨(some 24), .ext (.t 17) 0, none⟩, ⟨(some 25), .ext (.t 17) 1, none⟩, ⟨(some 4), .mv (.t 24), none⟩, ⟨(some 5), .mv (.t 25), none⟩] []) (.seq (.seq (.region false [ ⟨(some 26), .mv (.t 4), none⟩, ⟨(some 27), .bin .lss (.t 26) (.c (.d (.int .i64 0))), none⟩, ⟨(some 28), .mv (.t 27), none⟩, ⟨(some 29), .mv (.t 4), (some (28, false))⟩, ⟨(some 30), .bin .gtr (.t 29) (.c (.d (.int .i64 9))), (some (28, false))⟩, ⟨(some 31), .pick (.t 28) (.c (.d (.bool true))) (.t 30), none⟩] []) (.cond (.t 31) (.seq (.region false [ ⟨(some 32), .mv (.t 0), none⟩, ⟨(some 33), .callf 52 [(.t 32), (.c (.d (.int .i64 7)))], none⟩] []) (.seq (.region false [ ⟨(some 34), .build [(.d (.int .i64 0)), (.d (.int .i64 0)), (.d (.int .i64 0)), (.d (.int .i64 0))] [], none⟩, ⟨none, .store 4 (.t 2) (.t 34), none⟩] []) .ret)) .skip)) (.seq (.region false [ ⟨(some 35), .mv (.t 4), none⟩, ⟨(some 36), .faddr (.t 3) 0, none⟩, ⟨none, .store 1 (.t 36) (.t 35), none⟩] []) (.seq (.region false [ ⟨(some 37), .mv (.t 0), none⟩, ⟨(some 38), .callf 44 [(.t 37)], none⟩] []) (.seq (.region false [ ⟨(some 39), .mv (.t 0), none⟩, ⟨(some 40), .callf 45 [(.t 39), (.c (.d (.str [58])))], none⟩] []) (.region false [ ⟨(some 41), .mv (.t 0), none⟩, ⟨(some 42), .callf 72 [(.t 41), (.c (.fn 92 []))], none⟩, ⟨(some 43), .faddr (.t 3) 1, none⟩, ⟨none, .store 1 (.t 43) (.t 42), none⟩] [])))))) (.region false [ ⟨(some 44), .mv (.t 0), none⟩, ⟨(some 45), .callf 72 [(.t 44), (.c (.fn 73 []))], none⟩, ⟨(some 46), .faddr (.t 3) 2, none⟩, ⟨none, .store 1 (.t 46) (.t 45), none⟩] []))) (.seq (.region false [ ⟨(some 47), .mv (.t 0), none⟩, ⟨(some 48), .callf 45 [(.t 47), (.c (.d (.str [61])))], none⟩] []) (.seq (.region false [ ⟨(some 49), .mv (.t 0), none⟩, ⟨(some 50), .callf 74 [(.t 49)], none⟩, ⟨(some 51), .faddr (.t 3) 3, none⟩, ⟨none, .store 1 (.t 51) (.t 50), none⟩] []) (.seq (.region false [ ⟨(some 52), .load (some 4) (.t 3), none⟩, ⟨none, .store 4 (.t 2) (.t 52), none⟩] []) .ret))))))
theorem ac76_ok : Tryd.f76.body.bind (cCode Tryd.prog Tryd.f76.ntmps) = some ac76 := by kernel_rfl
-- 77 (*jacquard/jacquardref2.reader).operand
-- 78 (*jacquard/jacquardref2.reader).register
-- 79 jacquard/jacquardref2.Op
-- 80 jacquard/jacquardref2.word
def ac80L0 : ACode := (.seq (.seq (.region false [ ⟨(some 4), .mv (.t 3), none⟩, ⟨(some 5), .mv (.t 0), none⟩, ⟨(some 6), .lens (.t 5), none⟩, ⟨(some 7), .bin .lss (.t 4) (.t 6), none⟩] []) (.cond (.t 7) .skip (.exit 0))) (.seq (.block 1 (.seq (.region false [ ⟨(some 10), .mv (.t 0), none⟩, ⟨(some 11), .mv (.t 3), none⟩, ⟨(some 12), .idxs (.t 10) (.t 11), none⟩, ⟨(some 13), .callf 41 [(.t 12)], none⟩, ⟨(some 14), .un .not (.t 13), none⟩, ⟨(some 15), .mv (.t 14), none⟩, ⟨(some 16), .mv (.t 3), (some (15, true))⟩, ⟨(some 17), .bin .gtr (.t 16) (.c (.d (.int .i64 0))), (some (15, true))⟩, ⟨(some 18), .mv (.t 17), (some (15, true))⟩, ⟨(some 19), .mv (.t 0), (some (18, true))⟩, ⟨(some 20), .mv (.t 3), (some (18, true))⟩, ⟨(some 21), .idxs (.t 19) (.t 20), (some (18, true))⟩, ⟨(some 22), .callf 42 [(.t 21)], (some (18, true))⟩, ⟨(some 23), .pick (.t 18) (.t 22) (.c (.d (.bool false))), (some (15, true))⟩, ⟨(some 24), .un .not (.t 23), (some (15, true))⟩, ⟨(some 25), .pick (.t 15) (.t 24) (.c (.d (.bool false))), none⟩] []) (.cond (.t 25) (.seq (.region false [ ⟨(some 2), .mv (.c (.d (.bool false))), none⟩] []) .ret) .skip))) (.region false [ ⟨(some 8), .mv (.t 3), none⟩, ⟨(some 9), .bin .add (.t 8) (.c (.d (.int .i64 1))), none⟩, ⟨(some 3), .mv (.t 9), none⟩] [])))
def ac80 : ACode := (.seq (.region false [ ⟨(some 2), .mv (.c (.d (.bool false))), none⟩] []) (.seq (.seq (.region false [ ⟨(some 3), .mv (.c (.d (.int .i64 0))), none⟩] []) (.block 0 (.loop ac80L0))) (.seq (.region false [ ⟨(some 26), .mv (.t 0), none⟩, ⟨(some 27), .bin .neq (.t 26) (.c (.d (.str []))), none⟩, ⟨(some 2), .mv (.t 27), none⟩] []) .ret)))
theorem ac80_ok : Tryd.f80.body.bind (cCode Tryd.prog Tryd.f80.ntmps) = some ac80 := by kernel_rfl
-- 81 jacquard/jacquardref2.CondOk
def ac81L0 : ACode := (.seq (.seq (.region false [ ⟨(some 43), .mv (.t 4), none⟩, ⟨(some 44), .faddr (.t 1) 1, none⟩, ⟨(some 45), .load none (.t 44), none⟩, ⟨(some 46), .mv (.t 3), none⟩, ⟨(some 47), .iaddr 1 none (.t 45) (.t 46), none⟩, ⟨(some 48), .load none (.t 47), none⟩, ⟨(some 49), .lenl (.t 48), none⟩, ⟨(some 50), .bin .lss (.t 43) (.t 49), none⟩] []) (.cond (.t 50) .skip (.exit 2))) (.seq (.block 3 (.seq (.region false [ ⟨(some 53), .faddr (.t 1) 1, none⟩, ⟨(some 54), .load none (.t 53), none⟩, ⟨(some 55), .mv (.t 3), none⟩, ⟨(some 56), .iaddr 1 none (.t 54) (.t 55), none⟩, ⟨(some 57), .load none (.t 56), none⟩, ⟨(some 58), .mv (.t 4), none⟩, ⟨(some 59), .iaddr 4 none (.t 57) (.t 58), none⟩, ⟨(some 60), .load (some 4) (.t 59), none⟩, ⟨(some 5), .alloc [(.d (.int .i64 0)), (.d (.int .i64 0)), (.d (.int .i64 0)), (.d (.int .i64 0))], none⟩, ⟨none, .store 4 (.t 5) (.t 60), none⟩] []) (.seq (.region false [ ⟨(some 61), .faddr (.t 5) 0, none⟩, ⟨(some 62), .load none (.t 61), none⟩, ⟨(some 63), .bin .eql (.t 62) (.c (.d (.int .i64 (-1)))), none⟩, ⟨(some 64), .mv (.t 63), none⟩, ⟨(some 65), .faddr (.t 5) 1, (some (64, true))⟩, ⟨(some 66), .load none (.t 65), (some (64, true))⟩, ⟨(some 67), .bin .eql (.t 66) (.c (.d (.int .i64 0))), (some (64, true))⟩, ⟨(some 68), .pick (.t 64) (.t 67) (.c (.d (.bool false))), none⟩, ⟨(some 69), .mv (.t 68), none⟩, ⟨(some 70), .faddr (.t 5) 2, (some (69, true))⟩, ⟨(some 71), .load none (.t 70), (some (69, true))⟩, ⟨(some 72), .callf 82 [(.t 71)], (some (69, true))⟩, ⟨(some 73), .pick (.t 69) (.t 72) (.c (.d (.bool false))), none⟩, ⟨(some 6), .mv (.t 73), none⟩] []) (.seq (.region false [ ⟨(some 74), .faddr (.t 5) 0, none⟩, ⟨(some 75), .load none (.t 74), none⟩, ⟨(some 76), .bin .geq (.t 75) (.c (.d (.int .i64 0))), none⟩, ⟨(some 77), .mv (.t 76), none⟩, ⟨(some 78), .faddr (.t 5) 0, (some (77, true))⟩, ⟨(some 79), .load none (.t 78), (some (77, true))⟩, ⟨(some 80), .bin .leq (.t 79) (.c (.d (.int .i64 9))), (some (77, true))⟩, ⟨(some 81), .pick (.t 77) (.t 80) (.c (.d (.bool false))), none⟩, ⟨(some 82), .mv (.t 81), none⟩, ⟨(some 83), .faddr (.t 5) 1, (some (82, true))⟩, ⟨(some 84), .load none (.t 83), (some (82, true))⟩, ⟨(some 85), .bin .geq (.t 84) (.c (.d (.int .i64 0))), (some (82, true))⟩, ⟨(some 86), .pick (.t 82) (.t 85) (.c (.d (.bool false))), none⟩, ⟨(some 87), .mv (.t 86), none⟩, ⟨(some 88), .faddr (.t 5) 1, (some (87, true))⟩, ⟨(some 89), .load none (.t 88), (some (87, true))⟩, ⟨(some 90), .bin .leq (.t 89) (.c (.d (.int .i64 3))), (some (87, true))⟩, ⟨(some 91), .pick (.t 87) (.t 90) (.c (.d (.bool false))), none⟩, ⟨(some 92), .mv (.t 91), none⟩, ⟨(some 93), .faddr (.t 5) 2, (some (92, true))⟩, ⟨(some 94), .load none (.t 93), (some (92, true))⟩, ⟨(some 95), .bin .eql (.t 94) (.c (.d (.int .i64 0))), (some (92, true))⟩, ⟨(some 96), .pick (.t 92) (.t 95) (.c (.d (.bool false))), none⟩, ⟨(some 7), .mv (.t 96), none⟩] []) (.seq (.region false [ ⟨(some 97), .mv (.t 6), none⟩, ⟨(some 98), .un .not (.t 97), none⟩, ⟨(some 99), .mv (.t 98), none⟩, ⟨(some 100), .mv (.t 7), (some (99, true))⟩, ⟨(some 101), .un .not (.t 100), (some (99, true))⟩, ⟨(some 102), .pick (.t 99) (.t 101) (.c (.d (.bool false))), none⟩] []) (.cond (.t 102) (.seq (.region false [ ⟨(some 2), .mv (.c (.d (.bool false))), none⟩] []) .ret) .skip)))))) (.region false [ ⟨(some 51), .mv (.t 4), none⟩, ⟨(some 52), .bin .add (.t 51) (.c (.d (.int .i64 1))), none⟩, ⟨(some 4), .mv (.t 52), none⟩] [])))
def ac81L1 : ACode := (.seq (.seq (.region false [ ⟨(some 29), .mv (.t 3), none⟩, ⟨(some 30), .faddr (.t 1) 1, none⟩, ⟨(some 31), .load none (.t 30), none⟩, ⟨(some 32), .lenl (.t 31), none⟩, ⟨(some 33), .bin .lss (.t 29) (.t 32), none⟩] []) (.cond (.t 33) .skip (.exit 0))) (.seq (.block 1 (.seq (.seq (.region false [ ⟨(some 36), .faddr (.t 1) 1, none⟩, ⟨(some 37), .load none (.t 36), none⟩, ⟨(some 38), .mv (.t 3), none⟩, ⟨(some 39), .iaddr 1 none (.t 37) (.t 38), none⟩, ⟨(some 40), .load none (.t 39), none⟩, ⟨(some 41), .lenl (.t 40), none⟩, ⟨(some 42), .bin .eql (.t 41) (.c (.d (.int .i64 0))), none⟩] []) (.cond (.t 42) (.seq (.region false [ ⟨(some 2), .mv (.c (.d (.bool false))), none⟩] []) .ret) .skip)) (.seq (.region false [ ⟨(some 4), .mv (.c (.d (.int .i64 0))), none⟩] []) (.block 2 (.loop ac81L0))))) (.region false [ ⟨(some 34), .mv (.t 3), none⟩, ⟨(some 35), .bin .add (.t 34) (.c (.d (.int .i64 1))), none⟩, ⟨(some 3), .mv (.t 35), none⟩] [])))
def ac81 : ACode := (.seq (.region false [ ⟨(some 1), .box (.t 0), none⟩, ⟨(some 2), .mv (.c (.d (.bool false))), none⟩] []) (.seq (.seq (.region false [ ⟨(some 8), .faddr (.t 1) 0, none⟩, ⟨(some 9), .load none (.t 8), none⟩, ⟨(some 10), .bin .eql (.t 9) (.c (.d (.int .i64 0))), none⟩] []) (.cond (.t 10) (.seq (.region false [ ⟨(some 11), .faddr (.t 1) 1, none⟩, ⟨(some 12), .load none (.t 11), none⟩, ⟨(some 13), .lenl (.t 12), none⟩, ⟨(some 14), .bin .eql (.t 13) (.c (.d (.int .i64 0))), none⟩, ⟨(some 2), .mv (.t 14), none⟩] []) .ret) .skip)) (.seq (.seq (.region false [ ⟨(some 15), .faddr (.t 1) 0, none⟩, ⟨(some 16), .load none (.t 15), none⟩, ⟨(some 17), .bin .lss (.t 16) (.c (.d (.int .i64 0))), none⟩, ⟨(some 18), .mv (.t 17), none⟩, ⟨(some 19), .faddr (.t 1) 0, (some (18, false))⟩, ⟨(some 20), .load none (.t 19), (some (18, false))⟩, ⟨(some 21), .bin .gtr (.t 20) (.c (.d (.int .i64 2))), (some (18, false))⟩, ⟨(some 22), .pick (.t 18) (.c (.d (.bool true))) (.t 21), none⟩, ⟨(some 23), .mv (.t 22), none⟩, ⟨(some 24), .faddr (.t 1) 1, (some (23, false))⟩, ⟨(some 25), .load none (.t 24), (some (23, false))⟩, ⟨(some 26), .lenl (.t 25), (some (23, false))⟩, ⟨(some 27), .bin .eql (.t 26) (.c (.d (.int .i64 0))), (some (23, false))⟩, ⟨(some 28), .pick (.t 23) (.c (.d (.bool true))) (.t 27), none⟩] []) (.cond (.t 28) (.seq (.region false [ ⟨(some 2), .mv (.c (.d (.bool false))), none⟩] []) .ret) .skip)) (.seq (.seq (.region false [ ⟨(some 3), .mv (.c (.d (.int .i64 0))), none⟩] []) (.block 0 (.loop ac81L1))) (.seq (.region false [ ⟨(some 2), .mv (.c (.d (.bool true))), none⟩] []) .ret)))))
theorem ac81_ok : Tryd.f81.body.bind (cCode Tryd.prog Tryd.f81.ntmps) = some ac81 := by kernel_rfl
-- 82 jacquard/jacquardref2.named
def ac82 : ACode := (.seq (.region false [ ⟨(some 2), .mv (.c (.d (.bool false))), none⟩] []) (.seq (.region false [ ⟨(some 3), .mv (.t 0), none⟩, ⟨(some 4), .bin .geq (.t 3) (.c (.d (.int .i64 97))), none⟩, ⟨(some 5), .mv (.t 4), none⟩, ⟨(some 6), .mv (.t 0), (some (5, true))⟩, ⟨(some 7), .bin .leq (.t 6) (.c (.d (.int .i64 122))), (some (5, true))⟩, ⟨(some 8), .pick (.t 5) (.t 7) (.c (.d (.bool false))), none⟩, ⟨(some 2), .mv (.t 8), none⟩] []) .ret))
theorem ac82_ok : Tryd.f82.body.bind (cCode Tryd.prog Tryd.f82.ntmps) = some ac82 := by kernel_rfl
-- 84 jacquard/jacquardref2.operandText
def ac84 : ACode := (.seq (.region false [ ⟨(some 1), .box (.t 0), none⟩, ⟨(some 2), .mv (.c (.d (.str []))), none⟩] []) (.seq (.seq (.region false [ ⟨(some 3), .faddr (.t 1) 0, none⟩, ⟨(some 4), .load none (.t 3), none⟩, ⟨(some 5), .bin .lss (.t 4) (.c (.d (.int .i64 0))), none⟩] []) (.cond (.t 5) (.seq (.region false [ ⟨(some 6), .faddr (.t 1) 1, none⟩, ⟨(some 7), .load none (.t 6), none⟩, ⟨(some 8), .callf 19 [(.t 7)], none⟩, ⟨(some 2), .mv (.t 8), none⟩] []) .ret) .skip)) (.seq (.region false [ ⟨(some 9), .faddr (.t 1) 0, none⟩, ⟨(some 10), .load none (.t 9), none⟩, ⟨(some 11), .callf 85 [(.t 10)], none⟩, ⟨(some 2), .mv (.t 11), none⟩] []) .ret)))
theorem ac84_ok : Tryd.f84.body.bind (cCode Tryd.prog Tryd.f84.ntmps) = some ac84 := by kernel_rfl
-- 85 jacquard/jacquardref2.regText
def ac85 : ACode := (.seq (.region false [ ⟨(some 2), .mv (.c (.d (.str []))), none⟩] []) (.seq (.region false [ ⟨(some 3), .mv (.t 0), none⟩, ⟨(some 4), .callf 19 [(.t 3)], none⟩, ⟨(some 5), .bin .add (.c (.d (.str [114]))) (.t 4), none⟩, ⟨(some 2), .mv (.t 5), none⟩] []) .ret))
theorem ac85_ok : Tryd.f85.body.bind (cCode Tryd.prog Tryd.f85.ntmps) = some ac85 := by kernel_rfl
-- 86 jacquard/jacquardref2.Sign
def ac86 : ACode := (.seq (.region false [ ⟨(some 2), .mv (.c (.d (.str []))), none⟩] []) (.seq (.seq (.region false [ ⟨(some 3), .mv (.t 0), none⟩, ⟨(some 4), .bin .lss (.t 3) (.c (.d (.int .i64 1))), none⟩, ⟨(some 5), .mv (.t 4), none⟩, ⟨(some 6), .mv (.t 0), (some (5, false))⟩, ⟨(some 7), .bin .gtr (.t 6) (.c (.d (.int .i64 11))), (some (5, false))⟩, ⟨(some 8), .pick (.t 5) (.c (.d (.bool true))) (.t 7), none⟩] []) (.cond (.t 8) (.seq (.region false [ ⟨(some 2), .mv (.c (.d (.str []))), none⟩] []) .ret) .skip)) (.seq (.region false [ ⟨(some 9), .callf 95 [], none⟩, ⟨(some 10), .mv (.t 0), none⟩, ⟨(some 11), .bin .sub (.t 10) (.c (.d (.int .i64 1))), none⟩, ⟨(some 12), .iaddr 1 none (.t 9) (.t 11), none⟩, ⟨(some 13), .load none (.t 12), none⟩, ⟨(some 2), .mv (.t 13), none⟩] []) .ret)))
theorem ac86_ok : Tryd.f86.body.bind (cCode Tryd.prog Tryd.f86.ntmps) = some ac86 := by kernel_rfl
-- 91 (*jacquard/parse.parser).operand
def ac91 : ACode := (.seq (.region false [ ⟨(some 2), .alloc [(.d (.int .i64 0)), (.d (.int .i64 0))], none⟩] []) (.seq (.seq (.region false [ ⟨(some 3), .mv (.t 0), none⟩, ⟨(some 4), .callf 51 [(.t 3)], none⟩, ⟨(some 5), .mv (.t 4), none⟩, ⟨(some 6), .mv (.t 0), (some (5, true))⟩, ⟨(some 7), .nilck (.t 6), (some (5, true))⟩, ⟨(some 8), .faddr (.t 7) 1, (some (5, true))⟩, ⟨(some 9), .faddr (.t 8) 0, (some (5, true))⟩, ⟨(some 10), .load none (.t 9), (some (5, true))⟩, ⟨(some 11), .bin .eql (.t 10) (.c (.d (.int .i64 2))), (some (5, true))⟩, ⟨(some 12), .pick (.t 5) (.t 11) (.c (.d (.bool false))), none⟩] []) (.cond (.t 12) (.seq (.region false [ ⟨(some 13), .mv (.t 0), none⟩, ⟨(some 14), .callf 74 [(.t 13)], none⟩, ⟨(some 15), .build [(.d (.int .i64 0)), (.d (.int .i64 0))] [(0, 1, (.c (.d (.int .i64 (-1))))), (1, 1, (.t 14))], none⟩, ⟨none, .store 2 (.t 2) (.t 15), none⟩] []) .ret) .skip)) (.seq (.region false [ ⟨(some 16), .mv (.t 0), none⟩, ⟨(some 17), .callf 72 [(.t 16), (.c (.fn 92 []))], none⟩, ⟨(some 18), .build [(.d (.int .i64 0)), (.d (.int .i64 0))] [(0, 1, (.t 17))], none⟩, ⟨none, .store 2 (.t 2) (.t 18), none⟩] []) .ret)))
theorem ac91_ok : Tryd.f91.body.bind (cCode Tryd.prog Tryd.f91.ntmps) = some ac91 := by kernel_rfl
-- 92 jacquard/parse.isReg
def ac92 : ACode := (.seq (.region false [ ⟨(some 2), .mv (.c (.d (.int .i64 0))), none⟩, ⟨(some 3), .mv (.c (.d (.bool false))), none⟩] []) (.seq (.seq (.region false [ ⟨(some 4), .mv (.t 0), none⟩, ⟨(some 5), .lens (.t 4), none⟩, ⟨(some 6), .bin .neq (.t 5) (.c (.d (.int .i64 2))), none⟩, ⟨(some 7), .mv (.t 6), none⟩, ⟨(some 8), .mv (.t 0), (some (7, false))⟩, ⟨(some 9), .idxs (.t 8) (.c (.d (.int .i64 0))), (some (7, false))⟩, ⟨(some 10), .bin .neq (.t 9) (.c (.d (.int .u8 114))), (some (7, false))⟩, ⟨(some 11), .pick (.t 7) (.c (.d (.bool true))) (.t 10), none⟩, ⟨(some 12), .mv (.t 11), none⟩, ⟨(some 13), .mv (.t 0), (some (12, false))⟩, ⟨(some 14), .idxs (.t 13) (.c (.d (.int .i64 1))), (some (12, false))⟩, ⟨(some 15), .bin .lss (.t 14) (.c (.d (.int .u8 48))), (some (12, false))⟩, ⟨(some 16), .pick (.t 12) (.c (.d (.bool true))) (.t 15), none⟩, ⟨(some 17), .mv (.t 16), none⟩, ⟨(some 18), .mv (.t 0), (some (17, false))⟩, ⟨(some 19), .idxs (.t 18) (.c (.d (.int .i64 1))), (some (17, false))⟩, ⟨(some 20), .bin .gtr (.t 19) (.c (.d (.int .u8 51))), (some (17, false))⟩, ⟨(some 21), .pick (.t 17) (.c (.d (.bool true))) (.t 20), none⟩] []) (.cond (.t 21) (.seq (.region false [ ⟨(some 2), .mv (.c (.d (.int .i64 0))), none⟩, ⟨(some 3), .mv (.c (.d (.bool false))), none⟩] []) .ret) .skip)) (.seq (.region false [ ⟨(some 22), .mv (.t 0), none⟩, ⟨(some 23), .idxs (.t 22) (.c (.d (.int .i64 1))), none⟩, ⟨(some 24), .bin .and (.t 23) (.c (.d (.int .u8 3))), none⟩, ⟨(some 25), .cvi .i64 (.t 24), none⟩, ⟨(some 2), .mv (.t 25), none⟩, ⟨(some 3), .mv (.c (.d (.bool true))), none⟩] []) .ret)))
theorem ac92_ok : Tryd.f92.body.bind (cCode Tryd.prog Tryd.f92.ntmps) = some ac92 := by kernel_rfl
-- 93 (*jacquard/parse.parser).right
def ac93 : ACode := (.block 0 (.seq (.region false [ ⟨(some 51), .mv (.t 0), none⟩, ⟨(some 52), .callf 47 [(.t 51), (.c (.d (.str [108, 111, 97, 100])))], none⟩, ⟨(some 50), .mv (.t 52), none⟩] []) (.cond (.t 50) (.region false [ ⟨(some 53), .mv (.t 1), none⟩, ⟨(some 54), .mv (.t 1), none⟩, ⟨(some 55), .mv (.t 0), none⟩, ⟨(some 56), .callf 72 [(.t 55), (.c (.fn 73 []))], none⟩, ⟨(some 57), .nilck (.t 53), none⟩, ⟨(some 58), .faddr (.t 57) 0, none⟩, ⟨none, .store 1 (.t 58) (.c (.d (.int .i64 2))), none⟩, ⟨(some 59), .nilck (.t 54), none⟩, ⟨(some 60), .faddr (.t 59) 2, none⟩, ⟨none, .store 1 (.t 60) (.t 56), none⟩] []) (.seq (.region false [ ⟨(some 62), .mv (.t 0), none⟩, ⟨(some 63), .callf 47 [(.t 62), (.c (.d (.str [99, 97, 115])))], none⟩, ⟨(some 61), .mv (.t 63), none⟩] []) (.cond (.t 61) (.seq (.region false [ ⟨(some 64), .mv (.t 1), none⟩, ⟨(some 65), .mv (.t 1), none⟩, ⟨(some 66), .mv (.t 0), none⟩, ⟨(some 67), .callf 72 [(.t 66), (.c (.fn 73 []))], none⟩, ⟨(some 68), .nilck (.t 64), none⟩, ⟨(some 69), .faddr (.t 68) 0, none⟩, ⟨none, .store 1 (.t 69) (.c (.d (.int .i64 4))), none⟩, ⟨(some 70), .nilck (.t 65), none⟩, ⟨(some 71), .faddr (.t 70) 2, none⟩, ⟨none, .store 1 (.t 71) (.t 67), none⟩] []) (.seq (.region false [ ⟨(some 72), .mv (.t 1), none⟩, ⟨(some 73), .mv (.t 0), none⟩, ⟨(some 74), .callf 91 [(.t 73)], none⟩, ⟨(some 75), .nilck (.t 72), none⟩, ⟨(some 76), .faddr (.t 75) 3, none⟩, ⟨none, .store 2 (.t 76) (.t 74), none⟩] []) (.region false [ ⟨(some 77), .mv (.t 1), none⟩, ⟨(some 78), .mv (.t 0), none⟩, ⟨(some 79), .callf 91 [(.t 78)], none⟩, ⟨(some 80), .nilck (.t 77), none⟩, ⟨(some 81), .faddr (.t 80) 6, none⟩, ⟨none, .store 2 (.t 81) (.t 79), none⟩] []))) (.seq (.region false [ ⟨(some 6), .mv (.t 1), none⟩, ⟨(some 7), .mv (.t 1), none⟩, ⟨(some 8), .mv (.t 1), none⟩, ⟨(some 9), .mv (.t 0), none⟩, ⟨(some 10), .callf 91 [(.t 9)], none⟩, ⟨(some 11), .build [(.d (.int .i64 0)), (.d (.int .i64 0))] [(0, 1, (.c (.d (.int .i64 (-1)))))], none⟩, ⟨(some 12), .nilck (.t 6), none⟩, ⟨(some 13), .faddr (.t 12) 0, none⟩, ⟨none, .store 1 (.t 13) (.c (.d (.int .i64 5))), none⟩, ⟨(some 14), .nilck (.t 7), none⟩, ⟨(some 15), .faddr (.t 14) 3, none⟩, ⟨none, .store 2 (.t 15) (.t 10), none⟩, ⟨(some 16), .nilck (.t 8), none⟩, ⟨(some 17), .faddr (.t 16) 6, none⟩, ⟨none, .store 2 (.t 17) (.t 11), none⟩] []) (.seq (.seq (.region false [ ⟨(some 18), .mv (.t 0), none⟩, ⟨(some 19), .callf 51 [(.t 18)], none⟩, ⟨(some 20), .un .not (.t 19), none⟩, ⟨(some 21), .mv (.t 20), none⟩, ⟨(some 22), .mv (.t 0), (some (21, false))⟩, ⟨(some 23), .nilck (.t 22), (some (21, false))⟩, ⟨(some 24), .faddr (.t 23) 1, (some (21, false))⟩, ⟨(some 25), .faddr (.t 24) 0, (some (21, false))⟩, ⟨(some 26), .load none (.t 25), (some (21, false))⟩, ⟨(some 27), .bin .neq (.t 26) (.c (.d (.int .i64 3))), (some (21, false))⟩, ⟨(some 28), .pick (.t 21) (.c (.d (.bool true))) (.t 27), none⟩] []) (.cond (.t 28) .ret .skip)) (.seq (.region false [ ⟨(some 30), .mv (.t 0), none⟩, ⟨(some 31), .nilck (.t 30), none⟩, ⟨(some 32), .faddr (.t 31) 1, none⟩, ⟨(some 33), .faddr (.t 32) 1, none⟩, ⟨(some 34), .load none (.t 33), none⟩, ⟨(some 35), .callf 104 [(.t 34)], none⟩, ⟨(some 29), .mv (.t 35), none⟩, ⟨(some 36), .ext (.t 29) 0, none⟩, ⟨(some 37), .ext (.t 29) 1, none⟩, ⟨(some 4), .mv (.t 36), none⟩, ⟨(some 5), .mv (.t 37), none⟩] []) (.seq (.region false [ ⟨(some 38), .mv (.t 5), none⟩] []) (.cond (.t 38) (.seq (.region false [ ⟨(some 39), .mv (.t 0), none⟩, ⟨(some 40), .callf 44 [(.t 39)], none⟩] []) (.region false [ ⟨(some 41), .mv (.t 1), none⟩, ⟨(some 42), .mv (.t 1), none⟩, ⟨(some 43), .mv (.t 4), none⟩, ⟨(some 44), .mv (.t 0), none⟩, ⟨(some 45), .callf 91 [(.t 44)], none⟩, ⟨(some 46), .nilck (.t 41), none⟩, ⟨(some 47), .faddr (.t 46) 5, none⟩, ⟨none, .store 1 (.t 47) (.t 43), none⟩, ⟨(some 48), .nilck (.t 42), none⟩, ⟨(some 49), .faddr (.t 48) 6, none⟩, ⟨none, .store 2 (.t 49) (.t 45), none⟩] [])) .skip))))))))))
theorem ac93_ok : Tryd.f93.body.bind (cCode Tryd.prog Tryd.f93.ntmps) = some ac93 := by kernel_rfl
-- 94 jacquard/jacquardref2.reg
-- 95 jacquard/jacquardref2.signs
def ac95 : ACode := (.seq (.region false [ ⟨(some 0), .mv (.c (.d .nsl)), none⟩] []) (.seq (.region false [ ⟨(some 1), .bslice 1 11 [(.d (.str [])), (.d (.str [])), (.d (.str [])), (.d (.str [])), (.d (.str [])), (.d (.str [])), (.d (.str [])), (.d (.str [])), (.d (.str [])), (.d (.str [])), (.d (.str []))] [(0, 1, (.c (.d (.str [43])))), (1, 1, (.c (.d (.str [45])))), (2, 1, (.c (.d (.str [42])))), (3, 1, (.c (.d (.str [38])))), (4, 1, (.c (.d (.str [124])))), (5, 1, (.c (.d (.str [94])))), (6, 1, (.c (.d (.str [60, 60])))), (7, 1, (.c (.d (.str [62, 62])))), (8, 1, (.c (.d (.str [61, 61])))), (9, 1, (.c (.d (.str [33, 61])))), (10, 1, (.c (.d (.str [60]))))], none⟩, ⟨(some 0), .mv (.t 1), none⟩] []) .ret))
theorem ac95_ok : Tryd.f95.body.bind (cCode Tryd.prog Tryd.f95.ntmps) = some ac95 := by kernel_rfl
-- 96 jacquard/jacquardref2.operandOk
def ac96 : ACode := (.seq (.region false [ ⟨(some 1), .box (.t 0), none⟩, ⟨(some 2), .mv (.c (.d (.bool false))), none⟩] []) (.seq (.region false [ ⟨(some 3), .faddr (.t 1) 0, none⟩, ⟨(some 4), .load none (.t 3), none⟩, ⟨(some 5), .bin .eql (.t 4) (.c (.d (.int .i64 (-1)))), none⟩, ⟨(some 6), .mv (.t 5), none⟩, ⟨(some 7), .faddr (.t 1) 0, (some (6, false))⟩, ⟨(some 8), .load none (.t 7), (some (6, false))⟩, ⟨(some 9), .bin .geq (.t 8) (.c (.d (.int .i64 0))), (some (6, false))⟩, ⟨(some 10), .mv (.t 9), (some (6, false))⟩, ⟨(some 11), .faddr (.t 1) 0, (some (10, true))⟩, ⟨(some 12), .load none (.t 11), (some (10, true))⟩, ⟨(some 13), .bin .leq (.t 12) (.c (.d (.int .i64 3))), (some (10, true))⟩, ⟨(some 14), .pick (.t 10) (.t 13) (.c (.d (.bool false))), (some (6, false))⟩, ⟨(some 15), .mv (.t 14), (some (6, false))⟩, ⟨(some 16), .faddr (.t 1) 1, (some (15, true))⟩, ⟨(some 17), .load none (.t 16), (some (15, true))⟩, ⟨(some 18), .bin .eql (.t 17) (.c (.d (.int .i64 0))), (some (15, true))⟩, ⟨(some 19), .pick (.t 15) (.t 18) (.c (.d (.bool false))), (some (6, false))⟩, ⟨(some 20), .pick (.t 6) (.c (.d (.bool true))) (.t 19), none⟩, ⟨(some 2), .mv (.t 20), none⟩] []) .ret))
theorem ac96_ok : Tryd.f96.body.bind (cCode Tryd.prog Tryd.f96.ntmps) = some ac96 := by kernel_rfl
end Go.Proofs.YtpfbljkfbjjlkaaDoor

/- A test as plain data, and its cells. -/
namespace Go.Proofs.YtpfbljkfbjjlkaaDoor
open Go Go.Jq
structure Atom where
  thread : Int
  reg : Int
  loc : Int
  value : Int
def Atom.cells (a : Atom) : List DV := [.int .i64 a.thread, .int .i64 a.reg, .int .i64 a.loc, .int .i64 a.value]
structure Opnd where
  reg : Int
  value : Int
def Opnd.cells (o : Opnd) : List DV := [.int .i64 o.reg, .int .i64 o.value]
structure Ins where
  kind : Int
  reg : Int
  loc : Int
  a : Opnd
  op : Int
  b : Opnd
  n : Int
def Ins.cells (i : Ins) : List DV := [.int .i64 i.kind, .int .i64 i.reg, .int .i64 i.loc, .int .i64 i.a.reg, .int .i64 i.a.value, .int .i64 i.op, .int .i64 i.b.reg, .int .i64 i.b.value, .int .i64 i.n]
structure Init where
  loc : Int
  value : Int
def Init.cells (i : Init) : List DV := [.int .i64 i.loc, .int .i64 i.value]
structure Test where
  name : List UInt8
  inits : List Init
  threads : List (List Ins)
  kind : Int
  rows : List (List Atom)
def IsTest (t : Test) (cs : List DV) : Prop := ∃ I T A, cs = [.str t.name, I, T, .int .i64 t.kind, A] ∧ IsSl Init.cells t.inits I ∧ IsSl2 Ins.cells t.threads T ∧ IsSl2 Atom.cells t.rows A
theorem init_len (i : Init) : (Init.cells i).length = 2 := rfl
theorem ins_len (i : Ins) : (Ins.cells i).length = 9 := rfl
theorem atom_len (i : Atom) : (Atom.cells i).length = 4 := rfl
end Go.Proofs.YtpfbljkfbjjlkaaDoor
