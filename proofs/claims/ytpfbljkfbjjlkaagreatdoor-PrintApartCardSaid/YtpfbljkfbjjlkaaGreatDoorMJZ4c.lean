/- What the statement's proof leans on, part 3: the layer, the walks, the plain laws. -/
import Derived.Test.YtpfbljkfbjjlkaaGreatDoorProg
import Derived.Test.YtpfbljkfbjjlkaaGreatDoorMJZ4b
import Derived.KernelRfl
import Derived.Shelf.Strings.Builder1
import Derived.Shelf.Strings.Builder2
import Derived.Shelf.Strings.OnBuilder
import Derived.Shelf.Small.Strs
import Derived.Shelf.Strconv.Itoa0
import Derived.Shelf.Strconv.Itoa1
import Derived.Shelf.LaysM
import Derived.Shelf.Strconv.Itoa2
import Derived.Shelf.Strconv.Itoa3
import Derived.Shelf.Strconv.Itoa4
import Derived.Shelf.Strconv.ParseIntEmpty
import Derived.Shelf.Strconv.Clone
import Derived.Shelf.Strconv.SyntaxError
import Derived.Shelf.LaysC
import Derived.Shelf.Strconv.ToError
import Derived.Shelf.Strconv.Lower
import Derived.Shelf.Strconv.ParseUint10
import Derived.Shelf.Strconv.ParseUint10Empty
import Derived.Shelf.Strconv.ParseUint10Any
import Derived.Shelf.Strconv.ParseInt10
import Derived.Shelf.Strconv.RangeError
import Derived.Shelf.Strconv.ToErrorRange
import Derived.Shelf.Strconv.ParseUintEmpty
import Derived.Shelf.Strconv.ParseUint10b64
import Derived.Shelf.Strconv.ParseUint10b32
import Derived.Shelf.Strconv.ParseUint10b16
import Derived.Shelf.Strconv.ParseUint10b8
import Derived.Shelf.Strconv.ParseUint10At
import Derived.Shelf.Strconv.ParseInt10At64
import Derived.Shelf.Strconv.ParseInt10At32
import Derived.Shelf.Strconv.ParseInt10At16
import Derived.Shelf.Strconv.ParseInt10At8
import Derived.Shelf.Strconv.ParseInt10All
import Derived.Shelf.Strconv.ParseIntPublic10
import Derived.Shelf.Strconv.ErrVarParseInt
import Derived.Shelf.Strings.Search1
import Derived.OpenShut
import Derived.ChangeOld
import Derived.Below
import Derived.ProofKit
import Derived.ChangeShapes
import Derived.Test.YtpfbljkfbjjlkaaGreatDoorRows
import Derived.Test.YtpfbljkfbjjlkaaGreatDoorTie
import Derived.LaidMore
import Derived.Stop.Joined
import Derived.Carry
import Derived.Lib.LaidTab
import Derived.SevenTiedAt
import Derived.SizedLaws
import Derived.RegionTactic
import Derived.Deep.RegionWith
import Derived.Lib.Join
set_option linter.unusedSimpArgs false
set_option linter.unusedVariables false

/- The functions' code with its types resolved, as the layer's 'cCode' gives it. Written by a program of this session's (wip/x/dump.lean). -/
namespace Go.Proofs.YtpfbljkfbjjlkaaGreatDoor
open Go Go.Jq
set_option maxRecDepth 100000
-- 4 jacquard/jacquardlaw5.WellPrints
-- 5 jacquard/jacquardlaw4.PrintBack
-- 6 jacquard/jacquardlaw4.PrintApart
def ac6 : ACode := (.seq (.region false [ oM 3 (.box (.t 0)), oM 4 (.box (.t 1)), oM 6 (.mv (.c (.d (.bool false))))] []) (.seq (.seq (.region false [ oM 12 (.load (some 5) (.t 3)), oM 13 (.callf 16 [(.t 12)]), oM 14 (.un .not (.t 13)), oM 15 (.mv (.t 14)), oG 16 (.load (some 5) (.t 4)) 15 false, oG 17 (.callf 16 [(.t 16)]) 15 false, oG 18 (.un .not (.t 17)) 15 false, oM 19 (.pick (.t 15) (.c (.d (.bool true))) (.t 18))] []) (.cond (.t 19) (.seq (.region false [ oM 20 (.callf 17 []), oM 6 (.mv (.t 20))] []) .ret) .skip)) (.seq (.seq (.region true [ oM 21 (.load (some 5) (.t 3)), oM 22 (.callf 20 [(.t 21)]), oM 23 (.mv (.t 22)), oG 24 (.load (some 5) (.t 4)) 23 true, oG 25 (.callf 20 [(.t 24)]) 23 true, oM 26 (.pick (.t 23) (.t 25) (.c (.d (.bool false)))), oM 27 (.mv (.t 26)), oG 28 (.load (some 5) (.t 3)) 27 true, oG 29 (.callf 18 [(.t 28)]) 27 true, oG 30 (.load (some 5) (.t 4)) 27 true, oG 31 (.callf 18 [(.t 30)]) 27 true, oG 32 (.bin .eql (.t 29) (.t 31)) 27 true, oG 33 (.load (some 5) (.t 3)) 27 true, oG 34 (.load (some 5) (.t 4)) 27 true, oG 35 (.callf 19 [(.t 33), (.t 34)]) 27 true, oG 36 (.eqb true (.t 32) (.t 35)) 27 true, oM 37 (.pick (.t 27) (.t 36) (.c (.d (.bool false))))] [0, 1, 2, 4, 12, 20, 48, 64, 192, 64, 832, 1344, 64, 64, 13376, 18496, 32832]) (.cond (.t 37) (.seq (.region false [ oM 6 (.mv (.c (.d (.bool false))))] []) .ret) .skip)) (.seq (.region false [ oM 39 (.mv (.t 2)), oM 40 (.callf 9 [(.t 39)]), oM 38 (.mv (.t 40)), oM 41 (.ext (.t 38) 0), oM 42 (.ext (.t 38) 1), oM 7 (.alloc [.d (.str []), .d .nsl, .d .nsl, .d (.int .i64 0), .d .nsl]), oM 8 (.alloc [.d (.int .i64 0), .d (.int .i64 0)]), ⟨none, .store 5 (.t 7) (.t 41), none⟩, ⟨none, .store 2 (.t 8) (.t 42), none⟩] []) (.seq (.seq (.region false [ oM 43 (.faddr (.t 8) 0), oM 44 (.load none (.t 43)), oM 45 (.bin .neq (.t 44) (.c (.d (.int .i64 0))))] []) (.cond (.t 45) (.seq (.region false [ oM 46 (.callf 17 []), oM 6 (.mv (.t 46))] []) .ret) .skip)) (.seq (.region false [ oM 47 (.load (some 5) (.t 7)), oM 48 (.callf 18 [(.t 47)]), oM 9 (.mv (.t 48))] []) (.seq (.region false [ oM 50 (.mv (.t 9)), oM 51 (.callf 9 [(.t 50)]), oM 49 (.mv (.t 51)), oM 52 (.ext (.t 49) 0), oM 53 (.ext (.t 49) 1), oM 10 (.alloc [.d (.str []), .d .nsl, .d .nsl, .d (.int .i64 0), .d .nsl]), oM 11 (.alloc [.d (.int .i64 0), .d (.int .i64 0)]), ⟨none, .store 5 (.t 10) (.t 52), none⟩, ⟨none, .store 2 (.t 11) (.t 53), none⟩] []) (.seq (.region false [ oM 54 (.mv (.t 9)), oM 55 (.lens (.t 54)), oM 56 (.bin .gtr (.t 55) (.c (.d (.int .i64 4000)))), oM 57 (.mv (.t 56)), oG 58 (.load (some 2) (.t 11)) 57 false, oG 59 (.build [.d (.int .i64 0), .d (.int .i64 0)] []) 57 false, oG 60 (.eqs [0, 0] false (.t 58) (.t 59)) 57 false, oG 61 (.mv (.t 60)) 57 false, oG 62 (.load (some 5) (.t 7)) 61 true, oG 63 (.load (some 5) (.t 10)) 61 true, oG 64 (.callf 19 [(.t 62), (.t 63)]) 61 true, oG 65 (.pick (.t 61) (.t 64) (.c (.d (.bool false)))) 57 false, oM 66 (.pick (.t 57) (.c (.d (.bool true))) (.t 65)), oM 67 (.mv (.t 66)), oG 68 (.mv (.t 9)) 67 true, oG 69 (.bin .neq (.t 68) (.c (.d (.str [])))) 67 true, oM 70 (.pick (.t 67) (.t 69) (.c (.d (.bool false)))), oM 71 (.mv (.t 70)), oG 72 (.callf 17 []) 71 true, oM 73 (.pick (.t 71) (.t 72) (.c (.d (.bool false)))), oM 6 (.mv (.t 73))] []) .ret))))))))
theorem ac6_ok : Tryz.f6.body.bind (cCode Tryz.prog Tryz.f6.ntmps) = some ac6 := by kernel_rfl
-- 13 jacquard/well.Read
-- 14 jacquard/well.Check
-- 15 jacquard/jacquardlaw5.awake
-- 16 jacquard/jacquardlaw4.Few
def ac16L0 : ACode := (.seq (.seq (.region false [ oM 28 (.mv (.t 3)), oM 29 (.faddr (.t 1) 2), oM 30 (.load none (.t 29)), oM 31 (.lenl (.t 30)), oM 32 (.bin .lss (.t 28) (.t 31))] []) (.cond (.t 32) .skip (.exit 0))) (.seq (.block 1 (.seq (.region false [ oM 35 (.faddr (.t 1) 2), oM 36 (.load none (.t 35)), oM 37 (.mv (.t 3)), oM 38 (.iaddr 1 none (.t 36) (.t 37)), oM 39 (.load none (.t 38)), oM 40 (.lenl (.t 39)), oM 41 (.bin .gtr (.t 40) (.c (.d (.int .i64 30))))] []) (.cond (.t 41) (.seq (.region false [ oM 2 (.mv (.c (.d (.bool false))))] []) .ret) .skip))) (.region false [ oM 33 (.mv (.t 3)), oM 34 (.bin .add (.t 33) (.c (.d (.int .i64 1)))), oM 3 (.mv (.t 34))] [])))
def ac16L1 : ACode := (.seq (.seq (.region false [ oM 42 (.mv (.t 4)), oM 43 (.faddr (.t 1) 3), oM 44 (.faddr (.t 43) 1), oM 45 (.load none (.t 44)), oM 46 (.lenl (.t 45)), oM 47 (.bin .lss (.t 42) (.t 46))] []) (.cond (.t 47) .skip (.exit 2))) (.seq (.block 3 (.seq (.region false [ oM 50 (.faddr (.t 1) 3), oM 51 (.faddr (.t 50) 1), oM 52 (.load none (.t 51)), oM 53 (.mv (.t 4)), oM 54 (.iaddr 1 none (.t 52) (.t 53)), oM 55 (.load none (.t 54)), oM 56 (.lenl (.t 55)), oM 57 (.bin .gtr (.t 56) (.c (.d (.int .i64 12))))] []) (.cond (.t 57) (.seq (.region false [ oM 2 (.mv (.c (.d (.bool false))))] []) .ret) .skip))) (.region false [ oM 48 (.mv (.t 4)), oM 49 (.bin .add (.t 48) (.c (.d (.int .i64 1)))), oM 4 (.mv (.t 49))] [])))
def ac16 : ACode := (.seq (.region false [ oM 1 (.box (.t 0)), oM 2 (.mv (.c (.d (.bool false))))] []) (.seq (.seq (.region false [ oM 5 (.faddr (.t 1) 2), oM 6 (.load none (.t 5)), oM 7 (.lenl (.t 6)), oM 8 (.bin .gtr (.t 7) (.c (.d (.int .i64 6)))), oM 9 (.mv (.t 8)), oG 10 (.faddr (.t 1) 1) 9 false, oG 11 (.load none (.t 10)) 9 false, oG 12 (.lenl (.t 11)) 9 false, oG 13 (.bin .gtr (.t 12) (.c (.d (.int .i64 40)))) 9 false, oM 14 (.pick (.t 9) (.c (.d (.bool true))) (.t 13)), oM 15 (.mv (.t 14)), oG 16 (.faddr (.t 1) 0) 15 false, oG 17 (.load none (.t 16)) 15 false, oG 18 (.lens (.t 17)) 15 false, oG 19 (.bin .gtr (.t 18) (.c (.d (.int .i64 60)))) 15 false, oM 20 (.pick (.t 15) (.c (.d (.bool true))) (.t 19)), oM 21 (.mv (.t 20)), oG 22 (.faddr (.t 1) 3) 21 false, oG 23 (.faddr (.t 22) 1) 21 false, oG 24 (.load none (.t 23)) 21 false, oG 25 (.lenl (.t 24)) 21 false, oG 26 (.bin .gtr (.t 25) (.c (.d (.int .i64 12)))) 21 false, oM 27 (.pick (.t 21) (.c (.d (.bool true))) (.t 26))] []) (.cond (.t 27) (.seq (.region false [ oM 2 (.mv (.c (.d (.bool false))))] []) .ret) .skip)) (.seq (.seq (.region false [ oM 3 (.mv (.c (.d (.int .i64 0))))] []) (.block 0 (.loop ac16L0))) (.seq (.seq (.region false [ oM 4 (.mv (.c (.d (.int .i64 0))))] []) (.block 2 (.loop ac16L1))) (.seq (.region false [ oM 2 (.mv (.c (.d (.bool true))))] []) .ret)))))
theorem ac16_ok : Tryz.f16.body.bind (cCode Tryz.prog Tryz.f16.ntmps) = some ac16 := by kernel_rfl
-- 17 jacquard/jacquardlaw4.awake
def ac17 : ACode := (.seq (.region false [ oM 0 (.mv (.c (.d (.bool false))))] []) (.seq (.region false [ oM 1 (.build [.d (.int .i64 0), .d (.int .i64 0), .d (.int .i64 0), .d (.int .i64 0), .d (.int .i64 0), .d (.int .i64 0), .d (.int .i64 0), .d (.int .i64 0), .d (.int .i64 0)] [(0, 1, (.c (.d (.int .i64 2)))), (1, 1, (.c (.d (.int .i64 1)))), (2, 1, (.c (.d (.int .i64 120))))]), oM 2 (.callf 57 [(.t 1)]), oM 3 (.bin .eql (.t 2) (.c (.d (.str [114, 49, 32, 61, 32, 108, 111, 97, 100, 32, 120, 32, 59])))), oM 4 (.mv (.t 3)), oG 5 (.build [.d (.int .i64 0), .d (.int .i64 0), .d (.int .i64 0), .d (.int .i64 0), .d (.int .i64 0), .d (.int .i64 0), .d (.int .i64 0), .d (.int .i64 0), .d (.int .i64 0)] []) 4 true, oG 6 (.callf 57 [(.t 5)]) 4 true, oG 7 (.bin .eql (.t 6) (.c (.d (.str [])))) 4 true, oM 8 (.pick (.t 4) (.t 7) (.c (.d (.bool false)))), oM 9 (.mv (.t 8)), oG 10 (.build [.d (.str []), .d .nsl, .d .nsl, .d (.int .i64 0), .d .nsl] [(0, 1, (.c (.d (.str [97]))))]) 9 true, oG 11 (.callf 20 [(.t 10)]) 9 true, oM 12 (.pick (.t 9) (.t 11) (.c (.d (.bool false)))), oM 13 (.mv (.t 12)), oG 14 (.build [.d (.str []), .d .nsl, .d .nsl, .d (.int .i64 0), .d .nsl] []) 13 true, oG 15 (.callf 20 [(.t 14)]) 13 true, oG 16 (.un .not (.t 15)) 13 true, oM 17 (.pick (.t 13) (.t 16) (.c (.d (.bool false)))), oM 0 (.mv (.t 17))] []) .ret))
theorem ac17_ok : Tryz.f17.body.bind (cCode Tryz.prog Tryz.f17.ntmps) = some ac17 := by kernel_rfl
-- 18 jacquard/print.Test
def ac18L0 : ACode := (.seq (.region false [ oM 32 (.bin .lss (.t 31) (.t 30))] []) (.seq (.cond (.t 32) .skip (.exit 0)) (.seq (.block 1 (.seq (.region false [ oM 33 (.iaddr 2 none (.t 29) (.t 31)), oM 34 (.load (some 2) (.t 33)), oM 6 (.alloc [.d (.int .i64 0), .d (.int .i64 0)]), ⟨none, .store 2 (.t 6) (.t 34), none⟩] []) (.region true [ oM 35 (.mv (.t 4)), oM 36 (.faddr (.t 6) 0), oM 37 (.load none (.t 36)), oM 38 (.callf 60 [(.t 37)]), oM 39 (.bin .add (.t 38) (.c (.d (.str [32, 61, 32])))), oM 40 (.faddr (.t 6) 1), oM 41 (.load none (.t 40)), oM 42 (.callf 61 [(.t 41)]), oM 43 (.bin .add (.t 39) (.t 42)), oM 44 (.bin .add (.t 43) (.c (.d (.str [32, 59])))), oM 45 (.callv (.t 35) [(.t 44)])] [0, 0, 2, 4, 8, 0, 32, 72, 144, 256, 641]))) (.region false [ oM 46 (.bin .add (.t 31) (.c (.d (.int .i64 1)))), oM 31 (.mv (.t 46))] []))))
def ac18L1 : ACode := (.seq (.region false [ oM 61 (.bin .lss (.t 60) (.t 59))] []) (.seq (.cond (.t 61) .skip (.exit 4)) (.seq (.block 5 (.seq (.region false [ oM 62 (.iaddr 9 none (.t 58) (.t 60)), oM 63 (.load (some 9) (.t 62)), oM 10 (.alloc [.d (.int .i64 0), .d (.int .i64 0), .d (.int .i64 0), .d (.int .i64 0), .d (.int .i64 0), .d (.int .i64 0), .d (.int .i64 0), .d (.int .i64 0), .d (.int .i64 0)]), ⟨none, .store 9 (.t 10) (.t 63), none⟩] []) (.region false [ oM 64 (.mv (.t 4)), oM 65 (.load (some 9) (.t 10)), oM 66 (.callf 57 [(.t 65)]), oM 67 (.callv (.t 64) [(.t 66)])] []))) (.region false [ oM 68 (.bin .add (.t 60) (.c (.d (.int .i64 1)))), oM 60 (.mv (.t 68))] []))))
def ac18L2 : ACode := (.seq (.region false [ oM 53 (.bin .lss (.t 52) (.t 51))] []) (.seq (.cond (.t 53) .skip (.exit 2)) (.seq (.block 3 (.seq (.region false [ oM 54 (.iaddr 1 none (.t 50) (.t 52)), oM 55 (.load none (.t 54)), oM 8 (.mv (.t 55))] []) (.seq (.region false [ oM 56 (.mv (.t 4)), oM 57 (.callv (.t 56) [(.c (.d (.str [116, 104, 114, 101, 97, 100, 32, 123])))])] []) (.seq (.seq (.region false [ oM 58 (.mv (.t 8)), oM 59 (.lenl (.t 58)), oM 60 (.mv (.c (.d (.int .i64 0))))] []) (.block 4 (.loop ac18L1))) (.region false [ oM 69 (.mv (.t 4)), oM 70 (.callv (.t 69) [(.c (.d (.str [125])))])] []))))) (.region false [ oM 71 (.bin .add (.t 52) (.c (.d (.int .i64 1)))), oM 52 (.mv (.t 71))] []))))
def ac18 : ACode := (.seq (.region false [ oM 1 (.box (.t 0)), oM 2 (.mv (.c (.d (.str []))))] []) (.seq (.seq (.region false [ oM 12 (.load (some 5) (.t 1)), oM 13 (.callf 20 [(.t 12)]), oM 14 (.un .not (.t 13))] []) (.cond (.t 14) (.seq (.region false [ oM 2 (.mv (.c (.d (.str []))))] []) .ret) .skip)) (.seq (.region false [ oM 3 (.alloc [(.npt 0 93), .d .nsl])] []) (.seq (.region false [ oM 15 (.mkfn 58 [(.t 3)]), oM 4 (.mv (.t 15))] []) (.seq (.region false [ oM 16 (.mv (.t 4)), oM 17 (.faddr (.t 1) 0), oM 18 (.load none (.t 17)), oM 19 (.bin .add (.c (.d (.str [116, 101, 115, 116, 32]))) (.t 18)), oM 20 (.bin .add (.t 19) (.c (.d (.str [32, 123])))), oM 21 (.callv (.t 16) [(.t 20)])] []) (.seq (.seq (.region false [ oM 22 (.faddr (.t 1) 1), oM 23 (.load none (.t 22)), oM 24 (.lenl (.t 23)), oM 25 (.bin .gtr (.t 24) (.c (.d (.int .i64 0))))] []) (.cond (.t 25) (.seq (.region false [ oM 26 (.mv (.t 4)), oM 27 (.callv (.t 26) [(.c (.d (.str [105, 110, 105, 116, 32, 123])))])] []) (.seq (.seq (.region false [ oM 28 (.faddr (.t 1) 1), oM 29 (.load none (.t 28)), oM 30 (.lenl (.t 29)), oM 31 (.mv (.c (.d (.int .i64 0))))] []) (.block 0 (.loop ac18L0))) (.region false [ oM 47 (.mv (.t 4)), oM 48 (.callv (.t 47) [(.c (.d (.str [125])))])] []))) .skip)) (.seq (.seq (.region false [ oM 49 (.faddr (.t 1) 2), oM 50 (.load none (.t 49)), oM 51 (.lenl (.t 50)), oM 52 (.mv (.c (.d (.int .i64 0))))] []) (.block 2 (.loop ac18L2))) (.seq (.seq (.region false [ oM 72 (.faddr (.t 1) 3), oM 73 (.load (some 2) (.t 72)), oM 74 (.callf 62 [(.t 73)]), oM 11 (.mv (.t 74))] []) (.seq (.region false [ oM 75 (.mv (.t 11)), oM 76 (.bin .neq (.t 75) (.c (.d (.str []))))] []) (.cond (.t 76) (.region false [ oM 77 (.mv (.t 4)), oM 78 (.mv (.t 11)), oM 79 (.callv (.t 77) [(.t 78)])] []) .skip))) (.seq (.region false [ oM 80 (.mv (.t 4)), oM 81 (.callv (.t 80) [(.c (.d (.str [125])))])] []) (.seq (.region false [ oM 82 (.callf 63 [(.t 3)]), oM 2 (.mv (.t 82))] []) .ret))))))))))
theorem ac18_ok : Tryz.f18.body.bind (cCode Tryz.prog Tryz.f18.ntmps) = some ac18 := by kernel_rfl
-- 20 jacquard/print.Ok
def ac20 : ACode := (.seq (.region false [ oM 1 (.box (.t 0)), oM 2 (.mv (.c (.d (.bool false))))] []) (.seq (.region false [ oM 3 (.mv (.c (.fn 69 [])))] []) (.seq (.region false [ oM 4 (.faddr (.t 1) 0), oM 5 (.load none (.t 4)), oM 6 (.callf 73 [(.t 5)]), oM 7 (.mv (.t 6)), oG 8 (.faddr (.t 1) 1) 7 true, oG 9 (.load none (.t 8)) 7 true, oG 10 (.callf 74 [(.t 9), (.c (.fn 75 []))]) 7 true, oG 11 (.un .not (.t 10)) 7 true, oM 12 (.pick (.t 7) (.t 11) (.c (.d (.bool false)))), oM 13 (.mv (.t 12)), oG 14 (.faddr (.t 1) 2) 13 true, oG 15 (.load none (.t 14)) 13 true, oG 16 (.mv (.t 3)) 13 true, oG 17 (.callf 51 [(.t 15), (.t 16)]) 13 true, oG 18 (.un .not (.t 17)) 13 true, oM 19 (.pick (.t 13) (.t 18) (.c (.d (.bool false)))), oM 20 (.mv (.t 19)), oG 21 (.faddr (.t 1) 3) 20 true, oG 22 (.load (some 2) (.t 21)) 20 true, oG 23 (.callf 77 [(.t 22)]) 20 true, oM 24 (.pick (.t 20) (.t 23) (.c (.d (.bool false)))), oM 2 (.mv (.t 24))] []) .ret)))
theorem ac20_ok : Tryz.f20.body.bind (cCode Tryz.prog Tryz.f20.ntmps) = some ac20 := by kernel_rfl
-- 23 jacquard/jacquardref2.Text
-- 27 jacquard/lex.Long
def ac27 : ACode := (.seq (.region false [ oM 2 (.alloc [.d (.int .i64 0), .d (.int .i64 0)])] []) (.seq (.seq (.region false [ oM 3 (.mv (.t 0)), oM 4 (.lens (.t 3)), oM 5 (.bin .gtr (.t 4) (.c (.d (.int .i64 4000))))] []) (.cond (.t 5) (.seq (.region false [ oM 6 (.build [.d (.int .i64 0), .d (.int .i64 0)] [(0, 1, (.c (.d (.int .i64 2)))), (1, 1, (.c (.d (.int .i64 4000))))]), ⟨none, .store 2 (.t 2) (.t 6), none⟩] []) .ret) .skip)) (.seq (.region false [ oM 7 (.build [.d (.int .i64 0), .d (.int .i64 0)] []), ⟨none, .store 2 (.t 2) (.t 7), none⟩] []) .ret)))
theorem ac27_ok : Tryz.f27.body.bind (cCode Tryz.prog Tryz.f27.ntmps) = some ac27 := by kernel_rfl
-- 28 jacquard/lex.New
def ac28 : ACode := (.seq (.region false [ oM 2 (.mv (.c (.d .nptr)))] []) (.seq (.region false [ oM 3 (.mv (.t 0)), oM 4 (.build [.d (.str []), .d (.int .i64 0), .d (.int .i64 0), .d (.int .i64 0), .d (.int .i64 0)] [(0, 1, (.t 3))]), oM 5 (.box (.t 4)), oM 2 (.mv (.t 5))] []) .ret))
theorem ac28_ok : Tryz.f28.body.bind (cCode Tryz.prog Tryz.f28.ntmps) = some ac28 := by kernel_rfl
-- 49 jacquard/well.big
-- 50 jacquard/well.twice
-- 51 slices.ContainsFunc[[][]jacquard/api.Ins,[]jacquard/api.Ins]
def ac51 : ACode := (.seq (.region false [ oM 4 (.mv (.c (.d (.bool false))))] []) (.seq (.region false [ oM 5 (.mv (.t 0)), oM 6 (.mv (.t 1)), oM 7 (.callf 99 [(.t 5), (.t 6)]), oM 8 (.bin .geq (.t 7) (.c (.d (.int .i64 0)))), oM 4 (.mv (.t 8))] []) .ret))
theorem ac51_ok : Tryz.f51.body.bind (cCode Tryz.prog Tryz.f51.ntmps) = some ac51 := by kernel_rfl
-- 52 jacquard/well.Check$1
-- 53 jacquard/well.Jumps
-- 54 slices.ContainsFunc[[]jacquard/api.Atom,jacquard/api.Atom]
def ac54 : ACode := (.seq (.region false [ oM 4 (.mv (.c (.d (.bool false))))] []) (.seq (.region false [ oM 5 (.mv (.t 0)), oM 6 (.mv (.t 1)), oM 7 (.callf 100 [(.t 5), (.t 6)]), oM 8 (.bin .geq (.t 7) (.c (.d (.int .i64 0)))), oM 4 (.mv (.t 8))] []) .ret))
theorem ac54_ok : Tryz.f54.body.bind (cCode Tryz.prog Tryz.f54.ntmps) = some ac54 := by kernel_rfl
-- 55 jacquard/well.Check$2
-- 56 jacquard/well.Locs
-- 57 jacquard/print.Ins
def ac57 : ACode := (.seq (.region false [ oM 1 (.box (.t 0)), oM 2 (.mv (.c (.d (.str []))))] []) (.seq (.seq (.region false [ oM 4 (.load (some 9) (.t 1)), oM 5 (.callf 72 [(.t 4)]), oM 6 (.un .not (.t 5))] []) (.cond (.t 6) (.seq (.region false [ oM 2 (.mv (.c (.d (.str []))))] []) .ret) .skip)) (.seq (.region false [ oM 3 (.mv (.c (.d .nsl)))] []) (.seq (.seq (.region false [ oM 7 (.faddr (.t 1) 0), oM 8 (.load none (.t 7))] []) (.block 0 (.seq (.region false [ oM 10 (.bin .eql (.t 8) (.c (.d (.int .i64 1)))), oM 9 (.mv (.t 10))] []) (.cond (.t 9) (.region true [ oM 11 (.faddr (.t 1) 2), oM 12 (.load none (.t 11)), oM 13 (.callf 60 [(.t 12)]), oM 14 (.faddr (.t 1) 3), oM 15 (.load (some 2) (.t 14)), oM 16 (.callf 102 [(.t 15)]), oM 17 (.bslice 1 3 [.d (.str []), .d (.str []), .d (.str [])] [(0, 1, (.c (.d (.str [115, 116, 111, 114, 101])))), (1, 1, (.t 13)), (2, 1, (.t 16))]), oM 3 (.mv (.t 17))] [0, 1, 2, 0, 8, 20, 36, 127]) (.seq (.region false [ oM 19 (.bin .eql (.t 8) (.c (.d (.int .i64 2)))), oM 18 (.mv (.t 19))] []) (.cond (.t 18) (.region true [ oM 20 (.faddr (.t 1) 1), oM 21 (.load none (.t 20)), oM 22 (.callf 103 [(.t 21)]), oM 23 (.faddr (.t 1) 2), oM 24 (.load none (.t 23)), oM 25 (.callf 60 [(.t 24)]), oM 26 (.bslice 1 4 [.d (.str []), .d (.str []), .d (.str []), .d (.str [])] [(0, 1, (.t 22)), (1, 1, (.c (.d (.str [61])))), (2, 1, (.c (.d (.str [108, 111, 97, 100])))), (3, 1, (.t 25))]), oM 3 (.mv (.t 26))] [0, 1, 2, 0, 8, 20, 36, 127]) (.seq (.region false [ oM 28 (.bin .eql (.t 8) (.c (.d (.int .i64 3)))), oM 27 (.mv (.t 28))] []) (.cond (.t 27) (.region false [ oM 29 (.bslice 1 1 [.d (.str [])] [(0, 1, (.c (.d (.str [102, 101, 110, 99, 101]))))]), oM 3 (.mv (.t 29))] []) (.seq (.region false [ oM 31 (.bin .eql (.t 8) (.c (.d (.int .i64 4)))), oM 30 (.mv (.t 31))] []) (.cond (.t 30) (.region true [ oM 32 (.faddr (.t 1) 1), oM 33 (.load none (.t 32)), oM 34 (.callf 103 [(.t 33)]), oM 35 (.faddr (.t 1) 2), oM 36 (.load none (.t 35)), oM 37 (.callf 60 [(.t 36)]), oM 38 (.faddr (.t 1) 3), oM 39 (.load (some 2) (.t 38)), oM 40 (.callf 102 [(.t 39)]), oM 41 (.faddr (.t 1) 6), oM 42 (.load (some 2) (.t 41)), oM 43 (.callf 102 [(.t 42)]), oM 44 (.bslice 1 6 [.d (.str []), .d (.str []), .d (.str []), .d (.str []), .d (.str []), .d (.str [])] [(0, 1, (.t 34)), (1, 1, (.c (.d (.str [61])))), (2, 1, (.c (.d (.str [99, 97, 115])))), (3, 1, (.t 37)), (4, 1, (.t 40)), (5, 1, (.t 43))]), oM 3 (.mv (.t 44))] [0, 1, 2, 0, 8, 20, 0, 64, 160, 0, 512, 1280, 2340, 8191]) (.seq (.region false [ oM 46 (.bin .eql (.t 8) (.c (.d (.int .i64 5)))), oM 45 (.mv (.t 46))] []) (.cond (.t 45) (.seq (.region true [ oM 47 (.faddr (.t 1) 1), oM 48 (.load none (.t 47)), oM 49 (.callf 103 [(.t 48)]), oM 50 (.faddr (.t 1) 3), oM 51 (.load (some 2) (.t 50)), oM 52 (.callf 102 [(.t 51)]), oM 53 (.bslice 1 3 [.d (.str []), .d (.str []), .d (.str [])] [(0, 1, (.t 49)), (1, 1, (.c (.d (.str [61])))), (2, 1, (.t 52))]), oM 3 (.mv (.t 53))] [0, 1, 2, 0, 8, 20, 36, 127]) (.seq (.region false [ oM 54 (.faddr (.t 1) 5), oM 55 (.load none (.t 54)), oM 56 (.bin .gtr (.t 55) (.c (.d (.int .i64 0))))] []) (.cond (.t 56) (.region true [ oM 57 (.mv (.t 3)), oM 58 (.faddr (.t 1) 5), oM 59 (.load none (.t 58)), oM 60 (.callf 104 [(.t 59)]), oM 61 (.faddr (.t 1) 6), oM 62 (.load (some 2) (.t 61)), oM 63 (.callf 102 [(.t 62)]), oM 64 (.bslice 1 2 [.d (.str []), .d (.str [])] [(0, 1, (.t 60)), (1, 1, (.t 63))]), oM 65 (.app 1 16 9 (.t 57) (.t 64)), oM 3 (.mv (.t 65))] [0, 0, 2, 4, 0, 16, 40, 72, 193, 511]) .skip))) (.seq (.region false [ oM 67 (.bin .eql (.t 8) (.c (.d (.int .i64 6)))), oM 66 (.mv (.t 67))] []) (.cond (.t 66) (.region true [ oM 68 (.faddr (.t 1) 8), oM 69 (.load none (.t 68)), oM 70 (.callf 61 [(.t 69)]), oM 71 (.faddr (.t 1) 3), oM 72 (.load (some 2) (.t 71)), oM 73 (.callf 102 [(.t 72)]), oM 74 (.faddr (.t 1) 6), oM 75 (.load (some 2) (.t 74)), oM 76 (.callf 102 [(.t 75)]), oM 77 (.bslice 1 6 [.d (.str []), .d (.str []), .d (.str []), .d (.str []), .d (.str []), .d (.str [])] [(0, 1, (.c (.d (.str [115, 107, 105, 112])))), (1, 1, (.t 70)), (2, 1, (.c (.d (.str [105, 102])))), (3, 1, (.t 73)), (4, 1, (.c (.d (.str [61, 61])))), (5, 1, (.t 76))]), oM 3 (.mv (.t 77))] [0, 1, 2, 0, 8, 20, 0, 64, 160, 292, 1023]) .skip)))))))))))))) (.seq (.region false [ oM 78 (.mv (.t 3)), oM 79 (.bslice 1 1 [.d (.str [])] [(0, 1, (.c (.d (.str [59]))))]), oM 80 (.app 1 16 9 (.t 78) (.t 79)), oM 81 (.callf 105 [(.t 80), (.c (.d (.str [32])))]), oM 2 (.mv (.t 81))] []) .ret)))))
theorem ac57_ok : Tryz.f57.body.bind (cCode Tryz.prog Tryz.f57.ntmps) = some ac57 := by kernel_rfl
-- 58 jacquard/print.Test$1
def ac58 : ACode := (.region false [ oM 3 (.mv (.t 0)), oM 4 (.bin .add (.t 3) (.c (.d (.str [10])))), oM 5 (.callf 59 [(.t 1), (.t 4)])] [])
theorem ac58_ok : Tryz.f58.body.bind (cCode Tryz.prog Tryz.f58.ntmps) = some ac58 := by kernel_rfl
-- 59 (*strings.Builder).WriteString
def ac59 : ACode := (.seq (.region false [ oM 4 (.mv (.c (.d (.int .i64 0)))), oM 5 (.mv (.c (.d .nif)))] []) (.seq (.region false [ oM 6 (.mv (.t 0)), oM 7 (.callf 106 [(.t 6)])] []) (.seq (.region false [ oM 8 (.mv (.t 0)), oM 9 (.mv (.t 0)), oM 10 (.nilck (.t 9)), oM 11 (.faddr (.t 10) 1), oM 12 (.load none (.t 11)), oM 13 (.mv (.t 1)), oM 14 (.app 1 1 5 (.t 12) (.t 13)), oM 15 (.nilck (.t 8)), oM 16 (.faddr (.t 15) 1), ⟨none, .store 1 (.t 16) (.t 14), none⟩] []) (.seq (.region false [ oM 17 (.mv (.t 1)), oM 18 (.lens (.t 17)), oM 4 (.mv (.t 18)), oM 5 (.mv (.c (.d .nif)))] []) .ret))))
theorem ac59_ok : Tryz.f59.body.bind (cCode Tryz.prog Tryz.f59.ntmps) = some ac59 := by kernel_rfl
-- 60 jacquard/print.loc
def ac60 : ACode := (.seq (.region false [ oM 2 (.mv (.c (.d (.str []))))] []) (.seq (.region false [ oM 3 (.mv (.t 0)), oM 4 (.cvi .i32 (.t 3)), oM 5 (.cvrune (.t 4)), oM 2 (.mv (.t 5))] []) .ret))
theorem ac60_ok : Tryz.f60.body.bind (cCode Tryz.prog Tryz.f60.ntmps) = some ac60 := by kernel_rfl
-- 61 jacquard/num.Text
def ac61 : ACode := (.seq (.region false [ oM 2 (.mv (.c (.d (.str []))))] []) (.seq (.region false [ oM 3 (.mv (.t 0)), oM 4 (.callf 107 [(.t 3), (.c (.d (.int .i64 10)))]), oM 2 (.mv (.t 4))] []) .ret))
theorem ac61_ok : Tryz.f61.body.bind (cCode Tryz.prog Tryz.f61.ntmps) = some ac61 := by kernel_rfl
-- 62 jacquard/print.Cond
def ac62L0 : ACode := (.seq (.region false [ oM 29 (.bin .lss (.t 28) (.t 27))] []) (.seq (.cond (.t 29) .skip (.exit 2)) (.seq (.block 3 (.seq (.region false [ oM 30 (.iaddr 4 none (.t 26) (.t 28)), oM 31 (.load (some 4) (.t 30)), oM 8 (.alloc [.d (.int .i64 0), .d (.int .i64 0), .d (.int .i64 0), .d (.int .i64 0)]), ⟨none, .store 4 (.t 8) (.t 31), none⟩] []) (.seq (.region false [ oM 32 (.faddr (.t 8) 2), oM 33 (.load none (.t 32)), oM 34 (.callf 60 [(.t 33)]), oM 9 (.mv (.t 34))] []) (.seq (.seq (.region false [ oM 35 (.faddr (.t 8) 0), oM 36 (.load none (.t 35)), oM 37 (.bin .neq (.t 36) (.c (.d (.int .i64 (-1)))))] []) (.cond (.t 37) (.region true [ oM 38 (.faddr (.t 8) 0), oM 39 (.load none (.t 38)), oM 40 (.callf 61 [(.t 39)]), oM 41 (.bin .add (.t 40) (.c (.d (.str [32, 58, 32])))), oM 42 (.faddr (.t 8) 1), oM 43 (.load none (.t 42)), oM 44 (.callf 103 [(.t 43)]), oM 45 (.bin .add (.t 41) (.t 44)), oM 9 (.mv (.t 45))] [0, 1, 2, 4, 0, 16, 36, 72, 255]) .skip)) (.region false [ oM 46 (.mv (.t 6)), oM 47 (.mv (.t 9)), oM 48 (.bin .add (.t 47) (.c (.d (.str [32, 61, 32])))), oM 49 (.faddr (.t 8) 3), oM 50 (.load none (.t 49)), oM 51 (.callf 61 [(.t 50)]), oM 52 (.bin .add (.t 48) (.t 51)), oM 53 (.bslice 1 1 [.d (.str [])] [(0, 1, (.t 52))]), oM 54 (.app 1 16 9 (.t 46) (.t 53)), oM 6 (.mv (.t 54))] []))))) (.region false [ oM 55 (.bin .add (.t 28) (.c (.d (.int .i64 1)))), oM 28 (.mv (.t 55))] []))))
def ac62L1 : ACode := (.seq (.region false [ oM 23 (.bin .lss (.t 22) (.t 21))] []) (.seq (.cond (.t 23) .skip (.exit 0)) (.seq (.block 1 (.seq (.region false [ oM 24 (.iaddr 1 none (.t 20) (.t 22)), oM 25 (.load none (.t 24)), oM 5 (.mv (.t 25))] []) (.seq (.region false [ oM 6 (.mv (.c (.d .nsl)))] []) (.seq (.seq (.region false [ oM 26 (.mv (.t 5)), oM 27 (.lenl (.t 26)), oM 28 (.mv (.c (.d (.int .i64 0))))] []) (.block 2 (.loop ac62L0))) (.region false [ oM 56 (.mv (.t 3)), oM 57 (.mv (.t 6)), oM 58 (.callf 105 [(.t 57), (.c (.d (.str [32, 38, 32])))]), oM 59 (.bslice 1 1 [.d (.str [])] [(0, 1, (.t 58))]), oM 60 (.app 1 16 9 (.t 56) (.t 59)), oM 3 (.mv (.t 60))] []))))) (.region false [ oM 61 (.bin .add (.t 22) (.c (.d (.int .i64 1)))), oM 22 (.mv (.t 61))] []))))
def ac62 : ACode := (.seq (.region false [ oM 1 (.box (.t 0)), oM 2 (.mv (.c (.d (.str []))))] []) (.seq (.seq (.region false [ oM 11 (.faddr (.t 1) 0), oM 12 (.load none (.t 11)), oM 13 (.bin .eql (.t 12) (.c (.d (.int .i64 0)))), oM 14 (.mv (.t 13)), oG 15 (.load (some 2) (.t 1)) 14 false, oG 16 (.callf 77 [(.t 15)]) 14 false, oG 17 (.un .not (.t 16)) 14 false, oM 18 (.pick (.t 14) (.c (.d (.bool true))) (.t 17))] []) (.cond (.t 18) (.seq (.region false [ oM 2 (.mv (.c (.d (.str []))))] []) .ret) .skip)) (.seq (.region false [ oM 3 (.mv (.c (.d .nsl)))] []) (.seq (.seq (.region false [ oM 19 (.faddr (.t 1) 1), oM 20 (.load none (.t 19)), oM 21 (.lenl (.t 20)), oM 22 (.mv (.c (.d (.int .i64 0))))] []) (.block 0 (.loop ac62L1))) (.seq (.region false [ oM 10 (.mv (.c (.d (.str [101, 120, 105, 115, 116, 115, 32]))))] []) (.seq (.seq (.region false [ oM 62 (.faddr (.t 1) 0), oM 63 (.load none (.t 62)), oM 64 (.bin .eql (.t 63) (.c (.d (.int .i64 2))))] []) (.cond (.t 64) (.region false [ oM 10 (.mv (.c (.d (.str [102, 111, 114, 97, 108, 108, 32]))))] []) .skip)) (.seq (.region false [ oM 65 (.mv (.t 10)), oM 66 (.mv (.t 3)), oM 67 (.callf 105 [(.t 66), (.c (.d (.str [32, 124, 32])))]), oM 68 (.bin .add (.t 65) (.t 67)), oM 69 (.bin .add (.t 68) (.c (.d (.str [32, 59])))), oM 2 (.mv (.t 69))] []) .ret)))))))
theorem ac62_ok : Tryz.f62.body.bind (cCode Tryz.prog Tryz.f62.ntmps) = some ac62 := by kernel_rfl
-- 64 slices.Equal[[]jacquard/api.Init,jacquard/api.Init]
def ac64L0 : ACode := (.seq (.region false [ oM 14 (.bin .lss (.t 13) (.t 12))] []) (.seq (.cond (.t 14) .skip (.exit 0)) (.seq (.block 1 (.seq (.region false [ oM 15 (.mv (.t 13)), oM 5 (.mv (.t 15))] []) (.seq (.region true [ oM 16 (.mv (.t 0)), oM 17 (.mv (.t 5)), oM 18 (.iaddr 2 none (.t 16) (.t 17)), oM 19 (.load (some 2) (.t 18)), oM 20 (.mv (.t 1)), oM 21 (.mv (.t 5)), oM 22 (.iaddr 2 none (.t 20) (.t 21)), oM 23 (.load (some 2) (.t 22)), oM 24 (.eqs [0, 0] true (.t 19) (.t 23))] [0, 0, 3, 4, 0, 0, 48, 64, 136]) (.cond (.t 24) (.seq (.region false [ oM 4 (.mv (.c (.d (.bool false))))] []) .ret) .skip)))) (.region false [ oM 25 (.bin .add (.t 13) (.c (.d (.int .i64 1)))), oM 13 (.mv (.t 25))] []))))
def ac64 : ACode := (.seq (.region false [ oM 4 (.mv (.c (.d (.bool false))))] []) (.seq (.seq (.region false [ oM 6 (.mv (.t 0)), oM 7 (.lenl (.t 6)), oM 8 (.mv (.t 1)), oM 9 (.lenl (.t 8)), oM 10 (.bin .neq (.t 7) (.t 9))] []) (.cond (.t 10) (.seq (.region false [ oM 4 (.mv (.c (.d (.bool false))))] []) .ret) .skip)) (.seq (.seq (.region false [ oM 11 (.mv (.t 0)), oM 12 (.lenl (.t 11)), oM 13 (.mv (.c (.d (.int .i64 0))))] []) (.block 0 (.loop ac64L0))) (.seq (.region false [ oM 4 (.mv (.c (.d (.bool true))))] []) .ret))))
theorem ac64_ok : Tryz.f64.body.bind (cCode Tryz.prog Tryz.f64.ntmps) = some ac64 := by kernel_rfl
-- 65 slices.EqualFunc[[][]jacquard/api.Ins,[][]jacquard/api.Ins,[]jacquard/api.Ins,[]jacquard/api.Ins]
def ac65L0 : ACode := (.seq (.region false [ oM 18 (.bin .lss (.t 17) (.t 16))] []) (.seq (.cond (.t 18) .skip (.exit 0)) (.seq (.block 1 (.seq (.region false [ oM 19 (.mv (.t 17)), oM 20 (.iaddr 1 none (.t 15) (.t 17)), oM 21 (.load none (.t 20)), oM 7 (.mv (.t 19)), oM 8 (.mv (.t 21))] []) (.seq (.region false [ oM 22 (.mv (.t 1)), oM 23 (.mv (.t 7)), oM 24 (.iaddr 1 none (.t 22) (.t 23)), oM 25 (.load none (.t 24)), oM 9 (.mv (.t 25))] []) (.seq (.region false [ oM 26 (.mv (.t 2)), oM 27 (.mv (.t 8)), oM 28 (.mv (.t 9)), oM 29 (.callv (.t 26) [(.t 27), (.t 28)]), oM 30 (.un .not (.t 29))] []) (.cond (.t 30) (.seq (.region false [ oM 6 (.mv (.c (.d (.bool false))))] []) .ret) .skip))))) (.region false [ oM 31 (.bin .add (.t 17) (.c (.d (.int .i64 1)))), oM 17 (.mv (.t 31))] []))))
def ac65 : ACode := (.seq (.region false [ oM 6 (.mv (.c (.d (.bool false))))] []) (.seq (.seq (.region false [ oM 10 (.mv (.t 0)), oM 11 (.lenl (.t 10)), oM 12 (.mv (.t 1)), oM 13 (.lenl (.t 12)), oM 14 (.bin .neq (.t 11) (.t 13))] []) (.cond (.t 14) (.seq (.region false [ oM 6 (.mv (.c (.d (.bool false))))] []) .ret) .skip)) (.seq (.seq (.region false [ oM 15 (.mv (.t 0)), oM 16 (.lenl (.t 15)), oM 17 (.mv (.c (.d (.int .i64 0))))] []) (.block 0 (.loop ac65L0))) (.seq (.region false [ oM 6 (.mv (.c (.d (.bool true))))] []) .ret))))
theorem ac65_ok : Tryz.f65.body.bind (cCode Tryz.prog Tryz.f65.ntmps) = some ac65 := by kernel_rfl
-- 66 slices.Equal[[]jacquard/api.Ins,jacquard/api.Ins]
def ac66L0 : ACode := (.seq (.region false [ oM 14 (.bin .lss (.t 13) (.t 12))] []) (.seq (.cond (.t 14) .skip (.exit 0)) (.seq (.block 1 (.seq (.region false [ oM 15 (.mv (.t 13)), oM 5 (.mv (.t 15))] []) (.seq (.region true [ oM 16 (.mv (.t 0)), oM 17 (.mv (.t 5)), oM 18 (.iaddr 9 none (.t 16) (.t 17)), oM 19 (.load (some 9) (.t 18)), oM 20 (.mv (.t 1)), oM 21 (.mv (.t 5)), oM 22 (.iaddr 9 none (.t 20) (.t 21)), oM 23 (.load (some 9) (.t 22)), oM 24 (.eqs [0, 0, 0, 0, 0, 0, 0, 0, 0] true (.t 19) (.t 23))] [0, 0, 3, 4, 0, 0, 48, 64, 136]) (.cond (.t 24) (.seq (.region false [ oM 4 (.mv (.c (.d (.bool false))))] []) .ret) .skip)))) (.region false [ oM 25 (.bin .add (.t 13) (.c (.d (.int .i64 1)))), oM 13 (.mv (.t 25))] []))))
def ac66 : ACode := (.seq (.region false [ oM 4 (.mv (.c (.d (.bool false))))] []) (.seq (.seq (.region false [ oM 6 (.mv (.t 0)), oM 7 (.lenl (.t 6)), oM 8 (.mv (.t 1)), oM 9 (.lenl (.t 8)), oM 10 (.bin .neq (.t 7) (.t 9))] []) (.cond (.t 10) (.seq (.region false [ oM 4 (.mv (.c (.d (.bool false))))] []) .ret) .skip)) (.seq (.seq (.region false [ oM 11 (.mv (.t 0)), oM 12 (.lenl (.t 11)), oM 13 (.mv (.c (.d (.int .i64 0))))] []) (.block 0 (.loop ac66L0))) (.seq (.region false [ oM 4 (.mv (.c (.d (.bool true))))] []) .ret))))
theorem ac66_ok : Tryz.f66.body.bind (cCode Tryz.prog Tryz.f66.ntmps) = some ac66 := by kernel_rfl
-- 67 slices.EqualFunc[[][]jacquard/api.Atom,[][]jacquard/api.Atom,[]jacquard/api.Atom,[]jacquard/api.Atom]
def ac67L0 : ACode := (.seq (.region false [ oM 18 (.bin .lss (.t 17) (.t 16))] []) (.seq (.cond (.t 18) .skip (.exit 0)) (.seq (.block 1 (.seq (.region false [ oM 19 (.mv (.t 17)), oM 20 (.iaddr 1 none (.t 15) (.t 17)), oM 21 (.load none (.t 20)), oM 7 (.mv (.t 19)), oM 8 (.mv (.t 21))] []) (.seq (.region false [ oM 22 (.mv (.t 1)), oM 23 (.mv (.t 7)), oM 24 (.iaddr 1 none (.t 22) (.t 23)), oM 25 (.load none (.t 24)), oM 9 (.mv (.t 25))] []) (.seq (.region false [ oM 26 (.mv (.t 2)), oM 27 (.mv (.t 8)), oM 28 (.mv (.t 9)), oM 29 (.callv (.t 26) [(.t 27), (.t 28)]), oM 30 (.un .not (.t 29))] []) (.cond (.t 30) (.seq (.region false [ oM 6 (.mv (.c (.d (.bool false))))] []) .ret) .skip))))) (.region false [ oM 31 (.bin .add (.t 17) (.c (.d (.int .i64 1)))), oM 17 (.mv (.t 31))] []))))
def ac67 : ACode := (.seq (.region false [ oM 6 (.mv (.c (.d (.bool false))))] []) (.seq (.seq (.region false [ oM 10 (.mv (.t 0)), oM 11 (.lenl (.t 10)), oM 12 (.mv (.t 1)), oM 13 (.lenl (.t 12)), oM 14 (.bin .neq (.t 11) (.t 13))] []) (.cond (.t 14) (.seq (.region false [ oM 6 (.mv (.c (.d (.bool false))))] []) .ret) .skip)) (.seq (.seq (.region false [ oM 15 (.mv (.t 0)), oM 16 (.lenl (.t 15)), oM 17 (.mv (.c (.d (.int .i64 0))))] []) (.block 0 (.loop ac67L0))) (.seq (.region false [ oM 6 (.mv (.c (.d (.bool true))))] []) .ret))))
theorem ac67_ok : Tryz.f67.body.bind (cCode Tryz.prog Tryz.f67.ntmps) = some ac67 := by kernel_rfl
-- 68 slices.Equal[[]jacquard/api.Atom,jacquard/api.Atom]
def ac68L0 : ACode := (.seq (.region false [ oM 14 (.bin .lss (.t 13) (.t 12))] []) (.seq (.cond (.t 14) .skip (.exit 0)) (.seq (.block 1 (.seq (.region false [ oM 15 (.mv (.t 13)), oM 5 (.mv (.t 15))] []) (.seq (.region true [ oM 16 (.mv (.t 0)), oM 17 (.mv (.t 5)), oM 18 (.iaddr 4 none (.t 16) (.t 17)), oM 19 (.load (some 4) (.t 18)), oM 20 (.mv (.t 1)), oM 21 (.mv (.t 5)), oM 22 (.iaddr 4 none (.t 20) (.t 21)), oM 23 (.load (some 4) (.t 22)), oM 24 (.eqs [0, 0, 0, 0] true (.t 19) (.t 23))] [0, 0, 3, 4, 0, 0, 48, 64, 136]) (.cond (.t 24) (.seq (.region false [ oM 4 (.mv (.c (.d (.bool false))))] []) .ret) .skip)))) (.region false [ oM 25 (.bin .add (.t 13) (.c (.d (.int .i64 1)))), oM 13 (.mv (.t 25))] []))))
def ac68 : ACode := (.seq (.region false [ oM 4 (.mv (.c (.d (.bool false))))] []) (.seq (.seq (.region false [ oM 6 (.mv (.t 0)), oM 7 (.lenl (.t 6)), oM 8 (.mv (.t 1)), oM 9 (.lenl (.t 8)), oM 10 (.bin .neq (.t 7) (.t 9))] []) (.cond (.t 10) (.seq (.region false [ oM 4 (.mv (.c (.d (.bool false))))] []) .ret) .skip)) (.seq (.seq (.region false [ oM 11 (.mv (.t 0)), oM 12 (.lenl (.t 11)), oM 13 (.mv (.c (.d (.int .i64 0))))] []) (.block 0 (.loop ac68L0))) (.seq (.region false [ oM 4 (.mv (.c (.d (.bool true))))] []) .ret))))
theorem ac68_ok : Tryz.f68.body.bind (cCode Tryz.prog Tryz.f68.ntmps) = some ac68 := by kernel_rfl
-- 69 jacquard/print.Ok$1
def ac69 : ACode := (.seq (.region false [ oM 2 (.mv (.c (.d (.bool false))))] []) (.seq (.region false [ oM 3 (.mv (.t 0)), oM 4 (.callf 70 [(.t 3), (.c (.fn 71 []))]), oM 2 (.mv (.t 4))] []) .ret))
theorem ac69_ok : Tryz.f69.body.bind (cCode Tryz.prog Tryz.f69.ntmps) = some ac69 := by kernel_rfl
-- 70 slices.ContainsFunc[[]jacquard/api.Ins,jacquard/api.Ins]
def ac70 : ACode := (.seq (.region false [ oM 4 (.mv (.c (.d (.bool false))))] []) (.seq (.region false [ oM 5 (.mv (.t 0)), oM 6 (.mv (.t 1)), oM 7 (.callf 108 [(.t 5), (.t 6)]), oM 8 (.bin .geq (.t 7) (.c (.d (.int .i64 0)))), oM 4 (.mv (.t 8))] []) .ret))
theorem ac70_ok : Tryz.f70.body.bind (cCode Tryz.prog Tryz.f70.ntmps) = some ac70 := by kernel_rfl
-- 71 jacquard/print.Ok$1$1
def ac71 : ACode := (.seq (.region false [ oM 1 (.box (.t 0)), oM 2 (.mv (.c (.d (.bool false))))] []) (.seq (.region false [ oM 3 (.load (some 9) (.t 1)), oM 4 (.callf 72 [(.t 3)]), oM 5 (.un .not (.t 4)), oM 2 (.mv (.t 5))] []) .ret))
theorem ac71_ok : Tryz.f71.body.bind (cCode Tryz.prog Tryz.f71.ntmps) = some ac71 := by kernel_rfl
-- 72 jacquard/print.okIns
def ac72 : ACode := (.seq (.region false [ oM 1 (.box (.t 0)), oM 2 (.mv (.c (.d (.bool false))))] []) (.seq (.region false [ oM 3 (.load (some 9) (.t 1)), oM 4 (.callf 109 [(.t 3), (.c (.fn 76 []))]), oM 2 (.mv (.t 4))] []) .ret))
theorem ac72_ok : Tryz.f72.body.bind (cCode Tryz.prog Tryz.f72.ntmps) = some ac72 := by kernel_rfl
-- 73 jacquard/print.isWord
def ac73L0 : ACode := (.seq (.region false [ oM 8 (.bin .lss (.t 7) (.t 6))] []) (.seq (.cond (.t 8) .skip (.exit 0)) (.seq (.block 1 (.seq (.region false [ oM 9 (.mv (.t 7)), oM 3 (.mv (.t 9))] []) (.seq (.region false [ oM 10 (.mv (.t 0)), oM 11 (.mv (.t 3)), oM 12 (.idxs (.t 10) (.t 11)), oM 4 (.mv (.t 12))] []) (.seq (.region false [ oM 13 (.mv (.t 4)), oM 14 (.bin .lss (.t 13) (.c (.d (.int .u8 97)))), oM 15 (.mv (.t 14)), oG 16 (.mv (.t 4)) 15 false, oG 17 (.bin .gtr (.t 16) (.c (.d (.int .u8 122)))) 15 false, oM 18 (.pick (.t 15) (.c (.d (.bool true))) (.t 17)), oM 19 (.mv (.t 18)), oG 20 (.mv (.t 3)) 19 true, oG 21 (.bin .eql (.t 20) (.c (.d (.int .i64 0)))) 19 true, oG 22 (.mv (.t 21)) 19 true, oG 23 (.mv (.t 4)) 22 false, oG 24 (.bin .lss (.t 23) (.c (.d (.int .u8 48)))) 22 false, oG 25 (.pick (.t 22) (.c (.d (.bool true))) (.t 24)) 19 true, oG 26 (.mv (.t 25)) 19 true, oG 27 (.mv (.t 4)) 26 false, oG 28 (.bin .gtr (.t 27) (.c (.d (.int .u8 57)))) 26 false, oG 29 (.pick (.t 26) (.c (.d (.bool true))) (.t 28)) 19 true, oM 30 (.pick (.t 19) (.t 29) (.c (.d (.bool false))))] []) (.cond (.t 30) (.seq (.region false [ oM 2 (.mv (.c (.d (.bool false))))] []) .ret) .skip))))) (.region false [ oM 31 (.bin .add (.t 7) (.c (.d (.int .i64 1)))), oM 7 (.mv (.t 31))] []))))
def ac73 : ACode := (.seq (.region false [ oM 2 (.mv (.c (.d (.bool false))))] []) (.seq (.seq (.region false [ oM 5 (.mv (.t 0)), oM 6 (.lens (.t 5)), oM 7 (.mv (.c (.d (.int .i64 0))))] []) (.block 0 (.loop ac73L0))) (.seq (.region false [ oM 32 (.mv (.t 0)), oM 33 (.bin .neq (.t 32) (.c (.d (.str [])))), oM 2 (.mv (.t 33))] []) .ret)))
theorem ac73_ok : Tryz.f73.body.bind (cCode Tryz.prog Tryz.f73.ntmps) = some ac73 := by kernel_rfl
-- 74 slices.ContainsFunc[[]jacquard/api.Init,jacquard/api.Init]
def ac74 : ACode := (.seq (.region false [ oM 4 (.mv (.c (.d (.bool false))))] []) (.seq (.region false [ oM 5 (.mv (.t 0)), oM 6 (.mv (.t 1)), oM 7 (.callf 110 [(.t 5), (.t 6)]), oM 8 (.bin .geq (.t 7) (.c (.d (.int .i64 0)))), oM 4 (.mv (.t 8))] []) .ret))
theorem ac74_ok : Tryz.f74.body.bind (cCode Tryz.prog Tryz.f74.ntmps) = some ac74 := by kernel_rfl
-- 75 jacquard/print.Ok$2
def ac75 : ACode := (.seq (.region false [ oM 1 (.box (.t 0)), oM 2 (.mv (.c (.d (.bool false))))] []) (.seq (.region false [ oM 3 (.faddr (.t 1) 0), oM 4 (.load none (.t 3)), oM 5 (.callf 76 [(.t 4)]), oM 6 (.un .not (.t 5)), oM 2 (.mv (.t 6))] []) .ret))
theorem ac75_ok : Tryz.f75.body.bind (cCode Tryz.prog Tryz.f75.ntmps) = some ac75 := by kernel_rfl
-- 76 jacquard/print.IsLoc
def ac76 : ACode := (.seq (.region false [ oM 2 (.mv (.c (.d (.bool false))))] []) (.seq (.region false [ oM 3 (.mv (.t 0)), oM 4 (.bin .geq (.t 3) (.c (.d (.int .i64 97)))), oM 5 (.mv (.t 4)), oG 6 (.mv (.t 0)) 5 true, oG 7 (.bin .leq (.t 6) (.c (.d (.int .i64 122)))) 5 true, oM 8 (.pick (.t 5) (.t 7) (.c (.d (.bool false)))), oM 2 (.mv (.t 8))] []) .ret))
theorem ac76_ok : Tryz.f76.body.bind (cCode Tryz.prog Tryz.f76.ntmps) = some ac76 := by kernel_rfl
-- 77 jacquard/print.okCond
def ac77 : ACode := (.seq (.region false [ oM 1 (.box (.t 0)), oM 2 (.mv (.c (.d (.bool false))))] []) (.seq (.seq (.region false [ oM 4 (.faddr (.t 1) 0), oM 5 (.load none (.t 4)), oM 6 (.bin .eql (.t 5) (.c (.d (.int .i64 0))))] []) (.cond (.t 6) (.seq (.region false [ oM 7 (.faddr (.t 1) 1), oM 8 (.load none (.t 7)), oM 9 (.lenl (.t 8)), oM 10 (.bin .eql (.t 9) (.c (.d (.int .i64 0)))), oM 2 (.mv (.t 10))] []) .ret) .skip)) (.seq (.region false [ oM 3 (.mv (.c (.fn 111 [])))] []) (.seq (.region false [ oM 11 (.faddr (.t 1) 0), oM 12 (.load none (.t 11)), oM 13 (.bin .eql (.t 12) (.c (.d (.int .i64 1)))), oM 14 (.mv (.t 13)), oG 15 (.faddr (.t 1) 0) 14 false, oG 16 (.load none (.t 15)) 14 false, oG 17 (.bin .eql (.t 16) (.c (.d (.int .i64 2)))) 14 false, oM 18 (.pick (.t 14) (.c (.d (.bool true))) (.t 17)), oM 19 (.mv (.t 18)), oG 20 (.faddr (.t 1) 1) 19 true, oG 21 (.load none (.t 20)) 19 true, oG 22 (.lenl (.t 21)) 19 true, oG 23 (.bin .gtr (.t 22) (.c (.d (.int .i64 0)))) 19 true, oM 24 (.pick (.t 19) (.t 23) (.c (.d (.bool false)))), oM 25 (.mv (.t 24)), oG 26 (.faddr (.t 1) 1) 25 true, oG 27 (.load none (.t 26)) 25 true, oG 28 (.mv (.t 3)) 25 true, oG 29 (.callf 98 [(.t 27), (.t 28)]) 25 true, oG 30 (.un .not (.t 29)) 25 true, oM 31 (.pick (.t 25) (.t 30) (.c (.d (.bool false)))), oM 2 (.mv (.t 31))] []) .ret))))
theorem ac77_ok : Tryz.f77.body.bind (cCode Tryz.prog Tryz.f77.ntmps) = some ac77 := by kernel_rfl
-- 85 (*jacquard/lex.Lexer).Next
def ac85 : ACode := (.seq (.region false [ oM 2 (.alloc [.d (.int .i64 0), .d (.str []), .d (.int .i64 0)]), oM 3 (.alloc [.d (.int .i64 0), .d (.int .i64 0)])] []) (.seq (.seq (.region false [ oM 10 (.mv (.t 0)), oM 11 (.nilck (.t 10)), oM 12 (.faddr (.t 11) 3), oM 13 (.faddr (.t 12) 0), oM 14 (.load none (.t 13)), oM 15 (.bin .neq (.t 14) (.c (.d (.int .i64 0))))] []) (.cond (.t 15) (.seq (.region true [ oM 16 (.build [.d (.int .i64 0), .d (.str []), .d (.int .i64 0)] []), oM 17 (.mv (.t 0)), oM 18 (.nilck (.t 17)), oM 19 (.faddr (.t 18) 3), oM 20 (.load (some 2) (.t 19)), ⟨none, .store 3 (.t 2) (.t 16), none⟩, ⟨none, .store 2 (.t 3) (.t 20), none⟩] [0, 0, 2, 4, 8, 1, 63]) .ret) .skip)) (.seq (.region false [ oM 21 (.mv (.t 0)), oM 22 (.callf 118 [(.t 21)])] []) (.seq (.seq (.region false [ oM 23 (.mv (.t 0)), oM 24 (.mv (.t 0)), oM 25 (.nilck (.t 24)), oM 26 (.faddr (.t 25) 1), oM 27 (.load none (.t 26)), oM 28 (.callf 119 [(.t 23), (.t 27)]), oM 29 (.un .not (.t 28))] []) (.cond (.t 29) (.seq (.region false [ oM 30 (.mv (.t 0)), oM 31 (.nilck (.t 30)), oM 32 (.faddr (.t 31) 1), oM 33 (.load none (.t 32)), oM 34 (.build [.d (.int .i64 0), .d (.str []), .d (.int .i64 0)] [(0, 1, (.c (.d (.int .i64 4)))), (2, 1, (.t 33))]), oM 35 (.build [.d (.int .i64 0), .d (.int .i64 0)] []), ⟨none, .store 3 (.t 2) (.t 34), none⟩, ⟨none, .store 2 (.t 3) (.t 35), none⟩] []) .ret) .skip)) (.seq (.region false [ oM 36 (.mv (.t 0)), oM 37 (.mv (.t 0)), oM 38 (.nilck (.t 37)), oM 39 (.faddr (.t 38) 1), oM 40 (.load none (.t 39)), oM 41 (.callf 120 [(.t 36), (.t 40)]), oM 4 (.mv (.t 41))] []) (.seq (.region false [ oM 42 (.mv (.t 0)), oM 43 (.nilck (.t 42)), oM 44 (.faddr (.t 43) 1), oM 45 (.load none (.t 44)), oM 46 (.build [.d (.int .i64 0), .d (.str []), .d (.int .i64 0)] [(2, 1, (.t 45))]), oM 5 (.alloc [.d (.int .i64 0), .d (.str []), .d (.int .i64 0)]), ⟨none, .store 3 (.t 5) (.t 46), none⟩] []) (.seq (.region false [ oM 47 (.mv (.t 0)), oM 48 (.nilck (.t 47)), oM 49 (.faddr (.t 48) 1), oM 50 (.load none (.t 49)), oM 6 (.mv (.t 50))] []) (.seq (.block 0 (.seq (.region false [ oM 68 (.mv (.t 4)), oM 69 (.callf 121 [(.t 68)]), oM 70 (.bin .eql (.t 69) (.c (.d (.int .i64 2)))), oM 67 (.mv (.t 70))] []) (.cond (.t 67) (.region false [ oM 71 (.mv (.t 0)), oM 72 (.mv (.t 0)), oM 73 (.nilck (.t 72)), oM 74 (.faddr (.t 73) 1), oM 75 (.load none (.t 74)), oM 76 (.callf 122 [(.t 71), (.t 75)]), oM 77 (.faddr (.t 5) 0), ⟨none, .store 1 (.t 77) (.c (.d (.int .i64 1))), none⟩, oM 6 (.mv (.t 76))] []) (.seq (.region false [ oM 79 (.mv (.t 4)), oM 80 (.callf 121 [(.t 79)]), oM 81 (.bin .eql (.t 80) (.c (.d (.int .i64 3)))), oM 82 (.mv (.t 81)), oG 83 (.mv (.t 4)) 82 false, oG 84 (.bin .eql (.t 83) (.c (.d (.int .u8 45)))) 82 false, oG 85 (.mv (.t 84)) 82 false, oG 86 (.mv (.t 0)) 85 true, oG 87 (.mv (.t 0)) 85 true, oG 88 (.nilck (.t 87)) 85 true, oG 89 (.faddr (.t 88) 1) 85 true, oG 90 (.load none (.t 89)) 85 true, oG 91 (.bin .add (.t 90) (.c (.d (.int .i64 1)))) 85 true, oG 92 (.callf 120 [(.t 86), (.t 91)]) 85 true, oG 93 (.callf 121 [(.t 92)]) 85 true, oG 94 (.bin .eql (.t 93) (.c (.d (.int .i64 3)))) 85 true, oG 95 (.pick (.t 85) (.t 94) (.c (.d (.bool false)))) 82 false, oM 96 (.pick (.t 82) (.c (.d (.bool true))) (.t 95)), oM 78 (.mv (.t 96))] []) (.cond (.t 78) (.seq (.region false [ oM 97 (.mv (.t 0)), oM 98 (.mv (.t 0)), oM 99 (.nilck (.t 98)), oM 100 (.faddr (.t 99) 1), oM 101 (.load none (.t 100)), oM 102 (.bin .add (.t 101) (.c (.d (.int .i64 1)))), oM 103 (.callf 122 [(.t 97), (.t 102)]), oM 104 (.faddr (.t 5) 0), ⟨none, .store 1 (.t 104) (.c (.d (.int .i64 2))), none⟩, oM 6 (.mv (.t 103))] []) (.seq (.region true [ oM 106 (.mv (.t 0)), oM 107 (.nilck (.t 106)), oM 108 (.faddr (.t 107) 0), oM 109 (.load none (.t 108)), oM 110 (.mv (.t 0)), oM 111 (.nilck (.t 110)), oM 112 (.faddr (.t 111) 1), oM 113 (.load none (.t 112)), oM 114 (.mv (.t 6)), oM 115 (.slcs (.t 109) (some (.t 113)) (some (.t 114))), oM 116 (.callf 123 [(.t 115)]), oM 105 (.mv (.t 116)), oM 117 (.ext (.t 105) 0), oM 118 (.ext (.t 105) 1), oM 7 (.mv (.t 117)), oM 8 (.mv (.t 118))] [0, 1, 2, 4, 0, 16, 32, 64, 0, 392, 512, 1024, 2048, 2048, 8191, 32767]) (.seq (.region false [ oM 119 (.mv (.t 8)), oM 120 (.un .not (.t 119))] []) (.cond (.t 120) (.seq (.region false [ oM 121 (.mv (.t 0)), oM 122 (.callf 124 [(.t 121), (.c (.d (.int .i64 5)))]), oM 123 (.ext (.t 122) 0), oM 124 (.ext (.t 122) 1), ⟨none, .store 3 (.t 2) (.t 123), none⟩, ⟨none, .store 2 (.t 3) (.t 124), none⟩] []) .ret) .skip)))) (.seq (.region false [ oM 51 (.mv (.t 0)), oM 52 (.callf 125 [(.t 51)]), oM 9 (.mv (.t 52))] []) (.seq (.seq (.region false [ oM 53 (.mv (.t 9)), oM 54 (.bin .eql (.t 53) (.c (.d (.str []))))] []) (.cond (.t 54) (.seq (.region false [ oM 55 (.mv (.t 0)), oM 56 (.callf 124 [(.t 55), (.c (.d (.int .i64 4)))]), oM 57 (.ext (.t 56) 0), oM 58 (.ext (.t 56) 1), ⟨none, .store 3 (.t 2) (.t 57), none⟩, ⟨none, .store 2 (.t 3) (.t 58), none⟩] []) .ret) .skip)) (.region true [ oM 59 (.mv (.t 0)), oM 60 (.nilck (.t 59)), oM 61 (.faddr (.t 60) 1), oM 62 (.load none (.t 61)), oM 63 (.mv (.t 9)), oM 64 (.lens (.t 63)), oM 65 (.bin .add (.t 62) (.t 64)), oM 66 (.faddr (.t 5) 0), ⟨none, .store 1 (.t 66) (.c (.d (.int .i64 3))), none⟩, oM 6 (.mv (.t 65))] [0, 1, 2, 4, 0, 16, 40, 0, 128, 511])))))))) (.seq (.region true [ oM 125 (.mv (.t 0)), oM 126 (.mv (.t 0)), oM 127 (.nilck (.t 126)), oM 128 (.faddr (.t 127) 0), oM 129 (.load none (.t 128)), oM 130 (.mv (.t 0)), oM 131 (.nilck (.t 130)), oM 132 (.faddr (.t 131) 1), oM 133 (.load none (.t 132)), oM 134 (.mv (.t 6)), oM 135 (.slcs (.t 129) (some (.t 133)) (some (.t 134))), oM 136 (.mv (.t 6)), oM 137 (.faddr (.t 5) 1), ⟨none, .store 1 (.t 137) (.t 135), none⟩, oM 138 (.nilck (.t 125)), oM 139 (.faddr (.t 138) 1), ⟨none, .store 1 (.t 139) (.t 136), none⟩] [0, 0, 2, 4, 8, 0, 32, 64, 128, 0, 784, 0, 2046, 6142, 16383, 32767, 49151]) (.seq (.region false [ oM 140 (.load (some 3) (.t 5)), oM 141 (.build [.d (.int .i64 0), .d (.int .i64 0)] []), ⟨none, .store 3 (.t 2) (.t 140), none⟩, ⟨none, .store 2 (.t 3) (.t 141), none⟩] []) .ret))))))))))
theorem ac85_ok : Tryz.f85.body.bind (cCode Tryz.prog Tryz.f85.ntmps) = some ac85 := by kernel_rfl
-- 92 jacquard/jacquardref2.Parse
-- 96 jacquard/jacquardref2.Next
-- 97 jacquard/well.big$1
-- 98 slices.ContainsFunc[[][]jacquard/api.Atom,[]jacquard/api.Atom]
def ac98 : ACode := (.seq (.region false [ oM 4 (.mv (.c (.d (.bool false))))] []) (.seq (.region false [ oM 5 (.mv (.t 0)), oM 6 (.mv (.t 1)), oM 7 (.callf 131 [(.t 5), (.t 6)]), oM 8 (.bin .geq (.t 7) (.c (.d (.int .i64 0)))), oM 4 (.mv (.t 8))] []) .ret))
theorem ac98_ok : Tryz.f98.body.bind (cCode Tryz.prog Tryz.f98.ntmps) = some ac98 := by kernel_rfl
-- 99 slices.IndexFunc[[][]jacquard/api.Ins,[]jacquard/api.Ins]
def ac99L0 : ACode := (.seq (.region false [ oM 9 (.bin .lss (.t 8) (.t 7))] []) (.seq (.cond (.t 9) .skip (.exit 0)) (.seq (.block 1 (.seq (.region false [ oM 10 (.mv (.t 8)), oM 5 (.mv (.t 10))] []) (.seq (.region false [ oM 11 (.mv (.t 1)), oM 12 (.mv (.t 0)), oM 13 (.mv (.t 5)), oM 14 (.iaddr 1 none (.t 12) (.t 13)), oM 15 (.load none (.t 14)), oM 16 (.callv (.t 11) [(.t 15)])] []) (.cond (.t 16) (.seq (.region false [ oM 17 (.mv (.t 5)), oM 4 (.mv (.t 17))] []) .ret) .skip)))) (.region false [ oM 18 (.bin .add (.t 8) (.c (.d (.int .i64 1)))), oM 8 (.mv (.t 18))] []))))
def ac99 : ACode := (.seq (.region false [ oM 4 (.mv (.c (.d (.int .i64 0))))] []) (.seq (.seq (.region false [ oM 6 (.mv (.t 0)), oM 7 (.lenl (.t 6)), oM 8 (.mv (.c (.d (.int .i64 0))))] []) (.block 0 (.loop ac99L0))) (.seq (.region false [ oM 4 (.mv (.c (.d (.int .i64 (-1)))))] []) .ret)))
theorem ac99_ok : Tryz.f99.body.bind (cCode Tryz.prog Tryz.f99.ntmps) = some ac99 := by kernel_rfl
-- 100 slices.IndexFunc[[]jacquard/api.Atom,jacquard/api.Atom]
def ac100L0 : ACode := (.seq (.region false [ oM 9 (.bin .lss (.t 8) (.t 7))] []) (.seq (.cond (.t 9) .skip (.exit 0)) (.seq (.block 1 (.seq (.region false [ oM 10 (.mv (.t 8)), oM 5 (.mv (.t 10))] []) (.seq (.region false [ oM 11 (.mv (.t 1)), oM 12 (.mv (.t 0)), oM 13 (.mv (.t 5)), oM 14 (.iaddr 4 none (.t 12) (.t 13)), oM 15 (.load (some 4) (.t 14)), oM 16 (.callv (.t 11) [(.t 15)])] []) (.cond (.t 16) (.seq (.region false [ oM 17 (.mv (.t 5)), oM 4 (.mv (.t 17))] []) .ret) .skip)))) (.region false [ oM 18 (.bin .add (.t 8) (.c (.d (.int .i64 1)))), oM 8 (.mv (.t 18))] []))))
def ac100 : ACode := (.seq (.region false [ oM 4 (.mv (.c (.d (.int .i64 0))))] []) (.seq (.seq (.region false [ oM 6 (.mv (.t 0)), oM 7 (.lenl (.t 6)), oM 8 (.mv (.c (.d (.int .i64 0))))] []) (.block 0 (.loop ac100L0))) (.seq (.region false [ oM 4 (.mv (.c (.d (.int .i64 (-1)))))] []) .ret)))
theorem ac100_ok : Tryz.f100.body.bind (cCode Tryz.prog Tryz.f100.ntmps) = some ac100 := by kernel_rfl
-- 101 jacquard/well.letters
-- 102 jacquard/print.operand
def ac102 : ACode := (.seq (.region false [ oM 1 (.box (.t 0)), oM 2 (.mv (.c (.d (.str []))))] []) (.seq (.seq (.region false [ oM 3 (.faddr (.t 1) 0), oM 4 (.load none (.t 3)), oM 5 (.bin .eql (.t 4) (.c (.d (.int .i64 (-1)))))] []) (.cond (.t 5) (.seq (.region false [ oM 6 (.faddr (.t 1) 1), oM 7 (.load none (.t 6)), oM 8 (.callf 61 [(.t 7)]), oM 2 (.mv (.t 8))] []) .ret) .skip)) (.seq (.region false [ oM 9 (.faddr (.t 1) 0), oM 10 (.load none (.t 9)), oM 11 (.callf 103 [(.t 10)]), oM 2 (.mv (.t 11))] []) .ret)))
theorem ac102_ok : Tryz.f102.body.bind (cCode Tryz.prog Tryz.f102.ntmps) = some ac102 := by kernel_rfl
-- 103 jacquard/print.reg
def ac103 : ACode := (.seq (.region false [ oM 2 (.mv (.c (.d (.str []))))] []) (.seq (.region false [ oM 3 (.mv (.t 0)), oM 4 (.callf 61 [(.t 3)]), oM 5 (.bin .add (.c (.d (.str [114]))) (.t 4)), oM 2 (.mv (.t 5))] []) .ret))
theorem ac103_ok : Tryz.f103.body.bind (cCode Tryz.prog Tryz.f103.ntmps) = some ac103 := by kernel_rfl
-- 104 jacquard/num.Sign
def ac104 : ACode := (.seq (.region false [ oM 2 (.mv (.c (.d (.str []))))] []) (.seq (.seq (.region false [ oM 4 (.mv (.t 0)), oM 5 (.bin .lss (.t 4) (.c (.d (.int .i64 1)))), oM 6 (.mv (.t 5)), oG 7 (.mv (.t 0)) 6 false, oG 8 (.bin .gtr (.t 7) (.c (.d (.int .i64 11)))) 6 false, oM 9 (.pick (.t 6) (.c (.d (.bool true))) (.t 8))] []) (.cond (.t 9) (.seq (.region false [ oM 2 (.mv (.c (.d (.str []))))] []) .ret) .skip)) (.seq (.region false [ oM 10 (.callf 133 []), oM 3 (.alloc [.d (.str []), .d (.str []), .d (.str []), .d (.str []), .d (.str []), .d (.str []), .d (.str []), .d (.str []), .d (.str []), .d (.str []), .d (.str []), .d (.str [])]), ⟨none, .store 12 (.t 3) (.t 10), none⟩] []) (.seq (.region false [ oM 11 (.mv (.t 0)), oM 12 (.iaddr 1 (some 12) (.t 3) (.t 11)), oM 13 (.load none (.t 12)), oM 2 (.mv (.t 13))] []) .ret))))
theorem ac104_ok : Tryz.f104.body.bind (cCode Tryz.prog Tryz.f104.ntmps) = some ac104 := by kernel_rfl
-- 108 slices.IndexFunc[[]jacquard/api.Ins,jacquard/api.Ins]
def ac108L0 : ACode := (.seq (.region false [ oM 9 (.bin .lss (.t 8) (.t 7))] []) (.seq (.cond (.t 9) .skip (.exit 0)) (.seq (.block 1 (.seq (.region false [ oM 10 (.mv (.t 8)), oM 5 (.mv (.t 10))] []) (.seq (.region false [ oM 11 (.mv (.t 1)), oM 12 (.mv (.t 0)), oM 13 (.mv (.t 5)), oM 14 (.iaddr 9 none (.t 12) (.t 13)), oM 15 (.load (some 9) (.t 14)), oM 16 (.callv (.t 11) [(.t 15)])] []) (.cond (.t 16) (.seq (.region false [ oM 17 (.mv (.t 5)), oM 4 (.mv (.t 17))] []) .ret) .skip)))) (.region false [ oM 18 (.bin .add (.t 8) (.c (.d (.int .i64 1)))), oM 8 (.mv (.t 18))] []))))
def ac108 : ACode := (.seq (.region false [ oM 4 (.mv (.c (.d (.int .i64 0))))] []) (.seq (.seq (.region false [ oM 6 (.mv (.t 0)), oM 7 (.lenl (.t 6)), oM 8 (.mv (.c (.d (.int .i64 0))))] []) (.block 0 (.loop ac108L0))) (.seq (.region false [ oM 4 (.mv (.c (.d (.int .i64 (-1)))))] []) .ret)))
theorem ac108_ok : Tryz.f108.body.bind (cCode Tryz.prog Tryz.f108.ntmps) = some ac108 := by kernel_rfl
-- 109 jacquard/print.Fields
def ac109 : ACode := (.seq (.region false [ oM 2 (.box (.t 0)), oM 4 (.mv (.c (.d (.bool false))))] []) (.seq (.region false [ oM 7 (.faddr (.t 2) 0), oM 8 (.load none (.t 7)), oM 9 (.build [.d (.int .i64 0), .d (.int .i64 0), .d (.int .i64 0), .d (.int .i64 0), .d (.int .i64 0), .d (.int .i64 0), .d (.int .i64 0), .d (.int .i64 0), .d (.int .i64 0)] [(0, 1, (.t 8))]), oM 5 (.alloc [.d (.int .i64 0), .d (.int .i64 0), .d (.int .i64 0), .d (.int .i64 0), .d (.int .i64 0), .d (.int .i64 0), .d (.int .i64 0), .d (.int .i64 0), .d (.int .i64 0)]), ⟨none, .store 9 (.t 5) (.t 9), none⟩] []) (.seq (.region false [ oM 6 (.mv (.c (.d (.bool true))))] []) (.seq (.seq (.region false [ oM 10 (.faddr (.t 2) 0), oM 11 (.load none (.t 10))] []) (.block 0 (.seq (.region false [ oM 13 (.bin .eql (.t 11) (.c (.d (.int .i64 1)))), oM 12 (.mv (.t 13))] []) (.cond (.t 12) (.seq (.region true [ oM 14 (.faddr (.t 2) 2), oM 15 (.load none (.t 14)), oM 16 (.faddr (.t 2) 3), oM 17 (.load (some 2) (.t 16)), oM 18 (.faddr (.t 5) 2), ⟨none, .store 1 (.t 18) (.t 15), none⟩, oM 19 (.faddr (.t 5) 3), ⟨none, .store 2 (.t 19) (.t 17), none⟩] [0, 1, 0, 4, 3, 19, 63, 127]) (.region false [ oM 20 (.mv (.t 1)), oM 21 (.faddr (.t 2) 2), oM 22 (.load none (.t 21)), oM 23 (.callv (.t 20) [(.t 22)]), oM 24 (.mv (.t 23)), oG 25 (.faddr (.t 2) 3) 24 true, oG 26 (.load (some 2) (.t 25)) 24 true, oG 27 (.callf 137 [(.t 26)]) 24 true, oM 28 (.pick (.t 24) (.t 27) (.c (.d (.bool false)))), oM 6 (.mv (.t 28))] [])) (.seq (.region false [ oM 30 (.bin .eql (.t 11) (.c (.d (.int .i64 2)))), oM 29 (.mv (.t 30))] []) (.cond (.t 29) (.seq (.region true [ oM 31 (.faddr (.t 2) 1), oM 32 (.load none (.t 31)), oM 33 (.faddr (.t 2) 2), oM 34 (.load none (.t 33)), oM 35 (.faddr (.t 5) 1), ⟨none, .store 1 (.t 35) (.t 32), none⟩, oM 36 (.faddr (.t 5) 2), ⟨none, .store 1 (.t 36) (.t 34), none⟩] [0, 1, 0, 4, 3, 19, 63, 127]) (.region false [ oM 37 (.mv (.t 1)), oM 38 (.faddr (.t 2) 2), oM 39 (.load none (.t 38)), oM 40 (.callv (.t 37) [(.t 39)]), oM 41 (.mv (.t 40)), oG 42 (.faddr (.t 2) 1) 41 true, oG 43 (.load none (.t 42)) 41 true, oG 44 (.callf 138 [(.t 43)]) 41 true, oM 45 (.pick (.t 41) (.t 44) (.c (.d (.bool false)))), oM 6 (.mv (.t 45))] [])) (.seq (.region false [ oM 47 (.bin .eql (.t 11) (.c (.d (.int .i64 3)))), oM 46 (.mv (.t 47))] []) (.cond (.t 46) .skip (.seq (.region false [ oM 49 (.bin .eql (.t 11) (.c (.d (.int .i64 4)))), oM 48 (.mv (.t 49))] []) (.cond (.t 48) (.seq (.region true [ oM 50 (.faddr (.t 2) 1), oM 51 (.load none (.t 50)), oM 52 (.faddr (.t 2) 2), oM 53 (.load none (.t 52)), oM 54 (.faddr (.t 2) 3), oM 55 (.load (some 2) (.t 54)), oM 56 (.faddr (.t 2) 6), oM 57 (.load (some 2) (.t 56)), oM 58 (.faddr (.t 5) 1), ⟨none, .store 1 (.t 58) (.t 51), none⟩, oM 59 (.faddr (.t 5) 2), ⟨none, .store 1 (.t 59) (.t 53), none⟩, oM 60 (.faddr (.t 5) 3), ⟨none, .store 2 (.t 60) (.t 55), none⟩, oM 61 (.faddr (.t 5) 6), ⟨none, .store 2 (.t 61) (.t 57), none⟩] [0, 1, 0, 4, 0, 16, 0, 64, 3, 259, 783, 1807, 3903, 7999, 16383, 32767]) (.region false [ oM 62 (.mv (.t 1)), oM 63 (.faddr (.t 2) 2), oM 64 (.load none (.t 63)), oM 65 (.callv (.t 62) [(.t 64)]), oM 66 (.mv (.t 65)), oG 67 (.faddr (.t 2) 1) 66 true, oG 68 (.load none (.t 67)) 66 true, oG 69 (.callf 138 [(.t 68)]) 66 true, oM 70 (.pick (.t 66) (.t 69) (.c (.d (.bool false)))), oM 71 (.mv (.t 70)), oG 72 (.faddr (.t 2) 3) 71 true, oG 73 (.load (some 2) (.t 72)) 71 true, oG 74 (.callf 137 [(.t 73)]) 71 true, oM 75 (.pick (.t 71) (.t 74) (.c (.d (.bool false)))), oM 76 (.mv (.t 75)), oG 77 (.faddr (.t 2) 6) 76 true, oG 78 (.load (some 2) (.t 77)) 76 true, oG 79 (.callf 137 [(.t 78)]) 76 true, oM 80 (.pick (.t 76) (.t 79) (.c (.d (.bool false)))), oM 6 (.mv (.t 80))] [])) (.seq (.region false [ oM 82 (.bin .eql (.t 11) (.c (.d (.int .i64 5)))), oM 81 (.mv (.t 82))] []) (.cond (.t 81) (.seq (.region true [ oM 83 (.faddr (.t 2) 1), oM 84 (.load none (.t 83)), oM 85 (.faddr (.t 2) 3), oM 86 (.load (some 2) (.t 85)), oM 87 (.faddr (.t 2) 5), oM 88 (.load none (.t 87)), oM 89 (.faddr (.t 2) 6), oM 90 (.load (some 2) (.t 89)), oM 91 (.faddr (.t 5) 1), ⟨none, .store 1 (.t 91) (.t 84), none⟩, oM 92 (.faddr (.t 5) 3), ⟨none, .store 2 (.t 92) (.t 86), none⟩, oM 93 (.faddr (.t 5) 5), ⟨none, .store 1 (.t 93) (.t 88), none⟩, oM 94 (.faddr (.t 5) 6), ⟨none, .store 2 (.t 94) (.t 90), none⟩] [0, 1, 0, 4, 0, 16, 0, 64, 3, 259, 783, 1807, 3903, 7999, 16383, 32767]) (.region false [ oM 95 (.faddr (.t 2) 1), oM 96 (.load none (.t 95)), oM 97 (.callf 138 [(.t 96)]), oM 98 (.mv (.t 97)), oG 99 (.faddr (.t 2) 3) 98 true, oG 100 (.load (some 2) (.t 99)) 98 true, oG 101 (.callf 137 [(.t 100)]) 98 true, oM 102 (.pick (.t 98) (.t 101) (.c (.d (.bool false)))), oM 103 (.mv (.t 102)), oG 104 (.faddr (.t 2) 6) 103 true, oG 105 (.load (some 2) (.t 104)) 103 true, oG 106 (.callf 137 [(.t 105)]) 103 true, oM 107 (.pick (.t 103) (.t 106) (.c (.d (.bool false)))), oM 108 (.mv (.t 107)), oG 109 (.faddr (.t 2) 5) 108 true, oG 110 (.load none (.t 109)) 108 true, oG 111 (.bin .geq (.t 110) (.c (.d (.int .i64 0)))) 108 true, oM 112 (.pick (.t 108) (.t 111) (.c (.d (.bool false)))), oM 113 (.mv (.t 112)), oG 114 (.faddr (.t 2) 5) 113 true, oG 115 (.load none (.t 114)) 113 true, oG 116 (.bin .leq (.t 115) (.c (.d (.int .i64 11)))) 113 true, oM 117 (.pick (.t 113) (.t 116) (.c (.d (.bool false)))), oM 118 (.mv (.t 117)), oG 119 (.faddr (.t 2) 5) 118 true, oG 120 (.load none (.t 119)) 118 true, oG 121 (.bin .gtr (.t 120) (.c (.d (.int .i64 0)))) 118 true, oG 122 (.mv (.t 121)) 118 true, oG 123 (.faddr (.t 2) 6) 122 false, oG 124 (.load (some 2) (.t 123)) 122 false, oG 125 (.build [.d (.int .i64 0), .d (.int .i64 0)] [(0, 1, (.c (.d (.int .i64 (-1)))))]) 122 false, oG 126 (.eqs [0, 0] false (.t 124) (.t 125)) 122 false, oG 127 (.pick (.t 122) (.c (.d (.bool true))) (.t 126)) 118 true, oM 128 (.pick (.t 118) (.t 127) (.c (.d (.bool false)))), oM 6 (.mv (.t 128))] [])) (.seq (.region false [ oM 130 (.bin .eql (.t 11) (.c (.d (.int .i64 6)))), oM 129 (.mv (.t 130))] []) (.cond (.t 129) (.seq (.region true [ oM 131 (.faddr (.t 2) 8), oM 132 (.load none (.t 131)), oM 133 (.faddr (.t 2) 3), oM 134 (.load (some 2) (.t 133)), oM 135 (.faddr (.t 2) 6), oM 136 (.load (some 2) (.t 135)), oM 137 (.faddr (.t 5) 8), ⟨none, .store 1 (.t 137) (.t 132), none⟩, oM 138 (.faddr (.t 5) 3), ⟨none, .store 2 (.t 138) (.t 134), none⟩, oM 139 (.faddr (.t 5) 6), ⟨none, .store 2 (.t 139) (.t 136), none⟩] [0, 1, 0, 4, 0, 16, 3, 67, 207, 463, 1023, 2047]) (.region false [ oM 140 (.faddr (.t 2) 8), oM 141 (.load none (.t 140)), oM 142 (.bin .geq (.t 141) (.c (.d (.int .i64 0)))), oM 143 (.mv (.t 142)), oG 144 (.faddr (.t 2) 3) 143 true, oG 145 (.load (some 2) (.t 144)) 143 true, oG 146 (.callf 137 [(.t 145)]) 143 true, oM 147 (.pick (.t 143) (.t 146) (.c (.d (.bool false)))), oM 148 (.mv (.t 147)), oG 149 (.faddr (.t 2) 6) 148 true, oG 150 (.load (some 2) (.t 149)) 148 true, oG 151 (.callf 137 [(.t 150)]) 148 true, oM 152 (.pick (.t 148) (.t 151) (.c (.d (.bool false)))), oM 6 (.mv (.t 152))] [])) (.seq (.region false [ oM 4 (.mv (.c (.d (.bool false))))] []) .ret))))))))))))))) (.seq (.region false [ oM 153 (.mv (.t 6)), oM 154 (.mv (.t 153)), oG 155 (.load (some 9) (.t 2)) 154 true, oG 156 (.load (some 9) (.t 5)) 154 true, oG 157 (.eqs [0, 0, 0, 0, 0, 0, 0, 0, 0] false (.t 155) (.t 156)) 154 true, oM 158 (.pick (.t 154) (.t 157) (.c (.d (.bool false)))), oM 4 (.mv (.t 158))] []) .ret)))))
theorem ac109_ok : Tryz.f109.body.bind (cCode Tryz.prog Tryz.f109.ntmps) = some ac109 := by kernel_rfl
-- 110 slices.IndexFunc[[]jacquard/api.Init,jacquard/api.Init]
def ac110L0 : ACode := (.seq (.region false [ oM 9 (.bin .lss (.t 8) (.t 7))] []) (.seq (.cond (.t 9) .skip (.exit 0)) (.seq (.block 1 (.seq (.region false [ oM 10 (.mv (.t 8)), oM 5 (.mv (.t 10))] []) (.seq (.region false [ oM 11 (.mv (.t 1)), oM 12 (.mv (.t 0)), oM 13 (.mv (.t 5)), oM 14 (.iaddr 2 none (.t 12) (.t 13)), oM 15 (.load (some 2) (.t 14)), oM 16 (.callv (.t 11) [(.t 15)])] []) (.cond (.t 16) (.seq (.region false [ oM 17 (.mv (.t 5)), oM 4 (.mv (.t 17))] []) .ret) .skip)))) (.region false [ oM 18 (.bin .add (.t 8) (.c (.d (.int .i64 1)))), oM 8 (.mv (.t 18))] []))))
def ac110 : ACode := (.seq (.region false [ oM 4 (.mv (.c (.d (.int .i64 0))))] []) (.seq (.seq (.region false [ oM 6 (.mv (.t 0)), oM 7 (.lenl (.t 6)), oM 8 (.mv (.c (.d (.int .i64 0))))] []) (.block 0 (.loop ac110L0))) (.seq (.region false [ oM 4 (.mv (.c (.d (.int .i64 (-1)))))] []) .ret)))
theorem ac110_ok : Tryz.f110.body.bind (cCode Tryz.prog Tryz.f110.ntmps) = some ac110 := by kernel_rfl
-- 111 jacquard/print.okCond$1
def ac111 : ACode := (.seq (.region false [ oM 2 (.mv (.c (.d (.bool false))))] []) (.seq (.region false [ oM 3 (.mv (.t 0)), oM 4 (.lenl (.t 3)), oM 5 (.bin .eql (.t 4) (.c (.d (.int .i64 0)))), oM 6 (.mv (.t 5)), oG 7 (.mv (.t 0)) 6 false, oG 8 (.callf 54 [(.t 7), (.c (.fn 112 []))]) 6 false, oM 9 (.pick (.t 6) (.c (.d (.bool true))) (.t 8)), oM 2 (.mv (.t 9))] []) .ret))
theorem ac111_ok : Tryz.f111.body.bind (cCode Tryz.prog Tryz.f111.ntmps) = some ac111 := by kernel_rfl
-- 112 jacquard/print.okCond$1$1
def ac112 : ACode := (.seq (.region false [ oM 1 (.box (.t 0)), oM 2 (.mv (.c (.d (.bool false))))] []) (.seq (.region false [ oM 3 (.load (some 4) (.t 1)), oM 4 (.callf 113 [(.t 3)]), oM 5 (.un .not (.t 4)), oM 2 (.mv (.t 5))] []) .ret))
theorem ac112_ok : Tryz.f112.body.bind (cCode Tryz.prog Tryz.f112.ntmps) = some ac112 := by kernel_rfl
-- 113 jacquard/print.okAtom
def ac113 : ACode := (.seq (.region false [ oM 1 (.box (.t 0)), oM 2 (.mv (.c (.d (.bool false))))] []) (.seq (.seq (.region false [ oM 3 (.faddr (.t 1) 0), oM 4 (.load none (.t 3)), oM 5 (.bin .eql (.t 4) (.c (.d (.int .i64 (-1)))))] []) (.cond (.t 5) (.seq (.region false [ oM 6 (.faddr (.t 1) 1), oM 7 (.load none (.t 6)), oM 8 (.bin .eql (.t 7) (.c (.d (.int .i64 0)))), oM 9 (.mv (.t 8)), oG 10 (.faddr (.t 1) 2) 9 true, oG 11 (.load none (.t 10)) 9 true, oG 12 (.callf 76 [(.t 11)]) 9 true, oM 13 (.pick (.t 9) (.t 12) (.c (.d (.bool false)))), oM 2 (.mv (.t 13))] []) .ret) .skip)) (.seq (.region false [ oM 14 (.faddr (.t 1) 0), oM 15 (.load none (.t 14)), oM 16 (.bin .geq (.t 15) (.c (.d (.int .i64 0)))), oM 17 (.mv (.t 16)), oG 18 (.faddr (.t 1) 0) 17 true, oG 19 (.load none (.t 18)) 17 true, oG 20 (.bin .leq (.t 19) (.c (.d (.int .i64 9)))) 17 true, oM 21 (.pick (.t 17) (.t 20) (.c (.d (.bool false)))), oM 22 (.mv (.t 21)), oG 23 (.faddr (.t 1) 2) 22 true, oG 24 (.load none (.t 23)) 22 true, oG 25 (.bin .eql (.t 24) (.c (.d (.int .i64 0)))) 22 true, oM 26 (.pick (.t 22) (.t 25) (.c (.d (.bool false)))), oM 27 (.mv (.t 26)), oG 28 (.faddr (.t 1) 1) 27 true, oG 29 (.load none (.t 28)) 27 true, oG 30 (.callf 138 [(.t 29)]) 27 true, oM 31 (.pick (.t 27) (.t 30) (.c (.d (.bool false)))), oM 2 (.mv (.t 31))] []) .ret)))
theorem ac113_ok : Tryz.f113.body.bind (cCode Tryz.prog Tryz.f113.ntmps) = some ac113 := by kernel_rfl
-- 114 jacquard/jacquardref2.letter
-- 115 jacquard/jacquardref2.digit
-- 118 (*jacquard/lex.Lexer).skip
def ac118L0 : ACode := (.seq (.seq (.region false [ oM 18 (.mv (.t 0)), oM 19 (.mv (.t 0)), oM 20 (.nilck (.t 19)), oM 21 (.faddr (.t 20) 1), oM 22 (.load none (.t 21)), oM 23 (.callf 119 [(.t 18), (.t 22)]), oM 24 (.mv (.t 23)), oG 25 (.mv (.t 0)) 24 true, oG 26 (.mv (.t 0)) 24 true, oG 27 (.nilck (.t 26)) 24 true, oG 28 (.faddr (.t 27) 1) 24 true, oG 29 (.load none (.t 28)) 24 true, oG 30 (.callf 120 [(.t 25), (.t 29)]) 24 true, oG 31 (.bin .neq (.t 30) (.c (.d (.int .u8 10)))) 24 true, oM 32 (.pick (.t 24) (.t 31) (.c (.d (.bool false))))] []) (.cond (.t 32) .skip (.exit 3))) (.block 4 (.region false [ oM 33 (.mv (.t 0)), oM 34 (.nilck (.t 33)), oM 35 (.faddr (.t 34) 1), oM 36 (.load none (.t 35)), oM 37 (.bin .add (.t 36) (.c (.d (.int .i64 1)))), oM 38 (.nilck (.t 33)), oM 39 (.faddr (.t 38) 1), ⟨none, .store 1 (.t 39) (.t 37), none⟩] [])))
def ac118L1 : ACode := (.seq (.seq (.region false [ oM 3 (.mv (.t 0)), oM 4 (.mv (.t 0)), oM 5 (.nilck (.t 4)), oM 6 (.faddr (.t 5) 1), oM 7 (.load none (.t 6)), oM 8 (.callf 119 [(.t 3), (.t 7)])] []) (.cond (.t 8) .skip (.exit 0))) (.block 1 (.seq (.region false [ oM 9 (.mv (.t 0)), oM 10 (.mv (.t 0)), oM 11 (.nilck (.t 10)), oM 12 (.faddr (.t 11) 1), oM 13 (.load none (.t 12)), oM 14 (.callf 120 [(.t 9), (.t 13)]), oM 2 (.mv (.t 14))] []) (.block 2 (.seq (.region false [ oM 16 (.mv (.t 2)), oM 17 (.bin .eql (.t 16) (.c (.d (.int .u8 35)))), oM 15 (.mv (.t 17))] []) (.cond (.t 15) (.block 3 (.loop ac118L0)) (.seq (.region false [ oM 41 (.mv (.t 2)), oM 42 (.callf 121 [(.t 41)]), oM 43 (.bin .eql (.t 42) (.c (.d (.int .i64 1)))), oM 40 (.mv (.t 43))] []) (.cond (.t 40) (.region false [ oM 44 (.mv (.t 0)), oM 45 (.nilck (.t 44)), oM 46 (.faddr (.t 45) 1), oM 47 (.load none (.t 46)), oM 48 (.bin .add (.t 47) (.c (.d (.int .i64 1)))), oM 49 (.nilck (.t 44)), oM 50 (.faddr (.t 49) 1), ⟨none, .store 1 (.t 50) (.t 48), none⟩] []) .ret))))))))
def ac118 : ACode := (.block 0 (.loop ac118L1))
theorem ac118_ok : Tryz.f118.body.bind (cCode Tryz.prog Tryz.f118.ntmps) = some ac118 := by kernel_rfl
-- 119 (*jacquard/lex.Lexer).has
def ac119 : ACode := (.seq (.region false [ oM 4 (.mv (.c (.d (.bool false))))] []) (.seq (.region false [ oM 5 (.mv (.t 1)), oM 6 (.mv (.t 0)), oM 7 (.nilck (.t 6)), oM 8 (.faddr (.t 7) 0), oM 9 (.load none (.t 8)), oM 10 (.lens (.t 9)), oM 11 (.bin .lss (.t 5) (.t 10)), oM 4 (.mv (.t 11))] []) .ret))
theorem ac119_ok : Tryz.f119.body.bind (cCode Tryz.prog Tryz.f119.ntmps) = some ac119 := by kernel_rfl
-- 120 (*jacquard/lex.Lexer).peek
def ac120 : ACode := (.seq (.region false [ oM 4 (.mv (.c (.d (.int .u8 0))))] []) (.seq (.seq (.region false [ oM 5 (.mv (.t 1)), oM 6 (.mv (.t 0)), oM 7 (.nilck (.t 6)), oM 8 (.faddr (.t 7) 0), oM 9 (.load none (.t 8)), oM 10 (.lens (.t 9)), oM 11 (.bin .geq (.t 5) (.t 10))] []) (.cond (.t 11) (.seq (.region false [ oM 4 (.mv (.c (.d (.int .u8 0))))] []) .ret) .skip)) (.seq (.region false [ oM 12 (.mv (.t 0)), oM 13 (.mv (.t 0)), oM 14 (.nilck (.t 13)), oM 15 (.faddr (.t 14) 2), oM 16 (.load none (.t 15)), oM 17 (.mv (.t 1)), oM 18 (.bin .add (.t 17) (.c (.d (.int .i64 1)))), oM 19 (.maxI (.t 16) (.t 18)), oM 20 (.nilck (.t 12)), oM 21 (.faddr (.t 20) 2), ⟨none, .store 1 (.t 21) (.t 19), none⟩] []) (.seq (.region false [ oM 22 (.mv (.t 0)), oM 23 (.nilck (.t 22)), oM 24 (.faddr (.t 23) 0), oM 25 (.load none (.t 24)), oM 26 (.mv (.t 1)), oM 27 (.idxs (.t 25) (.t 26)), oM 4 (.mv (.t 27))] []) .ret))))
theorem ac120_ok : Tryz.f120.body.bind (cCode Tryz.prog Tryz.f120.ntmps) = some ac120 := by kernel_rfl
-- 121 jacquard/lex.kind
def ac121 : ACode := (.seq (.region false [ oM 2 (.mv (.c (.d (.int .i64 0))))] []) (.seq (.block 0 (.seq (.region false [ oM 4 (.mv (.t 0)), oM 5 (.bin .eql (.t 4) (.c (.d (.int .u8 32)))), oM 6 (.mv (.t 5)), oG 7 (.mv (.t 0)) 6 false, oG 8 (.bin .eql (.t 7) (.c (.d (.int .u8 9)))) 6 false, oM 9 (.pick (.t 6) (.c (.d (.bool true))) (.t 8)), oM 10 (.mv (.t 9)), oG 11 (.mv (.t 0)) 10 false, oG 12 (.bin .eql (.t 11) (.c (.d (.int .u8 10)))) 10 false, oM 13 (.pick (.t 10) (.c (.d (.bool true))) (.t 12)), oM 3 (.mv (.t 13))] []) (.cond (.t 3) (.seq (.region false [ oM 2 (.mv (.c (.d (.int .i64 1))))] []) .ret) (.seq (.region false [ oM 15 (.mv (.t 0)), oM 16 (.bin .geq (.t 15) (.c (.d (.int .u8 97)))), oM 17 (.mv (.t 16)), oG 18 (.mv (.t 0)) 17 true, oG 19 (.bin .leq (.t 18) (.c (.d (.int .u8 122)))) 17 true, oM 20 (.pick (.t 17) (.t 19) (.c (.d (.bool false)))), oM 14 (.mv (.t 20))] []) (.cond (.t 14) (.seq (.region false [ oM 2 (.mv (.c (.d (.int .i64 2))))] []) .ret) (.seq (.region false [ oM 22 (.mv (.t 0)), oM 23 (.bin .geq (.t 22) (.c (.d (.int .u8 48)))), oM 24 (.mv (.t 23)), oG 25 (.mv (.t 0)) 24 true, oG 26 (.bin .leq (.t 25) (.c (.d (.int .u8 57)))) 24 true, oM 27 (.pick (.t 24) (.t 26) (.c (.d (.bool false)))), oM 21 (.mv (.t 27))] []) (.cond (.t 21) (.seq (.region false [ oM 2 (.mv (.c (.d (.int .i64 3))))] []) .ret) .skip))))))) (.seq (.region false [ oM 2 (.mv (.c (.d (.int .i64 0))))] []) .ret)))
theorem ac121_ok : Tryz.f121.body.bind (cCode Tryz.prog Tryz.f121.ntmps) = some ac121 := by kernel_rfl
-- 122 (*jacquard/lex.Lexer).run
def ac122L0 : ACode := (.seq (.seq (.region false [ oM 5 (.mv (.t 0)), oM 6 (.mv (.t 1)), oM 7 (.callf 119 [(.t 5), (.t 6)]), oM 8 (.mv (.t 7)), oG 9 (.mv (.t 0)) 8 true, oG 10 (.mv (.t 1)) 8 true, oG 11 (.callf 120 [(.t 9), (.t 10)]) 8 true, oG 12 (.callf 121 [(.t 11)]) 8 true, oG 13 (.bin .geq (.t 12) (.c (.d (.int .i64 2)))) 8 true, oM 14 (.pick (.t 8) (.t 13) (.c (.d (.bool false))))] []) (.cond (.t 14) .skip (.exit 0))) (.block 1 (.region false [ oM 15 (.mv (.t 1)), oM 16 (.bin .add (.t 15) (.c (.d (.int .i64 1)))), oM 1 (.mv (.t 16))] [])))
def ac122 : ACode := (.seq (.region false [ oM 4 (.mv (.c (.d (.int .i64 0))))] []) (.seq (.block 0 (.loop ac122L0)) (.seq (.region false [ oM 17 (.mv (.t 1)), oM 4 (.mv (.t 17))] []) .ret)))
theorem ac122_ok : Tryz.f122.body.bind (cCode Tryz.prog Tryz.f122.ntmps) = some ac122 := by kernel_rfl
-- 124 (*jacquard/lex.Lexer).fail
def ac124 : ACode := (.seq (.region false [ oM 4 (.alloc [.d (.int .i64 0), .d (.str []), .d (.int .i64 0)]), oM 5 (.alloc [.d (.int .i64 0), .d (.int .i64 0)])] []) (.seq (.region false [ oM 6 (.mv (.t 0)), oM 7 (.mv (.t 1)), oM 8 (.mv (.t 0)), oM 9 (.nilck (.t 8)), oM 10 (.faddr (.t 9) 1), oM 11 (.load none (.t 10)), oM 12 (.build [.d (.int .i64 0), .d (.int .i64 0)] [(0, 1, (.t 7)), (1, 1, (.t 11))]), oM 13 (.nilck (.t 6)), oM 14 (.faddr (.t 13) 3), ⟨none, .store 2 (.t 14) (.t 12), none⟩] []) (.seq (.region true [ oM 15 (.build [.d (.int .i64 0), .d (.str []), .d (.int .i64 0)] []), oM 16 (.mv (.t 0)), oM 17 (.nilck (.t 16)), oM 18 (.faddr (.t 17) 3), oM 19 (.load (some 2) (.t 18)), ⟨none, .store 3 (.t 4) (.t 15), none⟩, ⟨none, .store 2 (.t 5) (.t 19), none⟩] [0, 0, 2, 4, 8, 1, 63]) .ret)))
theorem ac124_ok : Tryz.f124.body.bind (cCode Tryz.prog Tryz.f124.ntmps) = some ac124 := by kernel_rfl
-- 125 (*jacquard/lex.Lexer).sign
def ac125 : ACode := (.seq (.region false [ oM 2 (.mv (.c (.d (.str []))))] []) (.seq (.region false [ oM 6 (.mv (.t 0)), oM 7 (.mv (.t 0)), oM 8 (.nilck (.t 7)), oM 9 (.faddr (.t 8) 1), oM 10 (.load none (.t 9)), oM 11 (.callf 120 [(.t 6), (.t 10)]), oM 3 (.mv (.t 11))] []) (.seq (.seq (.region false [ oM 12 (.mv (.t 3))] []) (.block 0 (.seq (.seq (.region false [ oM 14 (.bin .eql (.t 12) (.c (.d (.int .u8 60)))), oM 13 (.mv (.t 14))] []) (.cond (.t 13) .skip (.seq (.region false [ oM 15 (.bin .eql (.t 12) (.c (.d (.int .u8 62)))), oM 13 (.mv (.t 15))] []) (.cond (.t 13) .skip (.seq (.region false [ oM 16 (.bin .eql (.t 12) (.c (.d (.int .u8 61)))), oM 13 (.mv (.t 16))] []) (.cond (.t 13) .skip (.region false [ oM 17 (.bin .eql (.t 12) (.c (.d (.int .u8 33)))), oM 13 (.mv (.t 17))] []))))))) (.cond (.t 13) (.seq (.region false [ oM 18 (.mv (.t 0)), oM 19 (.mv (.t 0)), oM 20 (.nilck (.t 19)), oM 21 (.faddr (.t 20) 1), oM 22 (.load none (.t 21)), oM 23 (.bin .add (.t 22) (.c (.d (.int .i64 1)))), oM 24 (.callf 120 [(.t 18), (.t 23)]), oM 4 (.mv (.t 24))] []) (.seq (.region false [ oM 25 (.mv (.t 3)), oM 26 (.bin .eql (.t 25) (.c (.d (.int .u8 60)))), oM 27 (.mv (.t 26)), oG 28 (.mv (.t 4)) 27 true, oG 29 (.bin .eql (.t 28) (.c (.d (.int .u8 60)))) 27 true, oM 30 (.pick (.t 27) (.t 29) (.c (.d (.bool false)))), oM 31 (.mv (.t 30)), oG 32 (.mv (.t 3)) 31 false, oG 33 (.bin .eql (.t 32) (.c (.d (.int .u8 62)))) 31 false, oG 34 (.mv (.t 33)) 31 false, oG 35 (.mv (.t 4)) 34 true, oG 36 (.bin .eql (.t 35) (.c (.d (.int .u8 62)))) 34 true, oG 37 (.pick (.t 34) (.t 36) (.c (.d (.bool false)))) 31 false, oM 38 (.pick (.t 31) (.c (.d (.bool true))) (.t 37)), oM 39 (.mv (.t 38)), oG 40 (.mv (.t 3)) 39 false, oG 41 (.bin .eql (.t 40) (.c (.d (.int .u8 61)))) 39 false, oG 42 (.mv (.t 41)) 39 false, oG 43 (.mv (.t 3)) 42 false, oG 44 (.bin .eql (.t 43) (.c (.d (.int .u8 33)))) 42 false, oG 45 (.pick (.t 42) (.c (.d (.bool true))) (.t 44)) 39 false, oG 46 (.mv (.t 45)) 39 false, oG 47 (.mv (.t 4)) 46 true, oG 48 (.bin .eql (.t 47) (.c (.d (.int .u8 61)))) 46 true, oG 49 (.pick (.t 46) (.t 48) (.c (.d (.bool false)))) 39 false, oM 50 (.pick (.t 39) (.c (.d (.bool true))) (.t 49)), oM 5 (.mv (.t 50))] []) (.seq (.block 1 (.seq (.region false [ oM 52 (.mv (.t 5)), oM 51 (.mv (.t 52))] []) (.cond (.t 51) (.seq (.region true [ oM 53 (.mv (.t 0)), oM 54 (.nilck (.t 53)), oM 55 (.faddr (.t 54) 0), oM 56 (.load none (.t 55)), oM 57 (.mv (.t 0)), oM 58 (.nilck (.t 57)), oM 59 (.faddr (.t 58) 1), oM 60 (.load none (.t 59)), oM 61 (.mv (.t 0)), oM 62 (.nilck (.t 61)), oM 63 (.faddr (.t 62) 1), oM 64 (.load none (.t 63)), oM 65 (.bin .add (.t 64) (.c (.d (.int .i64 2)))), oM 66 (.slcs (.t 56) (some (.t 60)) (some (.t 65))), oM 2 (.mv (.t 66))] [0, 1, 2, 4, 0, 16, 32, 64, 0, 256, 512, 1024, 2048, 4232, 16383]) .ret) (.seq (.region false [ oM 68 (.mv (.t 3)), oM 69 (.bin .eql (.t 68) (.c (.d (.int .u8 62)))), oM 70 (.mv (.t 69)), oG 71 (.mv (.t 3)) 70 false, oG 72 (.bin .eql (.t 71) (.c (.d (.int .u8 33)))) 70 false, oM 73 (.pick (.t 70) (.c (.d (.bool true))) (.t 72)), oM 67 (.mv (.t 73))] []) (.cond (.t 67) (.seq (.region false [ oM 2 (.mv (.c (.d (.str []))))] []) .ret) .skip))))) (.seq (.region false [ oM 74 (.mv (.t 3)), oM 75 (.cvrune (.t 74)), oM 2 (.mv (.t 75))] []) .ret)))) .skip)))) (.seq (.seq (.region false [ oM 76 (.mv (.t 3)), oM 77 (.bin .neq (.t 76) (.c (.d (.int .u8 0)))), oM 78 (.mv (.t 77)), oG 79 (.mv (.t 3)) 78 true, oG 80 (.callf 140 [(.c (.d (.str [123, 125, 59, 58, 43, 45, 42, 38, 124, 94]))), (.t 79)]) 78 true, oG 81 (.bin .geq (.t 80) (.c (.d (.int .i64 0)))) 78 true, oM 82 (.pick (.t 78) (.t 81) (.c (.d (.bool false))))] []) (.cond (.t 82) (.seq (.region false [ oM 83 (.mv (.t 3)), oM 84 (.cvrune (.t 83)), oM 2 (.mv (.t 84))] []) .ret) .skip)) (.seq (.region false [ oM 2 (.mv (.c (.d (.str []))))] []) .ret)))))
theorem ac125_ok : Tryz.f125.body.bind (cCode Tryz.prog Tryz.f125.ntmps) = some ac125 := by kernel_rfl
-- 130 jacquard/jacquardref2.skip
-- 131 slices.IndexFunc[[][]jacquard/api.Atom,[]jacquard/api.Atom]
def ac131L0 : ACode := (.seq (.region false [ oM 9 (.bin .lss (.t 8) (.t 7))] []) (.seq (.cond (.t 9) .skip (.exit 0)) (.seq (.block 1 (.seq (.region false [ oM 10 (.mv (.t 8)), oM 5 (.mv (.t 10))] []) (.seq (.region false [ oM 11 (.mv (.t 1)), oM 12 (.mv (.t 0)), oM 13 (.mv (.t 5)), oM 14 (.iaddr 1 none (.t 12) (.t 13)), oM 15 (.load none (.t 14)), oM 16 (.callv (.t 11) [(.t 15)])] []) (.cond (.t 16) (.seq (.region false [ oM 17 (.mv (.t 5)), oM 4 (.mv (.t 17))] []) .ret) .skip)))) (.region false [ oM 18 (.bin .add (.t 8) (.c (.d (.int .i64 1)))), oM 8 (.mv (.t 18))] []))))
def ac131 : ACode := (.seq (.region false [ oM 4 (.mv (.c (.d (.int .i64 0))))] []) (.seq (.seq (.region false [ oM 6 (.mv (.t 0)), oM 7 (.lenl (.t 6)), oM 8 (.mv (.c (.d (.int .i64 0))))] []) (.block 0 (.loop ac131L0))) (.seq (.region false [ oM 4 (.mv (.c (.d (.int .i64 (-1)))))] []) .ret)))
theorem ac131_ok : Tryz.f131.body.bind (cCode Tryz.prog Tryz.f131.ntmps) = some ac131 := by kernel_rfl
-- 132 jacquard/well.letters$1
-- 133 jacquard/num.signs
def ac133 : ACode := (.seq (.region false [ oM 0 (.alloc [.d (.str []), .d (.str []), .d (.str []), .d (.str []), .d (.str []), .d (.str []), .d (.str []), .d (.str []), .d (.str []), .d (.str []), .d (.str []), .d (.str [])])] []) (.seq (.region false [ oM 1 (.build [.d (.str []), .d (.str []), .d (.str []), .d (.str []), .d (.str []), .d (.str []), .d (.str []), .d (.str []), .d (.str []), .d (.str []), .d (.str []), .d (.str [])] [(0, 1, (.c (.d (.str [])))), (1, 1, (.c (.d (.str [43])))), (2, 1, (.c (.d (.str [45])))), (3, 1, (.c (.d (.str [42])))), (4, 1, (.c (.d (.str [38])))), (5, 1, (.c (.d (.str [124])))), (6, 1, (.c (.d (.str [94])))), (7, 1, (.c (.d (.str [60, 60])))), (8, 1, (.c (.d (.str [62, 62])))), (9, 1, (.c (.d (.str [61, 61])))), (10, 1, (.c (.d (.str [33, 61])))), (11, 1, (.c (.d (.str [60]))))]), ⟨none, .store 12 (.t 0) (.t 1), none⟩] []) .ret))
theorem ac133_ok : Tryz.f133.body.bind (cCode Tryz.prog Tryz.f133.ntmps) = some ac133 := by kernel_rfl
-- 137 jacquard/print.isOperand
def ac137 : ACode := (.seq (.region false [ oM 1 (.box (.t 0)), oM 2 (.mv (.c (.d (.bool false))))] []) (.seq (.region false [ oM 3 (.faddr (.t 1) 0), oM 4 (.load none (.t 3)), oM 5 (.bin .eql (.t 4) (.c (.d (.int .i64 (-1))))), oM 6 (.mv (.t 5)), oG 7 (.faddr (.t 1) 0) 6 false, oG 8 (.load none (.t 7)) 6 false, oG 9 (.callf 138 [(.t 8)]) 6 false, oG 10 (.mv (.t 9)) 6 false, oG 11 (.faddr (.t 1) 1) 10 true, oG 12 (.load none (.t 11)) 10 true, oG 13 (.bin .eql (.t 12) (.c (.d (.int .i64 0)))) 10 true, oG 14 (.pick (.t 10) (.t 13) (.c (.d (.bool false)))) 6 false, oM 15 (.pick (.t 6) (.c (.d (.bool true))) (.t 14)), oM 2 (.mv (.t 15))] []) .ret))
theorem ac137_ok : Tryz.f137.body.bind (cCode Tryz.prog Tryz.f137.ntmps) = some ac137 := by kernel_rfl
-- 138 jacquard/print.isReg
def ac138 : ACode := (.seq (.region false [ oM 2 (.mv (.c (.d (.bool false))))] []) (.seq (.region false [ oM 3 (.mv (.t 0)), oM 4 (.bin .geq (.t 3) (.c (.d (.int .i64 0)))), oM 5 (.mv (.t 4)), oG 6 (.mv (.t 0)) 5 true, oG 7 (.bin .lss (.t 6) (.c (.d (.int .i64 4)))) 5 true, oM 8 (.pick (.t 5) (.t 7) (.c (.d (.bool false)))), oM 2 (.mv (.t 8))] []) .ret))
theorem ac138_ok : Tryz.f138.body.bind (cCode Tryz.prog Tryz.f138.ntmps) = some ac138 := by kernel_rfl
-- 141 jacquard/num.Op
def ac141L0 : ACode := (.seq (.region false [ oM 8 (.bin .lss (.t 7) (.c (.d (.int .i64 12))))] []) (.seq (.cond (.t 8) .skip (.exit 0)) (.seq (.block 1 (.seq (.region false [ oM 9 (.mv (.t 7)), oM 10 (.idxa 12 1 none (.t 6) (.t 7)), oM 4 (.mv (.t 9)), oM 5 (.mv (.t 10))] []) (.seq (.region false [ oM 11 (.mv (.t 4)), oM 12 (.bin .gtr (.t 11) (.c (.d (.int .i64 0)))), oM 13 (.mv (.t 12)), oG 14 (.mv (.t 5)) 13 true, oG 15 (.mv (.t 0)) 13 true, oG 16 (.bin .eql (.t 14) (.t 15)) 13 true, oM 17 (.pick (.t 13) (.t 16) (.c (.d (.bool false))))] []) (.cond (.t 17) (.seq (.region false [ oM 18 (.mv (.t 4)), oM 2 (.mv (.t 18)), oM 3 (.mv (.c (.d (.bool true))))] []) .ret) .skip)))) (.region false [ oM 19 (.bin .add (.t 7) (.c (.d (.int .i64 1)))), oM 7 (.mv (.t 19))] []))))
def ac141 : ACode := (.seq (.region false [ oM 2 (.mv (.c (.d (.int .i64 0)))), oM 3 (.mv (.c (.d (.bool false))))] []) (.seq (.seq (.region false [ oM 6 (.callf 133 []), oM 7 (.mv (.c (.d (.int .i64 0))))] []) (.block 0 (.loop ac141L0))) (.seq (.region false [ oM 2 (.mv (.c (.d (.int .i64 0)))), oM 3 (.mv (.c (.d (.bool false))))] []) .ret)))
theorem ac141_ok : Tryz.f141.body.bind (cCode Tryz.prog Tryz.f141.ntmps) = some ac141 := by kernel_rfl
end Go.Proofs.YtpfbljkfbjjlkaaGreatDoor

/-
  DERIVED: THE SHELF's CONTRACTS AT THIS DUMP, IN PLAIN WORDS (tools/lay-plain.mjs out of 'TryzShelfk.lean', which tools/lay-shelf.mjs wrote): THE SAME DECLARATIONS UNDER THE SAME NAMES: 'import', 'namespace', 'open', 'def', 'theorem' AND NOTHING ELSE: no command of the shelf's: FOR A HAND-IN. Each laying: the table of numbers ('.._ren') and one theorem, a field a fact of the dump's own or the kernel's comparison; each contract: ONE APPLICATION.
-/
namespace Go.Proofs
open Go.Shelf
def Tryz.lays156_ren : Go.Shelf.Ren := ⟨fun | 156 => 105 | 165 => 134 | 166 => 59 | 169 => 63 | 240 => 106 | 241 => 142 | 276 => 135 | 277 => 150 | n => n, fun | 31 => 128 | 9 => 9 | 3 => 3 | 4 => 4 | 0 => 0 | 20 => 20 | 72 => 93 | 76 => 96 | 70 => 91 | 37 => 32 | 75 => 95 | 127 => 131 | 164 => 150 | 5 => 5 | 80 => 71 | n => n, fun | n => n⟩
theorem Tryz.lays156 : Go.Proofs.Lays.n156 Tryz.prog Tryz.lays156_ren := {
  mixed := by kernel_rfl
  f156 := Tryz.func105.trans (congrArg some (by kernel_rfl))
  f165 := Tryz.func134.trans (congrArg some (by kernel_rfl))
  f166 := Tryz.func59.trans (congrArg some (by kernel_rfl))
  f169 := Tryz.func63.trans (congrArg some (by kernel_rfl))
  f240 := Tryz.func106.trans (congrArg some (by kernel_rfl))
  f241 := Tryz.func142.trans (congrArg some (by kernel_rfl))
  f276 := Tryz.func135.trans (congrArg some (by kernel_rfl))
  f277 := Tryz.func150.trans (congrArg some (by kernel_rfl))
  t0 := Tryz.underlying0
  a0 := Tryz.isAgg0
  z0 := Tryz.sizeOf0
  v0 := Tryz.zeroValue0
  t3 := Tryz.underlying3
  a3 := Tryz.isAgg3
  z3 := Tryz.sizeOf3
  v3 := Tryz.zeroValue3
  t4 := Tryz.underlying4
  a4 := Tryz.isAgg4
  z4 := Tryz.sizeOf4
  v4 := Tryz.zeroValue4
  t9 := Tryz.underlying9
  a9 := Tryz.isAgg9
  z9 := Tryz.sizeOf9
  v9 := Tryz.zeroValue9
  t20 := Tryz.underlying20
  a20 := Tryz.isAgg20
  z20 := Tryz.sizeOf20
  v20 := Tryz.zeroValue20
  t31 := Tryz.underlying128
  a31 := Tryz.isAgg128
  z31 := Tryz.sizeOf128
  v31 := Tryz.zeroValue128
  t37 := Tryz.underlying32
  a37 := Tryz.isAgg32
  z37 := Tryz.sizeOf32
  v37 := Tryz.zeroValue32
  t70 := Tryz.underlying91
  a70 := Tryz.isAgg91
  z70 := Tryz.sizeOf91
  v70 := Tryz.zeroValue91
  t72 := Tryz.underlying93
  a72 := Tryz.isAgg93
  z72 := Tryz.sizeOf93
  v72 := Tryz.zeroValue93
  t75 := Tryz.underlying95
  a75 := Tryz.isAgg95
  z75 := Tryz.sizeOf95
  v75 := Tryz.zeroValue95
  t76 := Tryz.underlying96
  a76 := Tryz.isAgg96
  z76 := Tryz.sizeOf96
  v76 := Tryz.zeroValue96
  t127 := Tryz.underlying131
  a127 := Tryz.isAgg131
  z127 := Tryz.sizeOf131
  v127 := Tryz.zeroValue131
  t164 := Tryz.underlying150
  a164 := Tryz.isAgg150
  z164 := Tryz.sizeOf150
  v164 := Tryz.zeroValue150 }
theorem Tryz.Builder_Extra_156 : Builder.Extra Tryz.prog Tryz.lays156_ren := {
  sizeBuilder := by kernel_rfl
  liesBuilder := by kernel_rfl
  t5 := Tryz.underlying5
  a5 := Tryz.isAgg5
  z5 := Tryz.sizeOf5
  v5 := Tryz.zeroValue5
  infoByte := by kernel_rfl
  cellsByte := by kernel_rfl
  sizeByte := by kernel_rfl
  neB5 := by decide }
open Go.RowKit in
theorem Tryz.strings_Join_none (a : Option Addr) (c : Nat) (sep : ByteArray) (w : World) :
    Calls Tryz.prog 105 #[.slice a 0 c, .string sep] w fun e w' => e = .returned (.string ⟨#[]⟩) ∧ w' = w := Any.strings_Join_none Tryz.lays156 Tryz.Builder_Extra_156 a c sep w
open Go.RowKit in
theorem Tryz.strings_Join (bk o c : Nat) (xs : List ByteArray) (sep : ByteArray) (w : World) (hcells : ∀ (j : Nat) x, xs[j]? = some x → w.cell? ⟨bk, o + j, none⟩ = some (.string x)) (hbk : bk < w.heap.size) (hN : xs.length ≤ 140737488355328) (hcap : xs.length ≤ c) (hlen : (Lib.join (xs.map (·.data.toList)) sep.data.toList).length ≤ 140737488355328) :
    Calls Tryz.prog 105 #[.slice (some ⟨bk, o, none⟩) xs.length c, .string sep] w fun e w' => e = .returned (.string ⟨(Lib.join (xs.map (·.data.toList)) sep.data.toList).toArray⟩) ∧ Below w.heap.size w w' := Any.strings_Join Tryz.lays156 Tryz.Builder_Extra_156 bk o c xs sep w hcells hbk hN hcap hlen
def Tryz.lays137_ren : Go.Shelf.Ren := ⟨fun | 137 => 140 | 217 => 149 | 266 => 161 | n => n, fun | 9 => 9 | 5 => 5 | 3 => 3 | n => n, fun | n => n⟩
theorem Tryz.lays137 : Go.Proofs.Lays.n137 Tryz.prog Tryz.lays137_ren := {
  mixed := by kernel_rfl
  f137 := Tryz.func140.trans (congrArg some (by kernel_rfl))
  f217 := Tryz.func149.trans (congrArg some (by kernel_rfl))
  f266 := Tryz.func161.trans (congrArg some (by kernel_rfl))
  t3 := Tryz.underlying3
  a3 := Tryz.isAgg3
  z3 := Tryz.sizeOf3
  v3 := Tryz.zeroValue3
  t5 := Tryz.underlying5
  a5 := Tryz.isAgg5
  z5 := Tryz.sizeOf5
  v5 := Tryz.zeroValue5
  t9 := Tryz.underlying9
  a9 := Tryz.isAgg9
  z9 := Tryz.sizeOf9
  v9 := Tryz.zeroValue9 }
open Go.RowKit in
theorem Tryz.strings_IndexByte (s : ByteArray) (c : Int) (w : World) :
    Calls Tryz.prog 140 #[.string s, .int .u8 c] w fun e w' => e = .returned (.int .i64 (Lib.indexByte s.data.toList c.toNat.toUInt8)) ∧ w' = w := Any.strings_IndexByte Tryz.lays137 s c w
def Tryz.laysM173_ren : Go.Shelf.Ren := ⟨fun | 173 => 107 | 246 => 136 | 283 => 143 | 284 => 144 | 285 => 145 | 286 => 146 | 129 => 152 | 317 => 151 | 318 => 153 | 319 => 154 | 320 => 155 | 337 => 162 | 338 => 163 | n => n, fun | 2 => 2 | 3 => 3 | 9 => 9 | 4 => 4 | 171 => 155 | 0 => 0 | 53 => 109 | 37 => 32 | 5 => 5 | 173 => 158 | 212 => 163 | 51 => 164 | 20 => 20 | 213 => 165 | 46 => 58 | 232 => 179 | 233 => 180 | n => n, fun | 17 => 0 | 18 => 4 | 19 => 5 | n => n⟩
theorem Tryz.laysM173 : Go.Proofs.LaysM.n173 Tryz.prog Tryz.laysM173_ren := {
  mixed := by kernel_rfl
  f129 := Tryz.func152.trans (congrArg some (by kernel_rfl))
  f173 := Tryz.func107.trans (congrArg some (by kernel_rfl))
  f246 := Tryz.func136.trans (congrArg some (by kernel_rfl))
  f283 := Tryz.func143.trans (congrArg some (by kernel_rfl))
  f284 := Tryz.func144.trans (congrArg some (by kernel_rfl))
  f285 := Tryz.func145.trans (congrArg some (by kernel_rfl))
  f286 := Tryz.func146.trans (congrArg some (by kernel_rfl))
  f317 := Tryz.func151.trans (congrArg some (by kernel_rfl))
  f318 := Tryz.func153.trans (congrArg some (by kernel_rfl))
  f319 := Tryz.func154.trans (congrArg some (by kernel_rfl))
  f320 := Tryz.func155.trans (congrArg some (by kernel_rfl))
  f337 := Tryz.func162.trans (congrArg some (by kernel_rfl))
  f338 := Tryz.func163.trans (congrArg some (by kernel_rfl))
  t0 := Tryz.underlying0
  a0 := Tryz.isAgg0
  z0 := Tryz.sizeOf0
  v0 := Tryz.zeroValue0
  t2 := Tryz.underlying2
  a2 := Tryz.isAgg2
  z2 := Tryz.sizeOf2
  v2 := Tryz.zeroValue2
  t3 := Tryz.underlying3
  a3 := Tryz.isAgg3
  z3 := Tryz.sizeOf3
  v3 := Tryz.zeroValue3
  t4 := Tryz.underlying4
  a4 := Tryz.isAgg4
  z4 := Tryz.sizeOf4
  v4 := Tryz.zeroValue4
  t5 := Tryz.underlying5
  a5 := Tryz.isAgg5
  z5 := Tryz.sizeOf5
  v5 := Tryz.zeroValue5
  t9 := Tryz.underlying9
  a9 := Tryz.isAgg9
  z9 := Tryz.sizeOf9
  v9 := Tryz.zeroValue9
  t20 := Tryz.underlying20
  a20 := Tryz.isAgg20
  z20 := Tryz.sizeOf20
  v20 := Tryz.zeroValue20
  t37 := Tryz.underlying32
  a37 := Tryz.isAgg32
  z37 := Tryz.sizeOf32
  v37 := Tryz.zeroValue32
  t46 := Tryz.underlying58
  a46 := Tryz.isAgg58
  z46 := Tryz.sizeOf58
  v46 := Tryz.zeroValue58
  t51 := Tryz.underlying164
  a51 := Tryz.isAgg164
  z51 := Tryz.sizeOf164
  v51 := Tryz.zeroValue164
  t53 := Tryz.underlying109
  a53 := Tryz.isAgg109
  z53 := Tryz.sizeOf109
  v53 := Tryz.zeroValue109
  t171 := Tryz.underlying155
  a171 := Tryz.isAgg155
  z171 := Tryz.sizeOf155
  v171 := Tryz.zeroValue155
  t173 := Tryz.underlying158
  a173 := Tryz.isAgg158
  z173 := Tryz.sizeOf158
  v173 := Tryz.zeroValue158
  t212 := Tryz.underlying163
  a212 := Tryz.isAgg163
  z212 := Tryz.sizeOf163
  v212 := Tryz.zeroValue163
  t213 := Tryz.underlying165
  a213 := Tryz.isAgg165
  z213 := Tryz.sizeOf165
  t232 := Tryz.underlying179
  a232 := Tryz.isAgg179
  z232 := Tryz.sizeOf179
  v232 := Tryz.zeroValue179
  t233 := Tryz.underlying180
  a233 := Tryz.isAgg180
  z233 := Tryz.sizeOf180
  v233 := Tryz.zeroValue180
  g17 := by kernel_rfl
  g18 := by kernel_rfl
  g19 := by kernel_rfl
  i0 := by kernel_rfl
  i2 := by kernel_rfl
  i3 := by kernel_rfl
  i4 := by kernel_rfl
  i5 := by kernel_rfl
  i9 := by kernel_rfl
  i20 := by kernel_rfl
  i37 := by kernel_rfl
  i46 := by kernel_rfl
  i51 := by kernel_rfl
  i53 := by kernel_rfl
  i171 := by kernel_rfl
  i173 := by kernel_rfl
  i212 := by kernel_rfl
  i232 := by kernel_rfl
  i233 := by kernel_rfl
  m17 := by kernel_rfl
  m18 := by kernel_rfl
  m19 := by kernel_rfl }
open Go.RowKit Go.Sort Go.Lib in
theorem Tryz.strconv_FormatInt_10 (n : Int) (h0 : -9223372036854775808 ≤ n) (h1 : n ≤ 9223372036854775807) (w : World) (htab : Lib.TabIs Tryz.prog w "internal/strconv.uint64pow10" .u64 Lib.pow10Tab) :
    Calls Tryz.prog 107 #[.int .i64 n, .int .i64 10] w fun e w' => e = .returned (.string ⟨(Lib.itoa n).toArray⟩) ∧ ∃ k os, w' = grow (w.drewN k) os := Any.strconv_FormatInt_10 Tryz.laysM173 n h0 h1 w htab
open Go.RowKit Go.Sort Go.Lib in
def Tryz.laysC174_ren : Go.Shelf.Ren := ⟨fun | 174 => 139 | 247 => 147 | 245 => 148 | 287 => 156 | 279 => 157 | 280 => 158 | 281 => 159 | 282 => 160 | 321 => 164 | 322 => 165 | 316 => 166 | 171 => 168 | 205 => 167 | 243 => 169 | 246 => 136 | 283 => 143 | 284 => 144 | 285 => 145 | 286 => 146 | 129 => 152 | 317 => 151 | 318 => 153 | 319 => 154 | 320 => 155 | 337 => 162 | 338 => 163 | n => n, fun | 9 => 9 | 3 => 3 | 2 => 2 | 75 => 95 | 85 => 152 | 4 => 4 | 167 => 167 | 5 => 5 | 53 => 109 | 175 => 168 | 46 => 58 | 168 => 170 | 37 => 32 | 0 => 0 | 210 => 177 | 21 => 21 | 127 => 131 | 145 => 183 | 143 => 181 | 171 => 155 | 173 => 158 | 212 => 163 | 51 => 164 | 20 => 20 | 213 => 165 | 232 => 179 | 233 => 180 | 80 => 71 | n => n, fun | 15 => 2 | 16 => 3 | 17 => 0 | 18 => 4 | 19 => 5 | n => n⟩
theorem Tryz.laysC174 : Go.Proofs.LaysC.n174 Tryz.prog Tryz.laysC174_ren := {
  mixed := by kernel_rfl
  f129 := Tryz.func152.trans (congrArg some (by kernel_rfl))
  f171 := Tryz.func168.trans (congrArg some (by kernel_rfl))
  f174 := Tryz.func139.trans (congrArg some (by kernel_rfl))
  f205 := Tryz.func167.trans (congrArg some (by kernel_rfl))
  f243 := Tryz.func169.trans (congrArg some (by kernel_rfl))
  f245 := Tryz.func148.trans (congrArg some (by kernel_rfl))
  f246 := Tryz.func136.trans (congrArg some (by kernel_rfl))
  f247 := Tryz.func147.trans (congrArg some (by kernel_rfl))
  f279 := Tryz.func157.trans (congrArg some (by kernel_rfl))
  f280 := Tryz.func158.trans (congrArg some (by kernel_rfl))
  f281 := Tryz.func159.trans (congrArg some (by kernel_rfl))
  f282 := Tryz.func160.trans (congrArg some (by kernel_rfl))
  f283 := Tryz.func143.trans (congrArg some (by kernel_rfl))
  f284 := Tryz.func144.trans (congrArg some (by kernel_rfl))
  f285 := Tryz.func145.trans (congrArg some (by kernel_rfl))
  f286 := Tryz.func146.trans (congrArg some (by kernel_rfl))
  f287 := Tryz.func156.trans (congrArg some (by kernel_rfl))
  f316 := Tryz.func166.trans (congrArg some (by kernel_rfl))
  f317 := Tryz.func151.trans (congrArg some (by kernel_rfl))
  f318 := Tryz.func153.trans (congrArg some (by kernel_rfl))
  f319 := Tryz.func154.trans (congrArg some (by kernel_rfl))
  f320 := Tryz.func155.trans (congrArg some (by kernel_rfl))
  f321 := Tryz.func164.trans (congrArg some (by kernel_rfl))
  f322 := Tryz.func165.trans (congrArg some (by kernel_rfl))
  f337 := Tryz.func162.trans (congrArg some (by kernel_rfl))
  f338 := Tryz.func163.trans (congrArg some (by kernel_rfl))
  t0 := Tryz.underlying0
  a0 := Tryz.isAgg0
  z0 := Tryz.sizeOf0
  v0 := Tryz.zeroValue0
  t2 := Tryz.underlying2
  a2 := Tryz.isAgg2
  z2 := Tryz.sizeOf2
  v2 := Tryz.zeroValue2
  t3 := Tryz.underlying3
  a3 := Tryz.isAgg3
  z3 := Tryz.sizeOf3
  v3 := Tryz.zeroValue3
  t4 := Tryz.underlying4
  a4 := Tryz.isAgg4
  z4 := Tryz.sizeOf4
  v4 := Tryz.zeroValue4
  t5 := Tryz.underlying5
  a5 := Tryz.isAgg5
  z5 := Tryz.sizeOf5
  v5 := Tryz.zeroValue5
  t9 := Tryz.underlying9
  a9 := Tryz.isAgg9
  z9 := Tryz.sizeOf9
  v9 := Tryz.zeroValue9
  t20 := Tryz.underlying20
  a20 := Tryz.isAgg20
  z20 := Tryz.sizeOf20
  v20 := Tryz.zeroValue20
  t21 := Tryz.underlying21
  a21 := Tryz.isAgg21
  z21 := Tryz.sizeOf21
  v21 := Tryz.zeroValue21
  t37 := Tryz.underlying32
  a37 := Tryz.isAgg32
  z37 := Tryz.sizeOf32
  v37 := Tryz.zeroValue32
  t46 := Tryz.underlying58
  a46 := Tryz.isAgg58
  z46 := Tryz.sizeOf58
  v46 := Tryz.zeroValue58
  t51 := Tryz.underlying164
  a51 := Tryz.isAgg164
  z51 := Tryz.sizeOf164
  v51 := Tryz.zeroValue164
  t53 := Tryz.underlying109
  a53 := Tryz.isAgg109
  z53 := Tryz.sizeOf109
  v53 := Tryz.zeroValue109
  t75 := Tryz.underlying95
  a75 := Tryz.isAgg95
  z75 := Tryz.sizeOf95
  v75 := Tryz.zeroValue95
  t85 := Tryz.underlying152
  a85 := Tryz.isAgg152
  z85 := Tryz.sizeOf152
  v85 := Tryz.zeroValue152
  t127 := Tryz.underlying131
  a127 := Tryz.isAgg131
  z127 := Tryz.sizeOf131
  v127 := Tryz.zeroValue131
  t143 := Tryz.underlying181
  a143 := Tryz.isAgg181
  z143 := Tryz.sizeOf181
  v143 := Tryz.zeroValue181
  t145 := Tryz.underlying183
  a145 := Tryz.isAgg183
  z145 := Tryz.sizeOf183
  v145 := Tryz.zeroValue183
  t167 := Tryz.underlying167
  a167 := Tryz.isAgg167
  z167 := Tryz.sizeOf167
  v167 := Tryz.zeroValue167
  t168 := Tryz.underlying170
  a168 := Tryz.isAgg170
  z168 := Tryz.sizeOf170
  v168 := Tryz.zeroValue170
  t171 := Tryz.underlying155
  a171 := Tryz.isAgg155
  z171 := Tryz.sizeOf155
  v171 := Tryz.zeroValue155
  t173 := Tryz.underlying158
  a173 := Tryz.isAgg158
  z173 := Tryz.sizeOf158
  v173 := Tryz.zeroValue158
  t175 := Tryz.underlying168
  a175 := Tryz.isAgg168
  z175 := Tryz.sizeOf168
  v175 := Tryz.zeroValue168
  t210 := Tryz.underlying177
  a210 := Tryz.isAgg177
  z210 := Tryz.sizeOf177
  v210 := Tryz.zeroValue177
  t212 := Tryz.underlying163
  a212 := Tryz.isAgg163
  z212 := Tryz.sizeOf163
  v212 := Tryz.zeroValue163
  t213 := Tryz.underlying165
  a213 := Tryz.isAgg165
  z213 := Tryz.sizeOf165
  t232 := Tryz.underlying179
  a232 := Tryz.isAgg179
  z232 := Tryz.sizeOf179
  v232 := Tryz.zeroValue179
  t233 := Tryz.underlying180
  a233 := Tryz.isAgg180
  z233 := Tryz.sizeOf180
  v233 := Tryz.zeroValue180
  g15 := by kernel_rfl
  g16 := by kernel_rfl
  g17 := by kernel_rfl
  g18 := by kernel_rfl
  g19 := by kernel_rfl
  t80 := Tryz.underlying71
  a80 := Tryz.isAgg71
  z80 := Tryz.sizeOf71
  v80 := Tryz.zeroValue71
  i0 := by kernel_rfl
  i2 := by kernel_rfl
  i3 := by kernel_rfl
  i4 := by kernel_rfl
  i5 := by kernel_rfl
  i9 := by kernel_rfl
  i20 := by kernel_rfl
  i21 := by kernel_rfl
  i37 := by kernel_rfl
  i46 := by kernel_rfl
  i51 := by kernel_rfl
  i53 := by kernel_rfl
  i75 := by kernel_rfl
  i80 := by kernel_rfl
  i85 := by kernel_rfl
  i127 := by kernel_rfl
  i143 := by kernel_rfl
  i145 := by kernel_rfl
  i167 := by kernel_rfl
  i168 := by kernel_rfl
  i171 := by kernel_rfl
  i173 := by kernel_rfl
  i175 := by kernel_rfl
  i210 := by kernel_rfl
  i212 := by kernel_rfl
  i232 := by kernel_rfl
  i233 := by kernel_rfl
  m15 := by kernel_rfl
  m16 := by kernel_rfl
  m17 := by kernel_rfl
  m18 := by kernel_rfl
  m19 := by kernel_rfl
  c0 := by kernel_rfl
  c2 := by kernel_rfl
  c3 := by kernel_rfl
  c4 := by kernel_rfl
  c5 := by kernel_rfl
  c9 := by kernel_rfl
  c20 := by kernel_rfl
  c21 := by kernel_rfl
  c37 := by kernel_rfl
  c46 := by kernel_rfl
  c51 := by kernel_rfl
  c53 := by kernel_rfl
  c75 := by kernel_rfl
  c80 := by kernel_rfl
  c85 := by kernel_rfl
  c127 := by kernel_rfl
  c143 := by kernel_rfl
  c145 := by kernel_rfl
  c167 := by kernel_rfl
  c168 := by kernel_rfl
  c171 := by kernel_rfl
  c173 := by kernel_rfl
  c175 := by kernel_rfl
  c210 := by kernel_rfl
  c212 := by kernel_rfl
  c213 := by kernel_rfl
  c232 := by kernel_rfl
  c233 := by kernel_rfl }
end Go.Proofs

/- Numbers' texts, told without a heap: what the shelf's contracts say, in the layer's words. -/
namespace Go.Proofs.YtpfbljkfbjjlkaaGreatDoor
open Go Go.Jq
set_option maxRecDepth 100000
set_option linter.unusedSimpArgs false
theorem gTab : Tryz.prog.globalNamed "internal/strconv.uint64pow10" = some 0 := by kernel_rfl
theorem tabIs {c : Ctx} {m : Mem} {w : World} (h : MR c m w) : Lib.TabIs Tryz.prog w "internal/strconv.uint64pow10" .u64 Lib.pow10Tab := by
  obtain ⟨_, cs, T, f, h1, hcs⟩ := h.tab 0 _ rfl
  have hcs' : cs = (Lib.pow10Tab.map fun z => Value.int .u64 z).toArray := hcs
  unfold Lib.TabIs World.var?
  rw [gTab]
  simp only [Option.bind_some, h1, hcs']
def I64 (n : Int) : Prop := -9223372036854775808 ≤ n ∧ n ≤ 9223372036854775807
theorem nDigits_le : ∀ (k u : Nat), u < 10 ^ (k + 1) → Lib.nDigits u ≤ k + 1
  | 0, u, h => by rw [Lib.nDigits_small (by simpa using h)]; omega
  | k + 1, u, h => by
    by_cases hu : u < 10
    · rw [Lib.nDigits_small hu]; omega
    · rw [Lib.nDigits_big hu]
      have := nDigits_le k (u / 10) (by rw [Nat.pow_succ] at h; omega)
      omega
theorem itoa_len {n : Int} (h : I64 n) : (Lib.itoa n).length ≤ 20 := by
  obtain ⟨h0, h1⟩ := h
  unfold Lib.itoa
  split
  · have := nDigits_le 18 n.natAbs (by simp; omega)
    rw [List.length_cons, Lib.decDigits_length]; omega
  · have := nDigits_le 18 n.toNat (by simp; omega)
    rw [Lib.decDigits_length]; omega
theorem itoa_pos (n : Int) : 1 ≤ (Lib.itoa n).length := by
  unfold Lib.itoa
  split
  · simp
  · rw [Lib.decDigits_length]; exact Lib.nDigits_pos _
theorem fmt_pure {n : Int} (h : I64 n) : Pure Tryz.prog 107 [.d (.int .i64 n), .d (.int .i64 10)] (.d (.str (Lib.itoa n))) := by
  refine pure_of_below fun c w vs hr hM => ?_
  simp only [RelL, Rel, RelD] at hr
  obtain ⟨v1, vs1, rfl, rfl, v2, vs2, rfl, rfl, rfl⟩ := hr
  refine (Tryz.strconv_FormatInt_10 n h.1 h.2 w (tabIs hM)).mono ?_
  rintro e w' ⟨rfl, k, os, rfl⟩
  refine ⟨_, rfl, rfl, rfl, rfl, ?_, fun j hj => ?_, rfl⟩
  · simp [Go.Sort.grow, World.drewN]
  · simp only [Go.Sort.grow, World.drewN]
    exact Array.getElem?_append_left hj
theorem text_pure {n : Int} (h : I64 n) : Pure Tryz.prog 61 [.d (.int .i64 n)] (.d (.str (Lib.itoa n))) := by
  refine acalls_of Tryz.func61 ac61_ok Tryz.ntmps61 Tryz.results61 rfl ?_
  unfold ac61
  refine bwp_seq fun K hK => bwp_region rfl ?_
  simp -implicitDefEqProofs only [go_sem, ↓reduceIte]
  refine hK _ ?_; clear hK
  refine bwp_seq fun K hK => bwp_region rfl ?_
  simp -implicitDefEqProofs only [go_sem, ↓reduceIte]
  refine callK_pure (fmt_pure h) rfl rfl ?_
  simp -implicitDefEqProofs only [go_sem, ↓reduceIte]
  refine hK _ ?_; clear hK
  refine bwp_ret ?_
  simp only [go_sem]
  refine aend_ret _ rfl rfl ⟨?_, rfl⟩
  simp [fget]
end Go.Proofs.YtpfbljkfbjjlkaaGreatDoor

/- The abstract layer: from a row to data. -/
namespace Go.Jq
open Go
inductive Sh where
  | int (k : IntKind)
  | bool
  | str
  | sl (es : List Sh)
mutual
def Fits : Sh → DV → Prop
  | .int k, d => ∃ n, d = .int k n ∧ (Lit.int k n).wf = true
  | .bool, d => ∃ b, d = .bool b
  | .str, d => ∃ s : List UInt8, d = .str s ∧ s.length ≤ maxLen
  | .sl es, d => d = .nsl ∨ ∃ rows : List (List DV), d = .sl rows.length rows.flatten ∧ rows.length ≤ maxLen ∧ ∀ r ∈ rows, FitsL es r
def FitsL : List Sh → List DV → Prop
  | [], ds => ds = []
  | s :: ss, ds => ∃ d r, ds = d :: r ∧ Fits s d ∧ FitsL ss r
end
theorem FitsL.length : ∀ {ss : List Sh} {ds : List DV}, FitsL ss ds → ds.length = ss.length
  | [], _, h => by simp only [FitsL] at h; subst h; rfl
  | s :: ss, _, h => by
    simp only [FitsL] at h
    obtain ⟨d, r, rfl, _, h⟩ := h
    simp [FitsL.length h]
theorem FitsL.append : ∀ {ss ss' : List Sh} {ds ds' : List DV}, FitsL ss ds → FitsL ss' ds' → FitsL (ss ++ ss') (ds ++ ds')
  | [], _, _, _, h, h' => by simp only [FitsL] at h; subst h; simpa using h'
  | s :: ss, _, _, _, h, h' => by
    simp only [FitsL] at h
    obtain ⟨d, r, rfl, hd, h⟩ := h
    simp only [List.cons_append, FitsL]
    exact ⟨d, _, rfl, hd, FitsL.append h h'⟩
def shFs (P : Program) (f : TypeId → Option (List Sh)) : List Field → Nat → Option (List Sh)
  | [], _ => some []
  | fd :: r, acc => match f fd.type with
    | some s => if fd.offset = acc ∧ P.cellsOf fd.type = s.length then (shFs P f r (acc + s.length)).map (s ++ ·) else none
    | none => none
def shOf (P : Program) : Nat → TypeId → Option (List Sh)
  | 0, _ => none
  | k + 1, t => match P.underlying t with
    | some .bool => some [.bool]
    | some (.int q) => some [.int q]
    | some .string => some [.str]
    | some (.slice e) => match shOf P k e with
      | some es => if es.length = P.cellsOf e ∧ es.length ≠ 0 then some [.sl es] else none
      | none => none
    | some (.struct fs) => match shFs P (shOf P k) fs.toList 0 with
      | some ss => if ss.length = P.cellsOf t then some ss else none
      | none => none
    | some (.array n e) => match shOf P k e with
      | some es => if es.length = P.cellsOf e ∧ n * es.length = P.cellsOf t then some (List.replicate n es).flatten else none
      | none => none
    | _ => none
def RelDL (I : Nat → Prop) (w : World) : List DV → List Value → Prop
  | [], vs => vs = []
  | d :: ds, vs => ∃ v r, vs = v :: r ∧ RelD I w d v ∧ RelDL I w ds r
section
variable {I : Nat → Prop} {w : World}
theorem RelDL.append : ∀ {ds ds' : List DV} {vs vs' : List Value}, RelDL I w ds vs → RelDL I w ds' vs' → RelDL I w (ds ++ ds') (vs ++ vs')
  | [], _, _, _, h, h' => by simp only [RelDL] at h; subst h; simpa using h'
  | d :: ds, _, _, _, h, h' => by
    simp only [RelDL] at h
    obtain ⟨v, r, rfl, hd, h⟩ := h
    simp only [List.cons_append, RelDL]
    exact ⟨v, _, rfl, hd, RelDL.append h h'⟩
theorem RelDL.get : ∀ {ds : List DV} {vs : List Value}, RelDL I w ds vs → ∀ (i : Nat) (d : DV), ds[i]? = some d → ∃ v, vs[i]? = some v ∧ RelD I w d v
  | [], _, _, i, d, h => by simp at h
  | x :: ds, _, h, i, d, hi => by
    simp only [RelDL] at h
    obtain ⟨v, r, rfl, hd, h⟩ := h
    cases i with
    | zero => simp at hi; subst hi; exact ⟨v, rfl, hd⟩
    | succ i => simpa using RelDL.get h i d (by simpa using hi)
theorem RelDL.relL {c : Ctx} : ∀ {ds : List DV} {vs : List Value}, RelDL c.imm w ds vs → RelL c w (ds.map .d) vs
  | [], _, h => by simpa [RelDL, RelL] using h
  | d :: ds, _, h => by
    simp only [RelDL] at h
    obtain ⟨v, r, rfl, hd, h⟩ := h
    simp only [List.map_cons, RelL, Rel]
    exact ⟨v, r, rfl, hd, RelDL.relL h⟩
theorem RelDs.append : ∀ {xs ys : List DV} {b o : Nat}, RelDs I w xs b o → RelDs I w ys b (o + xs.length) → RelDs I w (xs ++ ys) b o
  | [], ys, b, o, _, h => by simpa using h
  | x :: xs, ys, b, o, h, h' => by
    simp only [List.cons_append, RelDs] at h ⊢
    refine ⟨h.1, RelDs.append h.2 ?_⟩
    rw [List.length_cons] at h'
    rw [show o + 1 + xs.length = o + (xs.length + 1) by omega]
    exact h'
theorem RelDs.flatten {k b o : Nat} : ∀ {rows : List (List DV)} {i0 : Nat}, (∀ r ∈ rows, r.length = k) → (∀ (i : Nat) (r : List DV), rows[i]? = some r → RelDs I w r b (o + (i0 + i) * k)) → RelDs I w rows.flatten b (o + i0 * k)
  | [], _, _, _ => by simp [RelDs]
  | r :: rows, i0, hk, h => by
    rw [List.flatten_cons]
    refine RelDs.append (by simpa using h 0 r rfl) ?_
    have := RelDs.flatten (k := k) (b := b) (o := o) (rows := rows) (i0 := i0 + 1) (fun r hr => hk r (List.mem_cons_of_mem _ hr)) fun i r' hi => by
      have := h (i + 1) r' (by simpa using hi)
      rwa [show i0 + 1 + i = i0 + (i + 1) by omega]
    rw [hk r List.mem_cons_self]
    rwa [Nat.succ_mul, ← Nat.add_assoc] at this
theorem list_of {α : Type} {p : Nat → α → Prop} : ∀ (n : Nat), (∀ i, i < n → ∃ y, p i y) → ∃ l : List α, l.length = n ∧ ∀ i y, l[i]? = some y → p i y
  | 0, _ => ⟨[], rfl, fun i y h => by simp at h⟩
  | n + 1, h => by
    obtain ⟨l, hl, hp⟩ := list_of n fun i hi => h i (by omega)
    obtain ⟨y, hy⟩ := h n (by omega)
    refine ⟨l ++ [y], by simp [hl], fun i z hz => ?_⟩
    rcases Nat.lt_or_ge i n with h1 | h1
    · rw [List.getElem?_append_left (by omega)] at hz; exact hp i z hz
    · rw [List.getElem?_append_right (by omega)] at hz
      have h2 : i - l.length = 0 := by
        rcases Nat.eq_zero_or_pos (i - l.length) with h3 | h3
        · exact h3
        · rw [List.getElem?_eq_none (by simp; omega)] at hz; cases hz
      rw [h2] at hz
      simp at hz
      subst hz
      have : i = n := by omega
      subst this
      exact hy
end
end Go.Jq
namespace Go.Jq
open Go
section
variable {H : Type} {enc : TypeId × Value → H} {P : Program} {w : World} {base : Nat} {spare : Nat → Bool} {held : Bool} {I : Nat → Prop} (hI : ∀ b, b < w.heap.size → I b)
theorem cells_get {a : Addr} {n : Nat} {cs : List Value} (h : w.cells? base a n = some cs) : cs.length = n ∧ ∀ i, i < n → w.cell? (a.add i) = cs[i]? := by
  unfold World.cells? at h
  split at h
  · exact ⟨by simpa using mapM_some_length h, fun i hi => mapM_some_get h i i (by simp [hi])⟩
  · cases h
theorem cell_lt {a : Addr} {v : Value} (h : w.cell? a = some v) : a.block < w.heap.size ∧ a.spot = none := by
  unfold World.cell? at h
  split at h
  · rename_i c T f hb
    refine ⟨?_, ?_⟩
    · rcases Nat.lt_or_ge a.block w.heap.size with h1 | h1
      · exact h1
      · rw [Array.getElem?_eq_none h1] at hb; cases hb
    · split at h
      · cases h
      · rename_i hs; simpa using hs
  · cases h
theorem shFs_trod {f : TypeId → Option (List Sh)} {g : TypeId → List Value → Option (DataW H × List MemPlace)} (hfg : ∀ t ss cs x, f t = some ss → g t cs = some x → ∃ ds, FitsL ss ds ∧ RelDL I w ds cs) (cs : List Value) :
    ∀ (fs : List Field) (acc : Nat) (ss : List Sh), shFs P f fs acc = some ss → acc + ss.length = cs.length → (∀ fd ∈ fs, ∃ x, g fd.type ((cs.drop fd.offset).take (P.cellsOf fd.type)) = some x) → ∃ ds, FitsL ss ds ∧ RelDL I w ds (cs.drop acc)
  | [], acc, ss, h, hl, _ => by
    simp only [shFs, Option.some.injEq] at h
    subst h
    exact ⟨[], rfl, by simp only [RelDL]; exact List.drop_eq_nil_of_le (by simpa using Nat.le_of_eq hl.symm)⟩
  | fd :: fs, acc, ss, h, hl, hx => by
    simp only [shFs] at h
    split at h
    · rename_i s hs
      split at h
      · rename_i hc
        rw [Option.map_eq_some_iff] at h
        obtain ⟨r, hr, rfl⟩ := h
        obtain ⟨x, hx1⟩ := hx fd List.mem_cons_self
        obtain ⟨ds, h1, h2⟩ := hfg _ _ _ _ hs hx1
        obtain ⟨ds', h3, h4⟩ := shFs_trod hfg cs fs (acc + s.length) r hr (by simp at hl; omega) fun fd' h => hx fd' (List.mem_cons_of_mem _ h)
        refine ⟨ds ++ ds', h1.append h3, ?_⟩
        have h5 := h2.append h4
        rw [hc.1, hc.2, ← List.drop_drop, List.take_append_drop] at h5
        exact h5
      · cases h
    · cases h
include hI in
theorem trod_rel : ∀ (k : Nat) (t : TypeId) (ss : List Sh) (fuel : Nat) (cs : List Value) (x : DataW H × List MemPlace), shOf P k t = some ss → DataW.trod enc P w base spare held fuel t cs = some x → ∃ ds, FitsL ss ds ∧ RelDL I w ds cs
  | 0, _, _, _, _, _, h, _ => by simp [shOf] at h
  | k + 1, t, ss, fuel, cs, x, h, hx => by
    simp only [shOf] at h
    split at h
    · rename_i hu
      cases h
      obtain ⟨b, rfl, _⟩ := DataW.trod_bool hu hx
      exact ⟨[.bool b], by simp only [FitsL, Fits]; exact ⟨_, _, rfl, ⟨b, rfl⟩, rfl⟩, by simp [RelDL, RelD]⟩
    · rename_i q hu
      cases h
      obtain ⟨n, rfl, _, hw⟩ := DataW.trod_int hu hx
      exact ⟨[.int q n], by simp only [FitsL, Fits]; exact ⟨_, _, rfl, ⟨n, rfl, hw⟩, rfl⟩, by simp [RelDL, RelD]⟩
    · rename_i hu
      cases h
      obtain ⟨s, rfl, _, hw⟩ := DataW.trod_string hu hx
      exact ⟨[.str s.data.toList], by simp only [FitsL, Fits]; exact ⟨_, _, rfl, ⟨_, rfl, by simpa using hw⟩, rfl⟩, by simp [RelDL, RelD]⟩
    · rename_i e hu
      split at h
      · rename_i es hes
        split at h
        · rename_i hc
          cases h
          obtain ⟨hlen, hne⟩ := hc
          rcases DataW.trod_slice hu hx with ⟨rfl, _⟩ | ⟨a, len, cap, elems, rest, n, _, rfl, _, hb, hl, hm, hel, hcell, _⟩
          · exact ⟨[.nsl], by simp only [FitsL, Fits]; exact ⟨_, _, rfl, .inl rfl, rfl⟩, by simp [RelDL, RelD]⟩
          · have each : ∀ i, i < len → ∃ r : List DV, ∃ csi, w.cells? base (a.add (i * P.cellsOf e)) (P.cellsOf e) = some csi ∧ FitsL es r ∧ RelDL I w r csi := by
              intro i hi
              have h1 := hcell i hi
              rw [List.getElem?_eq_getElem (by omega), Option.bind_eq_some_iff] at h1
              obtain ⟨csi, h2, h3⟩ := h1
              obtain ⟨r, h4, h5⟩ := trod_rel k e es n csi _ hes h3
              exact ⟨r, csi, h2, h4, h5⟩
            obtain ⟨rows, hrl, hrows⟩ := list_of len each
            have hfit : ∀ r ∈ rows, FitsL es r := fun r hr => by
              obtain ⟨i, hi⟩ := List.mem_iff_getElem?.1 hr
              obtain ⟨_, _, h2, _⟩ := hrows i r hi
              exact h2
            refine ⟨[.sl rows.length rows.flatten], by simp only [FitsL, Fits]; exact ⟨_, _, rfl, .inr ⟨rows, rfl, by omega, hfit⟩, rfl⟩, ?_⟩
            simp only [RelDL, RelD]
            refine ⟨_, _, rfl, ⟨some a, cap, by rw [hrl], by omega, ?_⟩, rfl⟩
            rcases Nat.eq_zero_or_pos len with h0 | h0
            · have : rows = [] := List.eq_nil_of_length_eq_zero (by omega)
              subst this
              exact .inl ⟨rfl, rfl⟩
            · right
              have hr0 : rows[0]? = some rows[0] := List.getElem?_eq_getElem (by omega)
              obtain ⟨cs0, h1, h2, h3⟩ := hrows 0 _ hr0
              obtain ⟨hl0, hg0⟩ := cells_get h1
              have hpos : 0 < P.cellsOf e := by omega
              have hc0 : ∃ v, w.cell? a = some v := by
                have := hg0 0 hpos
                rw [List.getElem?_eq_getElem (by omega)] at this
                have e1 : (a.add (0 * P.cellsOf e)).add 0 = a := by simp [Addr.add]
                rw [e1] at this
                exact ⟨_, this⟩
              obtain ⟨v, hv⟩ := hc0
              obtain ⟨hlt, hsp⟩ := cell_lt hv
              obtain ⟨ab, ao, asp⟩ := a
              simp only at hlt hsp
              subst hsp
              refine ⟨ab, ao, rfl, hI ab hlt, ?_⟩
              have := RelDs.flatten (I := I) (w := w) (k := es.length) (b := ab) (o := ao) (rows := rows) (i0 := 0) (fun r hr => (hfit r hr).length) fun i r hi => by
                obtain ⟨csi, h4, h5, h6⟩ := hrows i r hi
                obtain ⟨_, hg⟩ := cells_get h4
                refine RelDs.of_get fun j d hj => ?_
                obtain ⟨v, hv, hr⟩ := h6.get j d hj
                have hjl : j < P.cellsOf e := by
                  have := (List.getElem?_eq_some_iff.1 hj).1
                  rw [h5.length] at this
                  omega
                refine ⟨v, ?_, hr⟩
                have := hg j hjl
                rw [hv, addr_add, addr_add] at this
                rw [Nat.zero_add, hlen]
                exact this
              simpa using this
        · cases h
      · cases h
    · rename_i fs hu
      split at h
      · rename_i ss' hss
        split at h
        · rename_i hc
          cases h
          obtain ⟨xs, n, _, _, hcl, hxl, hget⟩ := DataW.trod_struct hu hx
          have := shFs_trod (P := P) (I := I) (w := w) (f := shOf P k) (g := fun t cs => DataW.trod enc P w base spare held n t cs) (fun t ss cs x h1 h2 => trod_rel k t ss n cs x h1 h2) cs fs.toList 0 ss hss (by omega) fun fd hfd => by
            obtain ⟨i, hi⟩ := List.mem_iff_getElem?.1 hfd
            rw [Array.getElem?_toList] at hi
            have h1 := hget i fd hi
            have h2 : i < fs.size := (Array.getElem?_eq_some_iff.1 hi).1
            rw [List.getElem?_eq_getElem (by omega)] at h1
            exact ⟨_, h1⟩
          simpa using this
        · cases h
      · cases h
    · rename_i n e hu
      split at h
      · rename_i es hes
        split at h
        · rename_i hc
          cases h
          obtain ⟨xs, m, _, _, hcl, hxl, hget⟩ := DataW.trod_array hu hx
          have key : ∀ q, q ≤ n → ∃ ds, FitsL (List.replicate q es).flatten ds ∧ RelDL I w ds (cs.take (q * es.length)) := by
            intro q
            induction q with
            | zero => intro _; exact ⟨[], by simp [FitsL], by simp [RelDL]⟩
            | succ q ih =>
              intro hq
              obtain ⟨ds, h1, h2⟩ := ih (by omega)
              have h3 := hget q (by omega)
              rw [List.getElem?_eq_getElem (by omega)] at h3
              obtain ⟨ds', h4, h5⟩ := trod_rel k e es m _ _ hes h3
              refine ⟨ds ++ ds', ?_, ?_⟩
              · rw [List.replicate_succ', List.flatten_append]
                simpa using h1.append h4
              · have := h2.append h5
                rw [← hc.1] at this
                rw [Nat.succ_mul, List.take_add]
                exact this
          obtain ⟨ds, h1, h2⟩ := key n (Nat.le_refl _)
          exact ⟨ds, h1, by rwa [List.take_of_length_le (by omega)] at h2⟩
        · cases h
      · cases h
    · cases h
end
end Go.Jq
namespace Go.Jq
open Go Go.RowKit Go.ChangeAt Go.ChangeShapes Go.WideShapes
def ctx0 (w : World) : Ctx := ⟨fun _ => .free, fun b => b < w.heap.size⟩
theorem calls_of_pure {P : Program} {f : Nat} {args : List AV} (h : Pure P f args (.d (.bool true))) {w : World} {vs : List Value} (hr : RelL (ctx0 w) w args vs)
    (htab : ∀ g Φ, tabC g = some Φ → ∃ cs T f, w.heap[g]? = some (.cells cs T f) ∧ Φ cs := by intro g Φ h; simp [tabC] at h) :
    Calls P f vs.toArray w fun e w' => e = .returned (.bool true) ∧ Below w.heap.size w w' := by
  have hM : MR (ctx0 w) [] w := ⟨fun id cells h => by simp [mget] at h, fun id id' b h => by simp [mget] at h, fun b hb => hb, fun g Φ hg => by
    obtain ⟨cs, T, f, h1, h2⟩ := htab g Φ hg
    exact ⟨(Array.getElem?_eq_some_iff.1 h1).1, cs, T, f, h1, h2⟩⟩
  refine (h (ctx0 w) w vs hr hM fun id _ => rfl).mono ?_
  rintro e w' ⟨v, r, m', c', rfl, ⟨rfl, rfl⟩, hrel, _, hs, _⟩
  simp only [Rel, RelD] at hrel
  subst hrel
  exact ⟨rfl, hs.os, hs.tape, hs.output, hs.size, fun b hb => hs.keep b hb fun ⟨id, h1, _⟩ => by simp [mget] at h1⟩
section
variable {H : Type} {enc : TypeId × Value → H} {P : Program} {w : World} {base : Nat} {spare : Nat → Bool} {held : Bool} {t : TypeId} {v : Value} {d : DataW H} {p : List MemPlace}
theorem arg_struct {k : Nat} {ss : List Sh} {fs : Array Field} (hs : shOf P k t = some ss) (hu : P.underlying t = some (.struct fs)) {b0 : Nat} (hok : Value.okWide P w .any b0 t v) (h : DataW.Trod enc P w base spare held t v d p) :
    ∃ ds, FitsL ss ds ∧ Rel (ctx0 w) w (.agg (ds.map .d)) v := by
  obtain ⟨fuel, hf⟩ := h
  obtain ⟨ds, h1, h2⟩ := trod_rel (I := (ctx0 w).imm) (fun b hb => hb) k t ss fuel _ _ hs hf
  unfold Value.okWide at hok
  rw [hu] at hok
  obtain ⟨cs, rfl, _⟩ := hok
  refine ⟨ds, h1, ?_⟩
  simp only [Rel]
  exact ⟨cs.toList, by simp, h2.relL⟩
theorem arg_one {k : Nat} {s : Sh} (hs : shOf P k t = some [s]) (hv : v.cells = #[v]) (h : DataW.Trod enc P w base spare held t v d p) : ∃ x, Fits s x ∧ Rel (ctx0 w) w (.d x) v := by
  obtain ⟨fuel, hf⟩ := h
  obtain ⟨ds, h1, h2⟩ := trod_rel (I := (ctx0 w).imm) (fun b hb => hb) k t [s] fuel _ _ hs hf
  simp only [FitsL] at h1
  obtain ⟨x, r, rfl, h3, rfl⟩ := h1
  rw [hv] at h2
  simp only [RelDL, List.cons.injEq] at h2
  obtain ⟨u, r, ⟨h4, _⟩, h5, _⟩ := h2
  subst h4
  exact ⟨x, h3, by simp only [Rel]; exact h5⟩
end
end Go.Jq
namespace Go.Jq
open Go
theorem rows_of {α : Type} {enc : α → List DV} {p : α → Prop} {es : List Sh} (hrow : ∀ r, FitsL es r → ∃ a, p a ∧ r = enc a) : ∀ rows : List (List DV), (∀ r ∈ rows, FitsL es r) → ∃ l : List α, l.length = rows.length ∧ (∀ a ∈ l, p a) ∧ rows.flatten = l.flatMap enc
  | [], _ => ⟨[], rfl, by simp, rfl⟩
  | r :: rows, h => by
    obtain ⟨l, h1, h2, h3⟩ := rows_of hrow rows fun r hr => h r (List.mem_cons_of_mem _ hr)
    obtain ⟨a, ha, rfl⟩ := hrow r (h r List.mem_cons_self)
    refine ⟨a :: l, by simp [h1], ?_, by simp [h3]⟩
    intro b hb
    rcases List.mem_cons.1 hb with rfl | hb
    · exact ha
    · exact h2 b hb
theorem fits_sl {α : Type} {enc : α → List DV} {p : α → Prop} {es : List Sh} (hrow : ∀ r, FitsL es r → ∃ a, p a ∧ r = enc a) {d : DV} (h : Fits (.sl es) d) : ∃ l : List α, (∀ a ∈ l, p a) ∧ IsSl enc l d := by
  simp only [Fits] at h
  rcases h with rfl | ⟨rows, rfl, hm, hr⟩
  · exact ⟨[], by simp, by simp, .inl ⟨rfl, rfl⟩⟩
  · obtain ⟨l, h1, h2, h3⟩ := rows_of hrow rows hr
    have : maxLen = 9223372036854775807 := rfl
    exact ⟨l, h2, by omega, .inr (by rw [h3, h1])⟩
theorem sls_of {α : Type} {enc : α → List DV} {p : α → Prop} : ∀ {ds : List DV}, (∀ d ∈ ds, ∃ l : List α, (∀ a ∈ l, p a) ∧ IsSl enc l d) → ∃ ls : List (List α), (∀ l ∈ ls, ∀ a ∈ l, p a) ∧ IsSls enc ls ds
  | [], _ => ⟨[], by simp, trivial⟩
  | d :: ds, h => by
    obtain ⟨l, h1, h2⟩ := h d List.mem_cons_self
    obtain ⟨ls, h3, h4⟩ := sls_of fun d hd => h d (List.mem_cons_of_mem _ hd)
    refine ⟨l :: ls, ?_, h2, h4⟩
    intro b hb
    rcases List.mem_cons.1 hb with rfl | hb
    · exact h1
    · exact h3 b hb
theorem fits_sl2 {α : Type} {enc : α → List DV} {p : α → Prop} {es : List Sh} (hrow : ∀ r, FitsL es r → ∃ a, p a ∧ r = enc a) {d : DV} (h : Fits (.sl [.sl es]) d) : ∃ ls : List (List α), (∀ l ∈ ls, ∀ a ∈ l, p a) ∧ IsSl2 enc ls d := by
  obtain ⟨ds, hp, hd⟩ := fits_sl (α := DV) (enc := fun d => [d]) (p := fun d => ∃ l : List α, (∀ a ∈ l, p a) ∧ IsSl enc l d) (es := [.sl es]) (fun r hr => by
    simp only [FitsL] at hr
    obtain ⟨d, r', rfl, h1, rfl⟩ := hr
    exact ⟨d, fits_sl hrow h1, rfl⟩) h
  obtain ⟨ls, h1, h2⟩ := sls_of hp
  exact ⟨ls, h1, ds, hd, h2⟩
def i64R (n : Int) : Prop := -9223372036854775808 ≤ n ∧ n ≤ 9223372036854775807
theorem wf_i64 {n : Int} (h : (Lit.int .i64 n).wf = true) : i64R n := by
  have e1 : IntKind.i64.min = -9223372036854775808 := rfl
  have e2 : IntKind.i64.max = 9223372036854775807 := rfl
  simp only [Lit.wf, e1, e2, Bool.and_eq_true, decide_eq_true_eq] at h
  exact h
end Go.Jq
namespace Go.Jq
open Go Go.ChangeShapes
section
variable {H : Type} {enc : TypeId × Value → H} {P : Program} {w : World} {base : Nat} {spare : Nat → Bool} {held : Bool}
end
end Go.Jq

/- What the listed tables give the calls. -/
namespace Go.Proofs.YtpfbljkfbjjlkaaGreatDoor
open Go Go.Jq Go.ChangeShapes Go.WideShapes Go.ChangeAt Go.RowKit
set_option linter.unusedVariables false
theorem own : ownKnob Tryz.prog.godebug = none := by kernel_rfl
theorem laidOut : laidOutB Tryz.prog = true := by kernel_rfl
def laidL : List (String × DataW Unit) := [("math/bits.deBruijn32tab", Rows.laid_math_bits_deBruijn32tab), ("math/bits.deBruijn64tab", Rows.laid_math_bits_deBruijn64tab), ("internal/strconv.uint64pow10", Rows.laid_internal_strconv_uint64pow10), ("strconv.ErrRange", Rows.laid_strconv_ErrRange), ("strconv.ErrSyntax", Rows.laid_strconv_ErrSyntax)]
theorem door_met (os : Os) (args : Array Value) : laidMetH Tryz.prog laidL ((World.doorLaid Tryz.prog 400 os).forCall (fun _ _ => 0) ⟨#[], args, []⟩).memory :=
  laidMetH_of_parts3 (fuel := 8) (laidMet_of_run' 8 (by kernel_rfl) (by kernel_rfl)) (by kernel_rfl) (by kernel_rfl)
theorem fits_str {d : DV} (h : Fits .str d) : ∃ s : List UInt8, d = .str s ∧ s.length ≤ maxLen := by simpa only [Fits] using h
theorem err_iface : ∃ ms, Tryz.prog.underlying 95 = some (.interface ms) := by
  have h : (match Tryz.prog.underlying 95 with | some (.interface _) => true | _ => false) = true := by kernel_rfl
  split at h
  · rename_i ms hms
    exact ⟨ms, hms⟩
  · cases h
set_option maxRecDepth 100000 in
theorem tab_of_laid {W : World} (h : laidMetH Tryz.prog laidL W) : ∀ g Φ, tabC g = some Φ → ∃ cs T f, W.heap[g]? = some (.cells cs T f) ∧ Φ cs := by
  rw [MakeChecks.laidMetH_plain _ _ _ (by kernel_rfl)] at h
  obtain ⟨ps, ⟨g0, t0, cs0, f0, p0, q0, hg0, ht0, hv0, hd0, ⟨g1, t1, cs1, f1, p1, q1, hg1, ht1, hv1, hd1, ⟨g2, t2, cs2, f2, p2, q2, hg2, ht2, hv2, hd2, ⟨g3, t3, cs3, f3, p3, q3, hg3, ht3, hv3, hd3, ⟨g4, t4, cs4, f4, p4, q4, hg4, ht4, hv4, hd4, _, _⟩, _⟩, _⟩, _⟩, _⟩, _, _⟩ := h
  obtain rfl := Option.some.inj (gTab.symm.trans hg2)
  have gR : Tryz.prog.globalNamed "strconv.ErrRange" = some 3 := by kernel_rfl
  have gS : Tryz.prog.globalNamed "strconv.ErrSyntax" = some 2 := by kernel_rfl
  obtain rfl := Option.some.inj (gR.symm.trans hg3)
  obtain rfl := Option.some.inj (gS.symm.trans hg4)
  have hty : (Tryz.prog.globals[0]?).map (·.type) = some 163 := by kernel_rfl
  have ty1 : (Tryz.prog.globals[2]?).map (·.type) = some 95 := by kernel_rfl
  have ty2 : (Tryz.prog.globals[3]?).map (·.type) = some 95 := by kernel_rfl
  obtain rfl := Option.some.inj (hty.symm.trans ht2)
  obtain rfl := Option.some.inj (ty2.symm.trans ht3)
  obtain rfl := Option.some.inj (ty1.symm.trans ht4)
  obtain ⟨ms, hms⟩ := err_iface
  obtain ⟨_, u3, v3, hc3, _⟩ := iface_of_trod hms hd3
  obtain ⟨_, u4, v4, hc4, _⟩ := iface_of_trod hms hd4
  have hcs := Lib.cells_of_tab (n := 20) (e := 109) (k := .u64) (zs := Lib.pow10Tab) (by kernel_rfl) (by kernel_rfl) (by kernel_rfl) (by kernel_rfl) hd2
  unfold World.var? at hv2 hv3 hv4
  rw [gTab] at hv2
  rw [gR] at hv3
  rw [gS] at hv4
  simp only [Option.bind_some] at hv2 hv3 hv4
  have row : ∀ {b : Nat} {cs : Array Value}, (match W.heap[b]? with | some (Obj.cells cs _ _) => some cs | _ => none) = some cs → ∃ T f, W.heap[b]? = some (.cells cs T f) := by
    intro b cs h
    split at h
    · rename_i c T f hc
      obtain rfl := Option.some.inj h
      exact ⟨T, f, hc⟩
    · cases h
  obtain ⟨T2, f2', r2⟩ := row hv2
  obtain ⟨T3, f3', r3⟩ := row hv3
  obtain ⟨T4, f4', r4⟩ := row hv4
  intro g Φ hg
  simp only [tabC] at hg
  split at hg
  · rename_i h0
    subst h0
    refine ⟨_, _, _, r2, ?_⟩
    obtain rfl := Option.some.inj hg
    show cs2 = _
    apply Array.ext'
    rw [hcs]
    rfl
  · split at hg
    · rename_i h12
      obtain rfl := Option.some.inj hg
      rcases h12 with rfl | rfl
      · exact ⟨_, _, _, r4, u4, v4, Array.ext' hc4⟩
      · exact ⟨_, _, _, r3, u3, v3, Array.ext' hc3⟩
    · cases hg
end Go.Proofs.YtpfbljkfbjjlkaaGreatDoor

/- num.Parse: in the model's words. -/
namespace Go.Proofs.YtpfbljkfbjjlkaaGreatDoor
open Go Go.Jq Go.RowKit
set_option maxRecDepth 100000
set_option linter.unusedSimpArgs false
theorem bytes_eq {a b : ByteArray} (h : a.data.toList = b.data.toList) : a = b := by
  cases a; cases b
  simp only [Array.toList_inj] at h
  rw [h]
theorem tab_below {w w' : World} (h : Lib.TabIs Tryz.prog w "internal/strconv.uint64pow10" .u64 Lib.pow10Tab) (hb : Below w.heap.size w w') : Lib.TabIs Tryz.prog w' "internal/strconv.uint64pow10" .u64 Lib.pow10Tab := by
  unfold Lib.TabIs World.var? at h ⊢
  rw [gTab] at h ⊢
  simp only [Option.bind_some] at h ⊢
  cases h0 : w.heap[0]? with
  | none => rw [h0] at h; cases h
  | some o =>
    have hlt : 0 < w.heap.size := by
      rcases Nat.lt_or_ge 0 w.heap.size with h' | h'
      · exact h'
      · rw [Array.getElem?_eq_none h'] at h0; cases h0
    rw [hb.block 0 hlt]
    exact h
theorem below_of_grow {w w' : World} {k : Nat} {os : Array Obj} (h : w' = Go.Sort.grow (w.drewN k) os) : Below w.heap.size w w' := by
  subst h
  refine ⟨rfl, rfl, rfl, ?_, fun j hj => ?_⟩
  · simp [Go.Sort.grow, World.drewN]
  · simp only [Go.Sort.grow, World.drewN]
    exact Array.getElem?_append_left hj
set_option maxHeartbeats 2000000 in
theorem calls_text {n : Int} (hn : I64 n) (s : ByteArray) (hs : s.data.toList = Lib.itoa n) (w : World) (htab : Lib.TabIs Tryz.prog w "internal/strconv.uint64pow10" .u64 Lib.pow10Tab) :
    Calls Tryz.prog 61 #[.int .i64 n] w fun e w' => e = .returned (.string s) ∧ Below w.heap.size w w' := by
  have hI := Tryz.strconv_FormatInt_10 n hn.1 hn.2 w htab
  have hs' : (⟨(Lib.itoa n).toArray⟩ : ByteArray) = s := by
    cases s with
    | mk d => cases d with
      | mk l => simp only at hs; rw [hs]
  rw [hs'] at hI
  clear hs hs' htab hn
  go_enter Tryz.func61, Tryz.ntmps61
  go_wp2_with (go_at_call 107; refine hI.mono ?_)
  rintro e W1 ⟨rfl, k, os, hW⟩
  have hb := below_of_grow hW
  clear hW
  go_wp2
  go_ret
  exact ⟨rfl, hb⟩
set_option maxHeartbeats 2000000 in
theorem calls_parse_ok (s : ByteArray) (hmax : s.size ≤ 9223372036854775806) (n : Int) (h : Lib.parseIntB 64 s.data.toList = .ok n) (hn : I64 n) (w : World) (htab : Lib.TabIs Tryz.prog w "internal/strconv.uint64pow10" .u64 Lib.pow10Tab)
    (s' : ByteArray) (hs : s'.data.toList = Lib.itoa n) : Calls Tryz.prog 123 #[.string s] w fun e w' => e = .returned (.tuple #[.int .i64 (if s' = s then n else 0), .bool (decide (s' = s))]) ∧ Below w.heap.size w w' := by
  have hI := Any.strconv_ParseInt_10_at64_ok Tryz.laysC174 s hmax n h w
  have hT : ∀ W1, Below w.heap.size w W1 → Calls Tryz.prog 61 #[.int .i64 n] W1 fun e w' => e = .returned (.string s') ∧ Below W1.heap.size W1 w' := fun W1 hb => calls_text hn s' hs W1 (tab_below htab hb)
  clear h htab hs hn
  go_enter Tryz.func123, Tryz.ntmps123
  go_wp2_with (go_at_call 139; refine hI.mono ?_)
  rintro e W1 ⟨rfl, hW⟩
  have hb1 : Below w.heap.size w W1 := by
    rcases hW with rfl | ⟨t, rfl⟩
    · exact Below.refl _ _
    · exact Lib.bytesWorld_below _ _ _
  have hT1 := hT W1 hb1
  clear hW hT hI
  go_wp2_with (go_at_call 61; refine hT1.mono ?_)
  rintro e W2 ⟨rfl, hb2⟩
  have hb := hb1.trans (hb2.mono hb1.size)
  clear hT1 hb1 hb2
  by_cases hss : s' = s
  · subst hss
    go_wp2
    go_ret2
    simp only [if_true, decide_true]
    exact ⟨rfl, hb⟩
  · have ht : ¬ s'.toList = s.toList := fun e => hss (by
      simp only [ByteArray.toList_eq] at e
      exact bytes_eq e)
    go_wp2
    · go_ret2
      simp only [hss, if_false, decide_false]
      exact ⟨rfl, hb⟩
    · rename_i hx
      exact absurd (by simpa using hx) ht
theorem calls_pint_err (s : ByteArray) (hlim : s.size ≤ 281474976710656) (w : World) (h : Lib.parseIntB 64 s.data.toList = Lib.parseIntB 64 [] ∨ Lib.parseIntB 64 s.data.toList = .range)
    (h1 : ∃ t p, w.cell? ⟨2, 0, none⟩ = some (.iface t p)) (h2 : ∃ t p, w.cell? ⟨3, 0, none⟩ = some (.iface t p)) :
    Calls Tryz.prog 139 #[.string s, .int .i64 10, .int .i64 64] w fun e w' => ∃ v N, e = .returned (.tuple #[.int .i64 v, .iface 170 (.pointer (some ⟨N, 0, none⟩))]) ∧ Below w.heap.size w w' := by
  rcases h with h | h
  · obtain ⟨t, p, hv⟩ := h1
    refine (Any.strconv_ParseInt_10_at64_syntax Tryz.laysC174 s hlim h _ w hv (.inr ⟨t, p, rfl⟩)).mono ?_
    rintro e w' ⟨N, rfl, _, _, hb⟩
    exact ⟨0, N, rfl, hb⟩
  · obtain ⟨t, p, hv⟩ := h2
    refine (Any.strconv_ParseInt_10_at64_range Tryz.laysC174 s hlim h _ w hv (.inr ⟨t, p, rfl⟩)).mono ?_
    rintro e w' ⟨N, rfl, _, _, hb⟩
    exact ⟨_, N, rfl, hb⟩
set_option maxHeartbeats 2000000 in
theorem calls_parse_err (s : ByteArray) (hlim : s.size ≤ 281474976710656) (w : World) (h : Lib.parseIntB 64 s.data.toList = Lib.parseIntB 64 [] ∨ Lib.parseIntB 64 s.data.toList = .range)
    (h1 : ∃ t p, w.cell? ⟨2, 0, none⟩ = some (.iface t p)) (h2 : ∃ t p, w.cell? ⟨3, 0, none⟩ = some (.iface t p)) :
    Calls Tryz.prog 123 #[.string s] w fun e w' => e = .returned (.tuple #[.int .i64 0, .bool false]) ∧ Below w.heap.size w w' := by
  have hI := calls_pint_err s hlim w h h1 h2
  clear h h1 h2
  go_enter Tryz.func123, Tryz.ntmps123
  go_wp2_with (go_at_call 139; refine hI.mono ?_)
  rintro e W1 ⟨v, N, rfl, hb⟩
  go_wp2
  go_ret2
  exact ⟨rfl, hb⟩
def parseW (s : List UInt8) : Int × Bool :=
  match Lib.parseIntB 64 s with
  | .ok n => if Lib.itoa n = s then (n, true) else (0, false)
  | _ => (0, false)
theorem ofItoa (n : Int) : (⟨(Lib.itoa n).toArray⟩ : ByteArray).data.toList = Lib.itoa n := by simp
theorem bytes_mk (s : List UInt8) : (⟨s.toArray⟩ : ByteArray).data.toList = s := by simp
theorem bytes_size (s : List UInt8) : (⟨s.toArray⟩ : ByteArray).size = s.length := by simp [ByteArray.size]
theorem tab_cell {c : Ctx} {m : Mem} {w : World} (h : MR c m w) (g : Nat) (hg : g = 2 ∨ g = 3) : ∃ t p, w.cell? ⟨g, 0, none⟩ = some (.iface t p) := by
  have : ∃ Φ, tabC g = some Φ ∧ ∀ cs, Φ cs → ∃ t p, cs = #[Value.iface t p] := by
    rcases hg with rfl | rfl <;> exact ⟨_, rfl, fun _ h => h⟩
  obtain ⟨Φ, hΦ, hc⟩ := this
  obtain ⟨_, cs, T, f, h1, h2⟩ := h.tab g Φ hΦ
  obtain ⟨t, p, rfl⟩ := hc cs h2
  refine ⟨t, p, ?_⟩
  simp [World.cell?, h1]
theorem parse_pure {s : List UInt8} (h : s.length ≤ 281474976710656) : Pure Tryz.prog 123 [.d (.str s)] (.tup [.d (.int .i64 (parseW s).1), .d (.bool (parseW s).2)]) := by
  refine pure_of_below fun c w vs hr hM => ?_
  simp only [RelL, Rel, RelD] at hr
  obtain ⟨v1, vs1, rfl, rfl, rfl⟩ := hr
  have hs := bytes_mk s
  have hz := bytes_size s
  have key : Calls Tryz.prog 123 #[.string ⟨s.toArray⟩] w fun e w' => e = .returned (.tuple #[.int .i64 (parseW s).1, .bool (parseW s).2]) ∧ Below w.heap.size w w' := by
    have hE := calls_parse_err ⟨s.toArray⟩ (by omega) w
    rw [hs] at hE
    unfold parseW
    rcases hp : Lib.parseIntB 64 s with n | _ | _
    rotate_left
    · exact hE (.inl hp) (tab_cell hM 2 (.inl rfl)) (tab_cell hM 3 (.inr rfl))
    · exact hE (.inr hp) (tab_cell hM 2 (.inl rfl)) (tab_cell hM 3 (.inr rfl))
    · have hn : I64 n := by
        have := Lib.parseIntB_bounds hp
        simp at this
        unfold I64; omega
      have := calls_parse_ok ⟨s.toArray⟩ (by omega) n (by rw [hs]; exact hp) hn w (tabIs hM) ⟨(Lib.itoa n).toArray⟩ (ofItoa n)
      refine this.mono ?_
      rintro e w' ⟨rfl, hb⟩
      refine ⟨?_, hb⟩
      by_cases he : Lib.itoa n = s
      · simp [he]
      · have : ¬ (⟨(Lib.itoa n).toArray⟩ : ByteArray) = ⟨s.toArray⟩ := fun e => he (by have := congrArg (fun b : ByteArray => b.data.toList) e; simpa using this)
        simp [he, this]
  refine key.mono ?_
  rintro e w' ⟨rfl, hb⟩
  exact ⟨_, rfl, hb.os, hb.tape, hb.output, hb.size, fun k hk => hb.block k hk, (by simp [Rel, RelL, RelD])⟩
end Go.Proofs.YtpfbljkfbjjlkaaGreatDoor

/- Whole numbers of 64 bits: plain laws. -/
namespace Go.Proofs.YtpfbljkfbjjlkaaGreatDoor
open Go Go.Jq
set_option maxRecDepth 100000
set_option linter.unusedSimpArgs false
def bv (n : Int) : BitVec 64 := BitVec.ofInt 64 n
theorem wrap_bv (n : Int) : IntKind.i64.wrap n = (bv n).toInt := by
  unfold bv
  rw [BitVec.toInt_ofInt, Int.bmod_def]
  have e1 : (2 : Int) ^ 64 = 18446744073709551616 := rfl
  have e2 : (2 : Int) ^ 63 = 9223372036854775808 := rfl
  simp only [IntKind.wrap, IntKind.signed, IntKind.bits, Bool.true_and, Nat.reduceSub, e1, e2, decide_eq_true_eq, ge_iff_le]
  simp only [Nat.reducePow]
  split <;> split <;> omega
theorem bv_id {n : Int} (h : I64 n) : (bv n).toInt = n := by
  rw [← wrap_bv]
  unfold I64 at h
  have e1 : (2 : Int) ^ 64 = 18446744073709551616 := rfl
  have e2 : (2 : Int) ^ 63 = 9223372036854775808 := rfl
  simp only [IntKind.wrap, IntKind.signed, IntKind.bits, Bool.true_and, Nat.reduceSub, e1, e2, decide_eq_true_eq, ge_iff_le]
  split <;> omega
theorem wrap_id {n : Int} (h : I64 n) : IntKind.i64.wrap n = n := by rw [wrap_bv, bv_id h]
end Go.Proofs.YtpfbljkfbjjlkaaGreatDoor

/- Numbers' texts: plain laws. -/
namespace Go.Proofs.YtpfbljkfbjjlkaaGreatDoor
open Go Go.Jq
set_option maxRecDepth 100000
set_option linter.unusedSimpArgs false
theorem parseUintM_digit (M acc d : Nat) (r : List UInt8) (hd : d < 10) (ha : acc < 1844674407370955162) (hM : acc * 10 + d ≤ M) : Lib.parseUintM M acc (UInt8.ofNat (48 + d) :: r) = Lib.parseUintM M (acc * 10 + d) r := by
  have h1 : (UInt8.ofNat (48 + d)).toNat = 48 + d := by simp; omega
  rw [Lib.parseUintM, h1, if_pos (by omega), if_neg (by omega), if_neg (by omega)]
  congr 1
  omega
theorem parseUintM_dec (u : Nat) : ∀ (r : List UInt8), u ≤ 18446744073709551615 → Lib.parseUintM 18446744073709551615 0 (Lib.decDigits u ++ r) = Lib.parseUintM 18446744073709551615 u r := by
  induction u using Nat.strongRecOn with
  | _ u ih =>
    intro r hu
    by_cases h : u < 10
    · rw [Lib.decDigits_one h]
      have := parseUintM_digit 18446744073709551615 0 u r h (by omega) (by omega)
      simpa using this
    · rw [Lib.decDigits, dif_neg h, List.append_assoc, ih (u / 10) (by omega) _ (by omega), List.singleton_append, parseUintM_digit _ _ _ _ (by omega) (by omega) (by omega)]
      congr 1
      omega
theorem decDigits_ne (u : Nat) : Lib.decDigits u ≠ [] := by
  intro h
  have := Lib.decDigits_length u
  rw [h] at this
  have := Lib.nDigits_pos u
  simp at *
  omega
theorem parseUintB_dec {u : Nat} (hu : u ≤ 18446744073709551615) : Lib.parseUintB 64 (Lib.decDigits u) = .ok u := by
  unfold Lib.parseUintB
  rw [if_neg (decDigits_ne u)]
  have := parseUintM_dec u [] hu
  rw [List.append_nil] at this
  rw [show 2 ^ 64 - 1 = 18446744073709551615 from rfl, this]
  rfl
theorem decDigits_head (u : Nat) : ∃ (d : Nat) (r : List UInt8), Lib.decDigits u = UInt8.ofNat (48 + d) :: r ∧ d < 10 ∧ (d = 0 → u = 0) := by
  induction u using Nat.strongRecOn with
  | _ u ih =>
    by_cases h : u < 10
    · exact ⟨u, [], Lib.decDigits_one h, h, id⟩
    · obtain ⟨d, r, h1, h2, h3⟩ := ih (u / 10) (by omega)
      refine ⟨d, r ++ [UInt8.ofNat (48 + u % 10)], ?_, h2, fun hd => ?_⟩
      · rw [Lib.decDigits, dif_neg h, h1]; rfl
      · have := h3 hd; omega
theorem parse_itoa {n : Int} (h : I64 n) : Lib.parseIntB 64 (Lib.itoa n) = .ok n := by
  obtain ⟨h0, h1⟩ := h
  unfold Lib.itoa
  split
  · rename_i hn
    rw [Lib.parseIntB_minus, parseUintB_dec (by omega)]
    simp only [Lib.signedC]
    rw [if_neg (by simp; omega)]
    congr 1
    omega
  · rename_i hn
    obtain ⟨d, r, hd, hd1, _⟩ := decDigits_head n.toNat
    have hc : (UInt8.ofNat (48 + d)).toNat = 48 + d := by simp; omega
    have hp := parseUintB_dec (u := n.toNat) (by omega)
    rw [hd] at hp ⊢
    rw [Lib.parseIntB_plain _ _ _ (by omega) (by omega), hp]
    simp only [Lib.signlessC]
    rw [if_neg (by simp; omega)]
    congr 1
    omega
theorem parseW_itoa {n : Int} (h : I64 n) : parseW (Lib.itoa n) = (n, true) := by
  unfold parseW
  rw [parse_itoa h]
  simp
theorem parseW_text {s : List UInt8} (h : (parseW s).2 = true) : Lib.itoa (parseW s).1 = s ∧ I64 (parseW s).1 := by
  unfold parseW at h ⊢
  rcases hp : Lib.parseIntB 64 s with n | _ | _
  · rw [hp] at h
    simp only at h ⊢
    split at h
    · rename_i he
      rw [if_pos he]
      refine ⟨he, ?_⟩
      have := Lib.parseIntB_bounds hp
      simp at this
      unfold I64; omega
    · cases h
  · rw [hp] at h; cases h
  · rw [hp] at h; cases h
theorem parseW_no {s : List UInt8} (h : (parseW s).2 = false) : parseW s = (0, false) := by
  unfold parseW at h ⊢
  rcases hp : Lib.parseIntB 64 s with n | _ | _
  · rw [hp] at h
    simp only at h ⊢
    split at h
    · cases h
    · rename_i he
      rw [if_neg he]
  · rfl
  · rfl
theorem parseW_I64 (s : List UInt8) : I64 (parseW s).1 := by
  cases h : (parseW s).2 with
  | true => exact (parseW_text h).2
  | false => rw [parseW_no h]; constructor <;> decide
end Go.Proofs.YtpfbljkfbjjlkaaGreatDoor

/- The abstract layer: guards that hang on a test not yet decided. -/
namespace Go.Jq
open Go
section
variable {P : Program} {dst : Option Nat} {op : AOp} {r : List AOper} {K : St → Prop} {t : Fr} {m : Mem} {n : Nat} {want b : Bool} {acc : List Foot} {ms : List Nat}
theorem gateK_split (h1 : b = true → gateK P dst op r K t m n want (.d (.bool true))) (h0 : b = false → gateK P dst op r K t m n want (.d (.bool false))) : gateK P dst op r K t m n want (.d (.bool b)) := by
  cases b
  · exact h0 rfl
  · exact h1 rfl
theorem dGateK_split (h1 : b = true → dGateK P dst op r acc ms K t m n want (.d (.bool true))) (h0 : b = false → dGateK P dst op r acc ms K t m n want (.d (.bool false))) : dGateK P dst op r acc ms K t m n want (.d (.bool b)) := by
  cases b
  · exact h0 rfl
  · exact h1 rfl
end
theorem take_snoc {α : Type} (l : List α) (i : Nat) (h : i < l.length) : l.take (i + 1) = l.take i ++ [l[i]] := by
  rw [List.take_add_one, List.getElem?_eq_getElem h]; rfl
end Go.Jq

/- The document's numbers' texts. -/
namespace Go.Proofs.YtpfbljkfbjjlkaaGreatDoor
open Go Go.Jq
set_option maxRecDepth 100000
set_option linter.unusedSimpArgs false
end Go.Proofs.YtpfbljkfbjjlkaaGreatDoor

/- The document's numbers of texts. -/
namespace Go.Proofs.YtpfbljkfbjjlkaaGreatDoor
open Go Go.Jq
set_option maxRecDepth 100000
set_option linter.unusedSimpArgs false
def digB (c : UInt8) : Bool := decide (48 ≤ c.toNat) && decide (c.toNat ≤ 57)
def valD (d : List UInt8) : Nat := d.foldl (fun a c => 10 * a + (c.toNat - 48)) 0
theorem valD_snoc (d : List UInt8) (c : UInt8) : valD (d ++ [c]) = 10 * valD d + (c.toNat - 48) := by simp [valD, List.foldl_append]
theorem digB_ofNat {k : Nat} (h : k < 10) : digB (UInt8.ofNat (48 + k)) = true ∧ (UInt8.ofNat (48 + k)).toNat - 48 = k := by
  have h1 : (UInt8.ofNat (48 + k)).toNat = 48 + k := by simp; omega
  unfold digB
  rw [h1]
  simp
  omega
theorem dig_dec (u : Nat) : (Lib.decDigits u).all digB = true ∧ valD (Lib.decDigits u) = u := by
  induction u using Nat.strongRecOn with
  | _ u ih =>
    by_cases h : u < 10
    · rw [Lib.decDigits_one h]
      obtain ⟨h1, h2⟩ := digB_ofNat h
      refine ⟨by rw [List.all_cons, h1]; rfl, ?_⟩
      have := valD_snoc [] (UInt8.ofNat (48 + u))
      rw [List.nil_append] at this
      rw [this, h2]
      simp [valD]
    · obtain ⟨h1, h2⟩ := digB_ofNat (Nat.mod_lt u (by decide : 0 < 10))
      obtain ⟨i1, i2⟩ := ih (u / 10) (by omega)
      rw [Lib.decDigits, dif_neg h]
      refine ⟨by rw [List.all_append, i1, List.all_cons, h1]; rfl, ?_⟩
      rw [valD_snoc, i2, h2]
      omega
end Go.Proofs.YtpfbljkfbjjlkaaGreatDoor

/- Tokens of a text: what they are, in plain words. -/
namespace Go.Proofs.YtpfbljkfbjjlkaaGreatDoor
open Go Go.Jq
set_option maxRecDepth 100000
set_option linter.unusedSimpArgs false
structure Tok where
  kd : Int
  tx : List UInt8
  pl : Nat
  deriving DecidableEq
def Tok.cells (t : Tok) : List DV := [.int .i64 t.kd, .str t.tx, .int .i64 t.pl]
def blankB (c : UInt8) : Bool := c == 32 || c == 9 || c == 10
def letB (c : UInt8) : Bool := decide (97 ≤ c.toNat) && decide (c.toNat ≤ 122)
def alnB (c : UInt8) : Bool := letB c || digB c
def skipN : Bool → List UInt8 → Nat
  | _, [] => 0
  | true, c :: r => 1 + skipN (c != 10) r
  | false, c :: r => if blankB c = true then 1 + skipN false r else if c = 35 then 1 + skipN true r else 0
def skipA (s : List UInt8) (at' : Nat) : Nat := at' + skipN false (s.drop at')
def runL : List UInt8 → Nat
  | [] => 0
  | c :: r => if alnB c = true then 1 + runL r else 0
def ones : List UInt8 := [123, 125, 59, 58, 61, 43, 45, 42, 38, 124, 94, 60]
def signL : List UInt8 → Nat
  | [] => 0
  | c :: r =>
    if (c = 60 ∧ r.head? = some 60) ∨ (c = 62 ∧ r.head? = some 62) ∨ ((c = 61 ∨ c = 33) ∧ r.head? = some 61) then 2
    else if c ∈ ones then 1 else 0
def noTok : Tok := ⟨0, [], 0⟩
def tokAt (a : Nat) : List UInt8 → Tok × Nat × Int
  | [] => (⟨4, [], a⟩, a, 0)
  | c :: r =>
    if letB c = true then (⟨1, c :: r.take (runL r), a⟩, a + (1 + runL r), 0)
    else if digB c = true ∨ (c = 45 ∧ (r.head?.map digB).getD false = true) then
      (if (parseW (c :: r.take (runL r))).2 = true then (⟨2, c :: r.take (runL r), a⟩, a + (1 + runL r), 0) else (noTok, a, 5))
    else if signL (c :: r) = 0 then (noTok, a, 4)
    else (⟨3, (c :: r).take (signL (c :: r)), a⟩, a + signL (c :: r), 0)
def nextW (s : List UInt8) (at' : Nat) : Tok × Nat × Int := tokAt (skipA s at') (s.drop (skipA s at'))
def errAt (s : List UInt8) (at' : Nat) : Nat := if (nextW s at').2.2 = 0 then 0 else skipA s at'
theorem skipN_le : ∀ (b : Bool) (l : List UInt8), skipN b l ≤ l.length
  | _, [] => by simp [skipN]
  | true, c :: r => by have := skipN_le (c != 10) r; simp only [skipN, List.length_cons]; omega
  | false, c :: r => by
    have h1 := skipN_le false r
    have h2 := skipN_le true r
    simp only [skipN, List.length_cons]
    split
    · omega
    · split <;> omega
theorem skipA_le {s : List UInt8} {a : Nat} (h : a ≤ s.length) : skipA s a ≤ s.length := by
  have := skipN_le false (s.drop a)
  rw [List.length_drop] at this
  unfold skipA
  omega
theorem le_skipA (s : List UInt8) (a : Nat) : a ≤ skipA s a := Nat.le_add_right ..
theorem runL_le : ∀ l : List UInt8, runL l ≤ l.length
  | [] => by simp [runL]
  | c :: r => by have := runL_le r; simp only [runL, List.length_cons]; split <;> omega
theorem signL_le : ∀ l : List UInt8, signL l ≤ l.length ∧ signL l ≤ 2
  | [] => by simp [signL]
  | c :: r => by
    rw [signL]
    split
    · rename_i h
      cases r with
      | nil => simp at h
      | cons d r => simp
    · split <;> simp
theorem tokAt_to (a : Nat) (l : List UInt8) : a ≤ (tokAt a l).2.1 ∧ (tokAt a l).2.1 ≤ a + l.length ∧ ((tokAt a l).2.2 = 0 → (tokAt a l).1.kd ≠ 4 → a < (tokAt a l).2.1) := by
  cases l with
  | nil => simp [tokAt]
  | cons c r =>
    have h1 := runL_le r
    have h2 := signL_le (c :: r)
    rw [tokAt]
    simp only [List.length_cons] at h2 ⊢
    split
    · simp only; omega
    · split
      · split
        · simp only; omega
        · simp
      · split
        · simp
        · simp only; omega
theorem nextW_to {s : List UInt8} {a : Nat} (h : a ≤ s.length) : a ≤ (nextW s a).2.1 ∧ (nextW s a).2.1 ≤ s.length ∧ ((nextW s a).2.2 = 0 → (nextW s a).1.kd ≠ 4 → a < (nextW s a).2.1) := by
  have h1 := tokAt_to (skipA s a) (s.drop (skipA s a))
  have h2 := skipA_le h
  have h3 := le_skipA s a
  rw [List.length_drop] at h1
  unfold nextW
  refine ⟨by omega, by omega, fun h4 h5 => ?_⟩
  have := h1.2.2 h4 h5
  omega
theorem tokAt_text (a : Nat) (l : List UInt8) (h : (tokAt a l).2.2 = 0) : (tokAt a l).1.pl = a ∧ (tokAt a l).1.tx = l.take ((tokAt a l).2.1 - a) ∧ (tokAt a l).2.1 = a + (tokAt a l).1.tx.length ∧ ((tokAt a l).1.kd = 4 ↔ l = []) := by
  cases l with
  | nil => simp [tokAt]
  | cons c r =>
    have h1 := runL_le r
    have h2 := signL_le (c :: r)
    rw [tokAt] at h ⊢
    split
    · simp [Nat.add_sub_cancel_left, Nat.add_comm 1]; omega
    · rename_i hc
      rw [if_neg hc] at h
      split
      · rename_i hd
        rw [if_pos hd] at h
        split
        · simp [Nat.add_sub_cancel_left, Nat.add_comm 1]; omega
        · rename_i hp
          rw [if_neg hp] at h
          cases h
      · rename_i hd
        rw [if_neg hd] at h
        split
        · rename_i hs
          rw [if_pos hs] at h
          cases h
        · simp only [List.length_cons] at h2; simp [Nat.add_sub_cancel_left]; omega
end Go.Proofs.YtpfbljkfbjjlkaaGreatDoor

/- Tokens of a text: plain laws. -/
namespace Go.Proofs.YtpfbljkfbjjlkaaGreatDoor
open Go Go.Jq
set_option maxRecDepth 100000
set_option linter.unusedSimpArgs false
def heads (c : UInt8) : Prop := blankB c = false ∧ c ≠ 35
theorem skip_zero {c : UInt8} (r : List UInt8) (h : heads c) : skipN false (c :: r) = 0 := by
  simp [skipN, h.1, h.2]
theorem let_heads {c : UInt8} (h : letB c = true) : heads c := by
  simp only [letB, Bool.and_eq_true, decide_eq_true_eq] at h
  constructor
  · simp only [blankB, Bool.or_eq_false_iff, beq_eq_false_iff_ne]
    refine ⟨⟨?_, ?_⟩, ?_⟩ <;> (rintro rfl; simp at h)
  · rintro rfl; simp at h
theorem dig_heads {c : UInt8} (h : digB c = true) : heads c := by
  simp only [digB, Bool.and_eq_true, decide_eq_true_eq] at h
  constructor
  · simp only [blankB, Bool.or_eq_false_iff, beq_eq_false_iff_ne]
    refine ⟨⟨?_, ?_⟩, ?_⟩ <;> (rintro rfl; simp at h)
  · rintro rfl; simp at h
end Go.Proofs.YtpfbljkfbjjlkaaGreatDoor

/- Tokens with blanks between: plain laws. -/
namespace Go.Proofs.YtpfbljkfbjjlkaaGreatDoor
open Go Go.Jq
set_option maxRecDepth 100000
set_option linter.unusedSimpArgs false
end Go.Proofs.YtpfbljkfbjjlkaaGreatDoor

/- Rows of tokens: plain laws. -/
namespace Go.Proofs.YtpfbljkfbjjlkaaGreatDoor
open Go Go.Jq
set_option maxRecDepth 100000
set_option linter.unusedSimpArgs false
def TL (s : List UInt8) : Nat → List Tok → Prop
  | _, [] => False
  | a, t :: r => ∃ e, nextW s a = (t, e, 0) ∧ (if t.kd = 4 then r = [] else TL s e r)
theorem next_text {s : List UInt8} {a e : Nat} {t : Tok} (ha : a ≤ s.length) (h : nextW s a = (t, e, 0)) : t.pl = skipA s a ∧ t.tx = (s.drop t.pl).take t.tx.length ∧ e = t.pl + t.tx.length ∧ a ≤ t.pl ∧ e ≤ s.length ∧ (t.kd = 4 ↔ t.pl = s.length) ∧ (t.kd = 4 → t.tx = [] ∧ e = s.length) := by
  have h1 := tokAt_text (skipA s a) (s.drop (skipA s a)) (by unfold nextW at h; rw [h])
  have h2 := nextW_to ha
  have h3 := skipA_le ha
  have h4 := le_skipA s a
  unfold nextW at h
  rw [h] at h1
  rw [show nextW s a = (t, e, 0) from h] at h2
  simp only at h1 h2
  obtain ⟨p1, p2, p3, p4⟩ := h1
  have hk : t.kd = 4 ↔ t.pl = s.length := by
    rw [p4, p1]
    constructor
    · intro h5
      have := congrArg List.length h5
      rw [List.length_drop, List.length_nil] at this
      omega
    · intro h5; rw [h5, List.drop_length]
  have ht : t.tx = (s.drop t.pl).take t.tx.length := by
    have : e - skipA s a = t.tx.length := by omega
    rw [p1, ← this]
    exact p2
  refine ⟨p1, ht, by omega, by omega, h2.2.1, hk, fun h5 => ?_⟩
  have h6 := hk.1 h5
  have : t.tx = [] := by
    rw [ht, h6, List.drop_length, List.take_nil]
  refine ⟨this, ?_⟩
  rw [this] at p3
  simp at p3
  omega
end Go.Proofs.YtpfbljkfbjjlkaaGreatDoor

/- The functions' code with its types resolved, as the layer's 'cCode' gives it. Written by a program of this session's (wip/x/dump.lean). -/
namespace Go.Proofs.YtpfbljkfbjjlkaaGreatDoor
open Go Go.Jq
set_option maxRecDepth 100000
-- 3 jacquard/jacquardlaw3.ParseTurned
-- 7 jacquard/jacquardref2.Print
-- 8 jacquard/jacquardlaw3.Small
-- 9 jacquard/parse.Parse
def ac9L0 : ACode := (.seq (.seq (.region false [ oM 32 (.mv (.t 5)), oM 33 (.callf 32 [(.t 32), (.c (.d (.str [116, 104, 114, 101, 97, 100])))])] []) (.cond (.t 33) .skip (.exit 0))) (.block 1 (.region true [ oM 34 (.faddr (.t 6) 2), oM 35 (.load none (.t 34)), oM 36 (.mv (.t 5)), oM 37 (.callf 34 [(.t 36)]), oM 38 (.bslice 1 1 [.d .nsl] [(0, 1, (.t 37))]), oM 39 (.app 1 24 50 (.t 35) (.t 38)), oM 40 (.faddr (.t 6) 2), ⟨none, .store 1 (.t 40) (.t 39), none⟩] [0, 1, 0, 4, 8, 26, 63, 127])))
def ac9 : ACode := (.seq (.region false [ oM 2 (.alloc [.d (.str []), .d .nsl, .d .nsl, .d (.int .i64 0), .d .nsl]), oM 3 (.alloc [.d (.int .i64 0), .d (.int .i64 0)])] []) (.seq (.seq (.region false [ oM 7 (.mv (.t 0)), oM 8 (.callf 27 [(.t 7)]), oM 4 (.alloc [.d (.int .i64 0), .d (.int .i64 0)]), ⟨none, .store 2 (.t 4) (.t 8), none⟩] []) (.seq (.region false [ oM 9 (.faddr (.t 4) 0), oM 10 (.load none (.t 9)), oM 11 (.bin .neq (.t 10) (.c (.d (.int .i64 0))))] []) (.cond (.t 11) (.seq (.region true [ oM 12 (.build [.d (.str []), .d .nsl, .d .nsl, .d (.int .i64 0), .d .nsl] []), oM 13 (.load (some 2) (.t 4)), ⟨none, .store 5 (.t 2) (.t 12), none⟩, ⟨none, .store 2 (.t 3) (.t 13), none⟩] [0, 0, 1, 7]) .ret) .skip))) (.seq (.region false [ oM 14 (.mv (.t 0)), oM 15 (.callf 28 [(.t 14)]), oM 16 (.build [.d .nptr, .d (.int .i64 0), .d (.str []), .d (.int .i64 0), .d (.int .i64 0), .d (.int .i64 0)] [(0, 1, (.t 15))]), oM 17 (.box (.t 16)), oM 5 (.mv (.t 17))] []) (.seq (.region false [ oM 18 (.mv (.t 5)), oM 19 (.callf 29 [(.t 18)])] []) (.seq (.region false [ oM 6 (.alloc [.d (.str []), .d .nsl, .d .nsl, .d (.int .i64 0), .d .nsl])] []) (.seq (.region false [ oM 20 (.mv (.t 5)), oM 21 (.callf 30 [(.t 20), (.c (.d (.str [116, 101, 115, 116])))])] []) (.seq (.region false [ oM 22 (.mv (.t 5)), oM 23 (.callf 31 [(.t 22)]), oM 24 (.faddr (.t 6) 0), ⟨none, .store 1 (.t 24) (.t 23), none⟩] []) (.seq (.region false [ oM 25 (.mv (.t 5)), oM 26 (.callf 30 [(.t 25), (.c (.d (.str [123])))])] []) (.seq (.seq (.region false [ oM 27 (.mv (.t 5)), oM 28 (.callf 32 [(.t 27), (.c (.d (.str [105, 110, 105, 116])))])] []) (.cond (.t 28) (.region false [ oM 29 (.mv (.t 5)), oM 30 (.callf 33 [(.t 29)]), oM 31 (.faddr (.t 6) 1), ⟨none, .store 1 (.t 31) (.t 30), none⟩] []) .skip)) (.seq (.block 0 (.loop ac9L0)) (.seq (.block 2 (.seq (.region false [ oM 42 (.mv (.t 5)), oM 43 (.callf 32 [(.t 42), (.c (.d (.str [101, 120, 105, 115, 116, 115])))]), oM 41 (.mv (.t 43))] []) (.cond (.t 41) (.region false [ oM 44 (.mv (.t 5)), oM 45 (.callf 35 [(.t 44), (.c (.d (.int .i64 1)))]), oM 46 (.faddr (.t 6) 3), ⟨none, .store 2 (.t 46) (.t 45), none⟩] []) (.seq (.region false [ oM 48 (.mv (.t 5)), oM 49 (.callf 32 [(.t 48), (.c (.d (.str [102, 111, 114, 97, 108, 108])))]), oM 47 (.mv (.t 49))] []) (.cond (.t 47) (.region false [ oM 50 (.mv (.t 5)), oM 51 (.callf 35 [(.t 50), (.c (.d (.int .i64 2)))]), oM 52 (.faddr (.t 6) 3), ⟨none, .store 2 (.t 52) (.t 51), none⟩] []) .skip))))) (.seq (.region false [ oM 53 (.mv (.t 5)), oM 54 (.callf 30 [(.t 53), (.c (.d (.str [125])))])] []) (.seq (.seq (.region false [ oM 55 (.mv (.t 5)), oM 56 (.callf 36 [(.t 55)]), oM 57 (.mv (.t 56)), oG 58 (.mv (.t 5)) 57 true, oG 59 (.nilck (.t 58)) 57 true, oG 60 (.faddr (.t 59) 1) 57 true, oG 61 (.faddr (.t 60) 0) 57 true, oG 62 (.load none (.t 61)) 57 true, oG 63 (.bin .neq (.t 62) (.c (.d (.int .i64 4)))) 57 true, oM 64 (.pick (.t 57) (.t 63) (.c (.d (.bool false))))] []) (.cond (.t 64) (.region false [ oM 65 (.mv (.t 5)), oM 66 (.callf 37 [(.t 65), (.c (.d (.int .i64 6)))])] []) .skip)) (.seq (.seq (.region false [ oM 67 (.mv (.t 5)), oM 68 (.callf 36 [(.t 67)]), oM 69 (.un .not (.t 68))] []) (.cond (.t 69) (.seq (.region true [ oM 70 (.build [.d (.str []), .d .nsl, .d .nsl, .d (.int .i64 0), .d .nsl] []), oM 71 (.mv (.t 5)), oM 72 (.nilck (.t 71)), oM 73 (.faddr (.t 72) 4), oM 74 (.load (some 2) (.t 73)), ⟨none, .store 5 (.t 2) (.t 70), none⟩, ⟨none, .store 2 (.t 3) (.t 74), none⟩] [0, 0, 2, 4, 8, 1, 63]) .ret) .skip)) (.seq (.region false [ oM 75 (.load (some 5) (.t 6)), oM 76 (.build [.d (.int .i64 0), .d (.int .i64 0)] []), ⟨none, .store 5 (.t 2) (.t 75), none⟩, ⟨none, .store 2 (.t 3) (.t 76), none⟩] []) .ret)))))))))))))))
theorem ac9_ok : Tryz.f9.body.bind (cCode Tryz.prog Tryz.f9.ntmps) = some ac9 := by kernel_rfl
-- 10 jacquard/jacquardref2.Tree
-- 11 jacquard/jacquardref2.Same
-- 12 jacquard/jacquardlaw3.awake
-- 19 jacquard/print.Same
def ac19 : ACode := (.seq (.region false [ oM 2 (.box (.t 0)), oM 3 (.box (.t 1)), oM 4 (.mv (.c (.d (.bool false))))] []) (.seq (.region false [ oM 5 (.faddr (.t 2) 0), oM 6 (.load none (.t 5)), oM 7 (.faddr (.t 3) 0), oM 8 (.load none (.t 7)), oM 9 (.bin .eql (.t 6) (.t 8)), oM 10 (.mv (.t 9)), oG 11 (.faddr (.t 2) 1) 10 true, oG 12 (.load none (.t 11)) 10 true, oG 13 (.faddr (.t 3) 1) 10 true, oG 14 (.load none (.t 13)) 10 true, oG 15 (.callf 64 [(.t 12), (.t 14)]) 10 true, oM 16 (.pick (.t 10) (.t 15) (.c (.d (.bool false)))), oM 17 (.mv (.t 16)), oG 18 (.faddr (.t 2) 2) 17 true, oG 19 (.load none (.t 18)) 17 true, oG 20 (.faddr (.t 3) 2) 17 true, oG 21 (.load none (.t 20)) 17 true, oG 22 (.callf 65 [(.t 19), (.t 21), (.c (.fn 66 []))]) 17 true, oM 23 (.pick (.t 17) (.t 22) (.c (.d (.bool false)))), oM 24 (.mv (.t 23)), oG 25 (.faddr (.t 2) 3) 24 true, oG 26 (.faddr (.t 25) 0) 24 true, oG 27 (.load none (.t 26)) 24 true, oG 28 (.faddr (.t 3) 3) 24 true, oG 29 (.faddr (.t 28) 0) 24 true, oG 30 (.load none (.t 29)) 24 true, oG 31 (.bin .eql (.t 27) (.t 30)) 24 true, oM 32 (.pick (.t 24) (.t 31) (.c (.d (.bool false)))), oM 33 (.mv (.t 32)), oG 34 (.faddr (.t 2) 3) 33 true, oG 35 (.faddr (.t 34) 1) 33 true, oG 36 (.load none (.t 35)) 33 true, oG 37 (.faddr (.t 3) 3) 33 true, oG 38 (.faddr (.t 37) 1) 33 true, oG 39 (.load none (.t 38)) 33 true, oG 40 (.callf 67 [(.t 36), (.t 39), (.c (.fn 68 []))]) 33 true, oM 41 (.pick (.t 33) (.t 40) (.c (.d (.bool false)))), oM 4 (.mv (.t 41))] []) .ret))
theorem ac19_ok : Tryz.f19.body.bind (cCode Tryz.prog Tryz.f19.ntmps) = some ac19 := by kernel_rfl
-- 21 jacquard/jacquardref2.TestOk
-- 22 jacquard/jacquardref2.locText
-- 24 jacquard/jacquardref2.Ins
-- 25 jacquard/jacquardref2.Cond
-- 26 jacquard/jacquardlaw3.Small$1
-- 29 (*jacquard/parse.parser).next
def ac29 : ACode := (.seq (.region false [ oM 2 (.mv (.t 0)), oM 3 (.nilck (.t 2)), oM 4 (.faddr (.t 3) 4), oM 5 (.faddr (.t 4) 0), oM 6 (.load none (.t 5)), oM 7 (.bin .eql (.t 6) (.c (.d (.int .i64 0))))] []) (.cond (.t 7) (.region false [ oM 9 (.mv (.t 0)), oM 10 (.mv (.t 0)), oM 11 (.mv (.t 0)), oM 12 (.nilck (.t 11)), oM 13 (.faddr (.t 12) 0), oM 14 (.load none (.t 13)), oM 15 (.callf 85 [(.t 14)]), oM 8 (.mv (.t 15)), oM 16 (.ext (.t 8) 0), oM 17 (.ext (.t 8) 1), oM 18 (.nilck (.t 9)), oM 19 (.faddr (.t 18) 1), ⟨none, .store 3 (.t 19) (.t 16), none⟩, oM 20 (.nilck (.t 10)), oM 21 (.faddr (.t 20) 4), ⟨none, .store 2 (.t 21) (.t 17), none⟩] []) .skip))
theorem ac29_ok : Tryz.f29.body.bind (cCode Tryz.prog Tryz.f29.ntmps) = some ac29 := by kernel_rfl
-- 30 (*jacquard/parse.parser).must
def ac30 : ACode := (.seq (.region false [ oM 4 (.mv (.t 0)), oM 5 (.mv (.t 1)), oM 6 (.callf 32 [(.t 4), (.t 5)]), oM 7 (.un .not (.t 6))] []) (.cond (.t 7) (.region false [ oM 8 (.mv (.t 0)), oM 9 (.callf 37 [(.t 8), (.c (.d (.int .i64 6)))])] []) .skip))
theorem ac30_ok : Tryz.f30.body.bind (cCode Tryz.prog Tryz.f30.ntmps) = some ac30 := by kernel_rfl
-- 31 (*jacquard/parse.parser).word
def ac31 : ACode := (.seq (.region false [ oM 2 (.mv (.c (.d (.str []))))] []) (.seq (.region false [ oM 4 (.mv (.t 0)), oM 5 (.nilck (.t 4)), oM 6 (.faddr (.t 5) 1), oM 7 (.faddr (.t 6) 1), oM 8 (.load none (.t 7)), oM 3 (.mv (.t 8))] []) (.seq (.seq (.region false [ oM 9 (.mv (.t 0)), oM 10 (.nilck (.t 9)), oM 11 (.faddr (.t 10) 1), oM 12 (.faddr (.t 11) 0), oM 13 (.load none (.t 12)), oM 14 (.bin .neq (.t 13) (.c (.d (.int .i64 1))))] []) (.cond (.t 14) (.seq (.region false [ oM 15 (.mv (.t 0)), oM 16 (.callf 37 [(.t 15), (.c (.d (.int .i64 6)))])] []) (.seq (.region false [ oM 2 (.mv (.c (.d (.str []))))] []) .ret)) .skip)) (.seq (.region false [ oM 17 (.mv (.t 0)), oM 18 (.callf 29 [(.t 17)])] []) (.seq (.region false [ oM 19 (.mv (.t 3)), oM 2 (.mv (.t 19))] []) .ret)))))
theorem ac31_ok : Tryz.f31.body.bind (cCode Tryz.prog Tryz.f31.ntmps) = some ac31 := by kernel_rfl
-- 32 (*jacquard/parse.parser).take
def ac32 : ACode := (.seq (.region false [ oM 4 (.mv (.c (.d (.bool false))))] []) (.seq (.seq (.region false [ oM 5 (.mv (.t 0)), oM 6 (.mv (.t 1)), oM 7 (.callf 86 [(.t 5), (.t 6)]), oM 8 (.un .not (.t 7))] []) (.cond (.t 8) (.seq (.region false [ oM 4 (.mv (.c (.d (.bool false))))] []) .ret) .skip)) (.seq (.region false [ oM 9 (.mv (.t 0)), oM 10 (.callf 29 [(.t 9)])] []) (.seq (.region false [ oM 4 (.mv (.c (.d (.bool true))))] []) .ret))))
theorem ac32_ok : Tryz.f32.body.bind (cCode Tryz.prog Tryz.f32.ntmps) = some ac32 := by kernel_rfl
-- 33 (*jacquard/parse.parser).init
def ac33L0 : ACode := (.seq (.seq (.region false [ oM 7 (.mv (.t 0)), oM 8 (.callf 36 [(.t 7)]), oM 9 (.mv (.t 8)), oG 10 (.mv (.t 0)) 9 true, oG 11 (.callf 32 [(.t 10), (.c (.d (.str [125])))]) 9 true, oG 12 (.un .not (.t 11)) 9 true, oM 13 (.pick (.t 9) (.t 12) (.c (.d (.bool false))))] []) (.cond (.t 13) .skip (.exit 0))) (.block 1 (.seq (.region false [ oM 14 (.mv (.t 0)), oM 15 (.callf 87 [(.t 14), (.c (.fn 88 []))]), oM 16 (.build [.d (.int .i64 0), .d (.int .i64 0)] [(0, 1, (.t 15))]), oM 4 (.alloc [.d (.int .i64 0), .d (.int .i64 0)]), ⟨none, .store 2 (.t 4) (.t 16), none⟩] []) (.seq (.region false [ oM 17 (.mv (.t 0)), oM 18 (.callf 30 [(.t 17), (.c (.d (.str [61])))])] []) (.seq (.region false [ oM 19 (.mv (.t 0)), oM 20 (.callf 89 [(.t 19)]), oM 21 (.faddr (.t 4) 1), ⟨none, .store 1 (.t 21) (.t 20), none⟩] []) (.seq (.region false [ oM 22 (.mv (.t 0)), oM 23 (.callf 30 [(.t 22), (.c (.d (.str [59])))])] []) (.region false [ oM 24 (.mv (.t 3)), oM 25 (.load (some 2) (.t 4)), oM 26 (.bslice 2 1 [.d (.int .i64 0), .d (.int .i64 0)] [(0, 2, (.t 25))]), oM 27 (.app 2 16 48 (.t 24) (.t 26)), oM 3 (.mv (.t 27))] [])))))))
def ac33 : ACode := (.seq (.region false [ oM 2 (.mv (.c (.d .nsl)))] []) (.seq (.region false [ oM 3 (.mv (.c (.d .nsl)))] []) (.seq (.region false [ oM 5 (.mv (.t 0)), oM 6 (.callf 30 [(.t 5), (.c (.d (.str [123])))])] []) (.seq (.block 0 (.loop ac33L0)) (.seq (.region false [ oM 28 (.mv (.t 3)), oM 2 (.mv (.t 28))] []) .ret)))))
theorem ac33_ok : Tryz.f33.body.bind (cCode Tryz.prog Tryz.f33.ntmps) = some ac33 := by kernel_rfl
-- 34 (*jacquard/parse.parser).thread
def ac34L0 : ACode := (.seq (.seq (.region false [ oM 6 (.mv (.t 0)), oM 7 (.callf 36 [(.t 6)]), oM 8 (.mv (.t 7)), oG 9 (.mv (.t 0)) 8 true, oG 10 (.callf 32 [(.t 9), (.c (.d (.str [125])))]) 8 true, oG 11 (.un .not (.t 10)) 8 true, oM 12 (.pick (.t 8) (.t 11) (.c (.d (.bool false))))] []) (.cond (.t 12) .skip (.exit 0))) (.block 1 (.seq (.region false [ oM 13 (.mv (.t 3)), oM 14 (.mv (.t 0)), oM 15 (.callf 90 [(.t 14)]), oM 16 (.bslice 9 1 [.d (.int .i64 0), .d (.int .i64 0), .d (.int .i64 0), .d (.int .i64 0), .d (.int .i64 0), .d (.int .i64 0), .d (.int .i64 0), .d (.int .i64 0), .d (.int .i64 0)] [(0, 9, (.t 15))]), oM 17 (.app 9 72 55 (.t 13) (.t 16)), oM 3 (.mv (.t 17))] []) (.region false [ oM 18 (.mv (.t 0)), oM 19 (.callf 30 [(.t 18), (.c (.d (.str [59])))])] []))))
def ac34 : ACode := (.seq (.region false [ oM 2 (.mv (.c (.d .nsl)))] []) (.seq (.region false [ oM 3 (.mv (.c (.d .nsl)))] []) (.seq (.region false [ oM 4 (.mv (.t 0)), oM 5 (.callf 30 [(.t 4), (.c (.d (.str [123])))])] []) (.seq (.block 0 (.loop ac34L0)) (.seq (.region false [ oM 20 (.mv (.t 3)), oM 2 (.mv (.t 20))] []) .ret)))))
theorem ac34_ok : Tryz.f34.body.bind (cCode Tryz.prog Tryz.f34.ntmps) = some ac34 := by kernel_rfl
-- 35 (*jacquard/parse.parser).cond
def ac35L0 : ACode := (.seq (.seq (.region false [ oM 12 (.mv (.t 0)), oM 13 (.callf 32 [(.t 12), (.c (.d (.str [38])))])] []) (.cond (.t 13) .skip (.exit 2))) (.block 3 (.region false [ oM 14 (.mv (.t 6)), oM 15 (.mv (.t 0)), oM 16 (.callf 91 [(.t 15)]), oM 17 (.bslice 4 1 [.d (.int .i64 0), .d (.int .i64 0), .d (.int .i64 0), .d (.int .i64 0)] [(0, 4, (.t 16))]), oM 18 (.app 4 32 60 (.t 14) (.t 17)), oM 6 (.mv (.t 18))] [])))
def ac35L1 : ACode := (.block 1 (.seq (.region false [ oM 9 (.mv (.t 0)), oM 10 (.callf 91 [(.t 9)]), oM 11 (.bslice 4 1 [.d (.int .i64 0), .d (.int .i64 0), .d (.int .i64 0), .d (.int .i64 0)] [(0, 4, (.t 10))]), oM 6 (.mv (.t 11))] []) (.seq (.block 2 (.loop ac35L0)) (.seq (.region false [ oM 19 (.faddr (.t 5) 1), oM 20 (.load none (.t 19)), oM 21 (.mv (.t 6)), oM 22 (.bslice 1 1 [.d .nsl] [(0, 1, (.t 21))]), oM 23 (.app 1 24 61 (.t 20) (.t 22)), oM 24 (.faddr (.t 5) 1), ⟨none, .store 1 (.t 24) (.t 23), none⟩] []) (.seq (.region false [ oM 25 (.mv (.t 0)), oM 26 (.callf 32 [(.t 25), (.c (.d (.str [124])))]), oM 27 (.un .not (.t 26))] []) (.cond (.t 27) (.seq (.region false [ oM 28 (.mv (.t 0)), oM 29 (.callf 30 [(.t 28), (.c (.d (.str [59])))])] []) (.seq (.region false [ oM 30 (.load (some 2) (.t 5)), ⟨none, .store 2 (.t 4) (.t 30), none⟩] []) .ret)) .skip))))))
def ac35 : ACode := (.seq (.region false [ oM 4 (.alloc [.d (.int .i64 0), .d .nsl])] []) (.seq (.region false [ oM 7 (.mv (.t 1)), oM 8 (.build [.d (.int .i64 0), .d .nsl] [(0, 1, (.t 7))]), oM 5 (.alloc [.d (.int .i64 0), .d .nsl]), ⟨none, .store 2 (.t 5) (.t 8), none⟩] []) (.block 0 (.loop ac35L1))))
theorem ac35_ok : Tryz.f35.body.bind (cCode Tryz.prog Tryz.f35.ntmps) = some ac35 := by kernel_rfl
-- 36 (*jacquard/parse.parser).ok
def ac36 : ACode := (.seq (.region false [ oM 2 (.mv (.c (.d (.bool false))))] []) (.seq (.region false [ oM 3 (.mv (.t 0)), oM 4 (.nilck (.t 3)), oM 5 (.faddr (.t 4) 4), oM 6 (.faddr (.t 5) 0), oM 7 (.load none (.t 6)), oM 8 (.bin .eql (.t 7) (.c (.d (.int .i64 0)))), oM 2 (.mv (.t 8))] []) .ret))
theorem ac36_ok : Tryz.f36.body.bind (cCode Tryz.prog Tryz.f36.ntmps) = some ac36 := by kernel_rfl
-- 37 (*jacquard/parse.parser).fail
def ac37 : ACode := (.seq (.region false [ oM 4 (.mv (.t 0)), oM 5 (.nilck (.t 4)), oM 6 (.faddr (.t 5) 4), oM 7 (.faddr (.t 6) 0), oM 8 (.load none (.t 7)), oM 9 (.bin .eql (.t 8) (.c (.d (.int .i64 0))))] []) (.cond (.t 9) (.region false [ oM 10 (.mv (.t 0)), oM 11 (.mv (.t 1)), oM 12 (.mv (.t 0)), oM 13 (.nilck (.t 12)), oM 14 (.faddr (.t 13) 1), oM 15 (.faddr (.t 14) 2), oM 16 (.load none (.t 15)), oM 17 (.build [.d (.int .i64 0), .d (.int .i64 0)] [(0, 1, (.t 11)), (1, 1, (.t 16))]), oM 18 (.nilck (.t 10)), oM 19 (.faddr (.t 18) 4), ⟨none, .store 2 (.t 19) (.t 17), none⟩] []) .skip))
theorem ac37_ok : Tryz.f37.body.bind (cCode Tryz.prog Tryz.f37.ntmps) = some ac37 := by kernel_rfl
-- 38 (*jacquard/jacquardref2.reader).eat
-- 39 (*jacquard/jacquardref2.reader).word
-- 40 (*jacquard/jacquardref2.reader).is
-- 41 (*jacquard/jacquardref2.reader).go1
-- 42 (*jacquard/jacquardref2.reader).loc
-- 43 (*jacquard/jacquardref2.reader).num
-- 44 (*jacquard/jacquardref2.reader).ins
-- 45 (*jacquard/jacquardref2.reader).atom
-- 46 (*jacquard/jacquardref2.reader).look
-- 47 (*jacquard/jacquardref2.reader).fail
-- 48 jacquard/jacquardref2.SameCond
-- 78 jacquard/jacquardref2.word
-- 79 jacquard/jacquardref2.CondOk
-- 80 jacquard/jacquardref2.named
-- 81 jacquard/jacquardref2.InsOk
-- 82 jacquard/jacquardref2.operandText
-- 83 jacquard/jacquardref2.regText
-- 84 jacquard/jacquardref2.Sign
-- 86 (*jacquard/parse.parser).is
def ac86 : ACode := (.seq (.region false [ oM 4 (.mv (.c (.d (.bool false))))] []) (.seq (.region false [ oM 5 (.mv (.t 0)), oM 6 (.callf 36 [(.t 5)]), oM 7 (.mv (.t 6)), oG 8 (.mv (.t 0)) 7 true, oG 9 (.nilck (.t 8)) 7 true, oG 10 (.faddr (.t 9) 1) 7 true, oG 11 (.faddr (.t 10) 0) 7 true, oG 12 (.load none (.t 11)) 7 true, oG 13 (.bin .eql (.t 12) (.c (.d (.int .i64 3)))) 7 true, oG 14 (.mv (.t 13)) 7 true, oG 15 (.mv (.t 0)) 14 false, oG 16 (.nilck (.t 15)) 14 false, oG 17 (.faddr (.t 16) 1) 14 false, oG 18 (.faddr (.t 17) 0) 14 false, oG 19 (.load none (.t 18)) 14 false, oG 20 (.bin .eql (.t 19) (.c (.d (.int .i64 1)))) 14 false, oG 21 (.pick (.t 14) (.c (.d (.bool true))) (.t 20)) 7 true, oM 22 (.pick (.t 7) (.t 21) (.c (.d (.bool false)))), oM 23 (.mv (.t 22)), oG 24 (.mv (.t 0)) 23 true, oG 25 (.nilck (.t 24)) 23 true, oG 26 (.faddr (.t 25) 1) 23 true, oG 27 (.faddr (.t 26) 1) 23 true, oG 28 (.load none (.t 27)) 23 true, oG 29 (.mv (.t 1)) 23 true, oG 30 (.bin .eql (.t 28) (.t 29)) 23 true, oM 31 (.pick (.t 23) (.t 30) (.c (.d (.bool false)))), oM 4 (.mv (.t 31))] []) .ret))
theorem ac86_ok : Tryz.f86.body.bind (cCode Tryz.prog Tryz.f86.ntmps) = some ac86 := by kernel_rfl
-- 87 (*jacquard/parse.parser).named
def ac87 : ACode := (.seq (.region false [ oM 4 (.mv (.c (.d (.int .i64 0))))] []) (.seq (.seq (.region false [ oM 7 (.mv (.t 0)), oM 8 (.nilck (.t 7)), oM 9 (.faddr (.t 8) 1), oM 10 (.faddr (.t 9) 0), oM 11 (.load none (.t 10)), oM 12 (.bin .neq (.t 11) (.c (.d (.int .i64 1))))] []) (.cond (.t 12) (.seq (.region false [ oM 13 (.mv (.t 0)), oM 14 (.callf 37 [(.t 13), (.c (.d (.int .i64 6)))])] []) (.seq (.region false [ oM 4 (.mv (.c (.d (.int .i64 0))))] []) .ret)) .skip)) (.seq (.region false [ oM 16 (.mv (.t 1)), oM 17 (.mv (.t 0)), oM 18 (.nilck (.t 17)), oM 19 (.faddr (.t 18) 1), oM 20 (.faddr (.t 19) 1), oM 21 (.load none (.t 20)), oM 22 (.callv (.t 16) [(.t 21)]), oM 15 (.mv (.t 22)), oM 23 (.ext (.t 15) 0), oM 24 (.ext (.t 15) 1), oM 5 (.mv (.t 23)), oM 6 (.mv (.t 24))] []) (.seq (.seq (.region false [ oM 25 (.mv (.t 6)), oM 26 (.un .not (.t 25))] []) (.cond (.t 26) (.seq (.region false [ oM 27 (.mv (.t 0)), oM 28 (.callf 37 [(.t 27), (.c (.d (.int .i64 7)))])] []) (.seq (.region false [ oM 4 (.mv (.c (.d (.int .i64 0))))] []) .ret)) .skip)) (.seq (.region false [ oM 29 (.mv (.t 0)), oM 30 (.callf 29 [(.t 29)])] []) (.seq (.region false [ oM 31 (.mv (.t 5)), oM 4 (.mv (.t 31))] []) .ret))))))
theorem ac87_ok : Tryz.f87.body.bind (cCode Tryz.prog Tryz.f87.ntmps) = some ac87 := by kernel_rfl
-- 88 jacquard/parse.isLoc
def ac88 : ACode := (.seq (.region false [ oM 2 (.mv (.c (.d (.int .i64 0)))), oM 3 (.mv (.c (.d (.bool false))))] []) (.seq (.region false [ oM 4 (.mv (.t 0)), oM 5 (.idxs (.t 4) (.c (.d (.int .i64 0)))), oM 6 (.cvi .i64 (.t 5)), oM 7 (.mv (.t 0)), oM 8 (.lens (.t 7)), oM 9 (.bin .eql (.t 8) (.c (.d (.int .i64 1)))), oM 2 (.mv (.t 6)), oM 3 (.mv (.t 9))] []) .ret))
theorem ac88_ok : Tryz.f88.body.bind (cCode Tryz.prog Tryz.f88.ntmps) = some ac88 := by kernel_rfl
-- 89 (*jacquard/parse.parser).number
def ac89 : ACode := (.seq (.region false [ oM 2 (.mv (.c (.d (.int .i64 0))))] []) (.seq (.seq (.region false [ oM 5 (.mv (.t 0)), oM 6 (.nilck (.t 5)), oM 7 (.faddr (.t 6) 1), oM 8 (.faddr (.t 7) 0), oM 9 (.load none (.t 8)), oM 10 (.bin .neq (.t 9) (.c (.d (.int .i64 2))))] []) (.cond (.t 10) (.region false [ oM 11 (.mv (.t 0)), oM 12 (.callf 37 [(.t 11), (.c (.d (.int .i64 6)))])] []) .skip)) (.seq (.seq (.region false [ oM 13 (.mv (.t 0)), oM 14 (.callf 36 [(.t 13)]), oM 15 (.un .not (.t 14))] []) (.cond (.t 15) (.seq (.region false [ oM 2 (.mv (.c (.d (.int .i64 0))))] []) .ret) .skip)) (.seq (.region false [ oM 17 (.mv (.t 0)), oM 18 (.nilck (.t 17)), oM 19 (.faddr (.t 18) 1), oM 20 (.faddr (.t 19) 1), oM 21 (.load none (.t 20)), oM 22 (.callf 123 [(.t 21)]), oM 16 (.mv (.t 22)), oM 23 (.ext (.t 16) 0), oM 24 (.ext (.t 16) 1), oM 3 (.mv (.t 23)), oM 4 (.mv (.t 24))] []) (.seq (.region false [ oM 25 (.mv (.t 0)), oM 26 (.callf 29 [(.t 25)])] []) (.seq (.region false [ oM 27 (.mv (.t 3)), oM 2 (.mv (.t 27))] []) .ret))))))
theorem ac89_ok : Tryz.f89.body.bind (cCode Tryz.prog Tryz.f89.ntmps) = some ac89 := by kernel_rfl
-- 90 (*jacquard/parse.parser).ins
def ac90 : ACode := (.seq (.region false [ oM 2 (.alloc [.d (.int .i64 0), .d (.int .i64 0), .d (.int .i64 0), .d (.int .i64 0), .d (.int .i64 0), .d (.int .i64 0), .d (.int .i64 0), .d (.int .i64 0), .d (.int .i64 0)])] []) (.seq (.region false [ oM 6 (.build [.d (.int .i64 0), .d (.int .i64 0), .d (.int .i64 0), .d (.int .i64 0), .d (.int .i64 0), .d (.int .i64 0), .d (.int .i64 0), .d (.int .i64 0), .d (.int .i64 0)] []), oM 3 (.alloc [.d (.int .i64 0), .d (.int .i64 0), .d (.int .i64 0), .d (.int .i64 0), .d (.int .i64 0), .d (.int .i64 0), .d (.int .i64 0), .d (.int .i64 0), .d (.int .i64 0)]), ⟨none, .store 9 (.t 3) (.t 6), none⟩] []) (.seq (.block 0 (.seq (.region false [ oM 15 (.mv (.t 0)), oM 16 (.callf 32 [(.t 15), (.c (.d (.str [115, 116, 111, 114, 101])))]), oM 14 (.mv (.t 16))] []) (.cond (.t 14) (.seq (.region false [ oM 17 (.mv (.t 0)), oM 18 (.callf 87 [(.t 17), (.c (.fn 88 []))]), oM 19 (.faddr (.t 3) 0), ⟨none, .store 1 (.t 19) (.c (.d (.int .i64 1))), none⟩, oM 20 (.faddr (.t 3) 2), ⟨none, .store 1 (.t 20) (.t 18), none⟩] []) (.region false [ oM 21 (.mv (.t 0)), oM 22 (.callf 126 [(.t 21)]), oM 23 (.faddr (.t 3) 3), ⟨none, .store 2 (.t 23) (.t 22), none⟩] [])) (.seq (.region false [ oM 25 (.mv (.t 0)), oM 26 (.callf 32 [(.t 25), (.c (.d (.str [102, 101, 110, 99, 101])))]), oM 24 (.mv (.t 26))] []) (.cond (.t 24) (.region false [ oM 27 (.faddr (.t 3) 0), ⟨none, .store 1 (.t 27) (.c (.d (.int .i64 3))), none⟩] []) (.seq (.region false [ oM 29 (.mv (.t 0)), oM 30 (.callf 32 [(.t 29), (.c (.d (.str [115, 107, 105, 112])))]), oM 28 (.mv (.t 30))] []) (.cond (.t 28) (.seq (.region false [ oM 31 (.faddr (.t 3) 0), ⟨none, .store 1 (.t 31) (.c (.d (.int .i64 6))), none⟩] []) (.seq (.seq (.region false [ oM 33 (.mv (.t 0)), oM 34 (.nilck (.t 33)), oM 35 (.faddr (.t 34) 1), oM 36 (.faddr (.t 35) 1), oM 37 (.load none (.t 36)), oM 38 (.callf 123 [(.t 37)]), oM 32 (.mv (.t 38)), oM 39 (.ext (.t 32) 0), oM 40 (.ext (.t 32) 1), oM 4 (.mv (.t 39)), oM 5 (.mv (.t 40))] []) (.seq (.region false [ oM 41 (.mv (.t 0)), oM 42 (.nilck (.t 41)), oM 43 (.faddr (.t 42) 1), oM 44 (.faddr (.t 43) 0), oM 45 (.load none (.t 44)), oM 46 (.bin .eql (.t 45) (.c (.d (.int .i64 2)))), oM 47 (.mv (.t 46)), oG 48 (.mv (.t 4)) 47 true, oG 49 (.bin .lss (.t 48) (.c (.d (.int .i64 0)))) 47 true, oM 50 (.pick (.t 47) (.t 49) (.c (.d (.bool false))))] []) (.cond (.t 50) (.region false [ oM 51 (.mv (.t 0)), oM 52 (.callf 37 [(.t 51), (.c (.d (.int .i64 6)))])] []) .skip))) (.seq (.region false [ oM 53 (.mv (.t 0)), oM 54 (.callf 89 [(.t 53)]), oM 55 (.faddr (.t 3) 8), ⟨none, .store 1 (.t 55) (.t 54), none⟩] []) (.seq (.region false [ oM 56 (.mv (.t 0)), oM 57 (.callf 30 [(.t 56), (.c (.d (.str [105, 102])))])] []) (.seq (.region false [ oM 58 (.mv (.t 0)), oM 59 (.callf 126 [(.t 58)]), oM 60 (.faddr (.t 3) 3), ⟨none, .store 2 (.t 60) (.t 59), none⟩] []) (.seq (.region false [ oM 61 (.mv (.t 0)), oM 62 (.callf 30 [(.t 61), (.c (.d (.str [61, 61])))])] []) (.region false [ oM 63 (.mv (.t 0)), oM 64 (.callf 126 [(.t 63)]), oM 65 (.faddr (.t 3) 6), ⟨none, .store 2 (.t 65) (.t 64), none⟩] []))))))) (.seq (.region false [ oM 7 (.mv (.t 0)), oM 8 (.callf 87 [(.t 7), (.c (.fn 127 []))]), oM 9 (.faddr (.t 3) 1), ⟨none, .store 1 (.t 9) (.t 8), none⟩] []) (.seq (.region false [ oM 10 (.mv (.t 0)), oM 11 (.callf 30 [(.t 10), (.c (.d (.str [61])))])] []) (.region false [ oM 12 (.mv (.t 0)), oM 13 (.callf 128 [(.t 12), (.t 3)])] [])))))))))) (.seq (.region false [ oM 66 (.load (some 9) (.t 3)), ⟨none, .store 9 (.t 2) (.t 66), none⟩] []) .ret))))
theorem ac90_ok : Tryz.f90.body.bind (cCode Tryz.prog Tryz.f90.ntmps) = some ac90 := by kernel_rfl
-- 91 (*jacquard/parse.parser).atom
def ac91 : ACode := (.seq (.region false [ oM 2 (.alloc [.d (.int .i64 0), .d (.int .i64 0), .d (.int .i64 0), .d (.int .i64 0)])] []) (.seq (.region false [ oM 6 (.build [.d (.int .i64 0), .d (.int .i64 0), .d (.int .i64 0), .d (.int .i64 0)] [(0, 1, (.c (.d (.int .i64 (-1)))))]), oM 3 (.alloc [.d (.int .i64 0), .d (.int .i64 0), .d (.int .i64 0), .d (.int .i64 0)]), ⟨none, .store 4 (.t 3) (.t 6), none⟩] []) (.seq (.seq (.region false [ oM 7 (.mv (.t 0)), oM 8 (.callf 36 [(.t 7)]), oM 9 (.mv (.t 8)), oG 10 (.mv (.t 0)) 9 true, oG 11 (.nilck (.t 10)) 9 true, oG 12 (.faddr (.t 11) 1) 9 true, oG 13 (.faddr (.t 12) 0) 9 true, oG 14 (.load none (.t 13)) 9 true, oG 15 (.bin .eql (.t 14) (.c (.d (.int .i64 2)))) 9 true, oM 16 (.pick (.t 9) (.t 15) (.c (.d (.bool false))))] []) (.cond (.t 16) (.seq (.region false [ oM 18 (.mv (.t 0)), oM 19 (.nilck (.t 18)), oM 20 (.faddr (.t 19) 1), oM 21 (.faddr (.t 20) 1), oM 22 (.load none (.t 21)), oM 23 (.callf 123 [(.t 22)]), oM 17 (.mv (.t 23)), oM 24 (.ext (.t 17) 0), oM 25 (.ext (.t 17) 1), oM 4 (.mv (.t 24)), oM 5 (.mv (.t 25))] []) (.seq (.seq (.region false [ oM 26 (.mv (.t 4)), oM 27 (.bin .lss (.t 26) (.c (.d (.int .i64 0)))), oM 28 (.mv (.t 27)), oG 29 (.mv (.t 4)) 28 false, oG 30 (.bin .gtr (.t 29) (.c (.d (.int .i64 9)))) 28 false, oM 31 (.pick (.t 28) (.c (.d (.bool true))) (.t 30))] []) (.cond (.t 31) (.seq (.region false [ oM 32 (.mv (.t 0)), oM 33 (.callf 37 [(.t 32), (.c (.d (.int .i64 7)))])] []) (.seq (.region false [ oM 34 (.build [.d (.int .i64 0), .d (.int .i64 0), .d (.int .i64 0), .d (.int .i64 0)] []), ⟨none, .store 4 (.t 2) (.t 34), none⟩] []) .ret)) .skip)) (.seq (.region false [ oM 35 (.mv (.t 4)), oM 36 (.faddr (.t 3) 0), ⟨none, .store 1 (.t 36) (.t 35), none⟩] []) (.seq (.region false [ oM 37 (.mv (.t 0)), oM 38 (.callf 29 [(.t 37)])] []) (.seq (.region false [ oM 39 (.mv (.t 0)), oM 40 (.callf 30 [(.t 39), (.c (.d (.str [58])))])] []) (.region false [ oM 41 (.mv (.t 0)), oM 42 (.callf 87 [(.t 41), (.c (.fn 127 []))]), oM 43 (.faddr (.t 3) 1), ⟨none, .store 1 (.t 43) (.t 42), none⟩] [])))))) (.region false [ oM 44 (.mv (.t 0)), oM 45 (.callf 87 [(.t 44), (.c (.fn 88 []))]), oM 46 (.faddr (.t 3) 2), ⟨none, .store 1 (.t 46) (.t 45), none⟩] []))) (.seq (.region false [ oM 47 (.mv (.t 0)), oM 48 (.callf 30 [(.t 47), (.c (.d (.str [61])))])] []) (.seq (.region false [ oM 49 (.mv (.t 0)), oM 50 (.callf 89 [(.t 49)]), oM 51 (.faddr (.t 3) 3), ⟨none, .store 1 (.t 51) (.t 50), none⟩] []) (.seq (.region false [ oM 52 (.load (some 4) (.t 3)), ⟨none, .store 4 (.t 2) (.t 52), none⟩] []) .ret))))))
theorem ac91_ok : Tryz.f91.body.bind (cCode Tryz.prog Tryz.f91.ntmps) = some ac91 := by kernel_rfl
-- 93 (*jacquard/jacquardref2.reader).operand
-- 94 (*jacquard/jacquardref2.reader).register
-- 95 jacquard/jacquardref2.Op
-- 116 jacquard/jacquardref2.operandOk
-- 117 jacquard/jacquardref2.signs
-- 126 (*jacquard/parse.parser).operand
def ac126 : ACode := (.seq (.region false [ oM 2 (.alloc [.d (.int .i64 0), .d (.int .i64 0)])] []) (.seq (.seq (.region false [ oM 3 (.mv (.t 0)), oM 4 (.callf 36 [(.t 3)]), oM 5 (.mv (.t 4)), oG 6 (.mv (.t 0)) 5 true, oG 7 (.nilck (.t 6)) 5 true, oG 8 (.faddr (.t 7) 1) 5 true, oG 9 (.faddr (.t 8) 0) 5 true, oG 10 (.load none (.t 9)) 5 true, oG 11 (.bin .eql (.t 10) (.c (.d (.int .i64 2)))) 5 true, oM 12 (.pick (.t 5) (.t 11) (.c (.d (.bool false))))] []) (.cond (.t 12) (.seq (.region false [ oM 13 (.mv (.t 0)), oM 14 (.callf 89 [(.t 13)]), oM 15 (.build [.d (.int .i64 0), .d (.int .i64 0)] [(0, 1, (.c (.d (.int .i64 (-1))))), (1, 1, (.t 14))]), ⟨none, .store 2 (.t 2) (.t 15), none⟩] []) .ret) .skip)) (.seq (.region false [ oM 16 (.mv (.t 0)), oM 17 (.callf 87 [(.t 16), (.c (.fn 127 []))]), oM 18 (.build [.d (.int .i64 0), .d (.int .i64 0)] [(0, 1, (.t 17))]), ⟨none, .store 2 (.t 2) (.t 18), none⟩] []) .ret)))
theorem ac126_ok : Tryz.f126.body.bind (cCode Tryz.prog Tryz.f126.ntmps) = some ac126 := by kernel_rfl
-- 127 jacquard/parse.isReg
def ac127 : ACode := (.seq (.region false [ oM 2 (.mv (.c (.d (.int .i64 0)))), oM 3 (.mv (.c (.d (.bool false))))] []) (.seq (.seq (.region false [ oM 4 (.mv (.t 0)), oM 5 (.lens (.t 4)), oM 6 (.bin .neq (.t 5) (.c (.d (.int .i64 2)))), oM 7 (.mv (.t 6)), oG 8 (.mv (.t 0)) 7 false, oG 9 (.idxs (.t 8) (.c (.d (.int .i64 0)))) 7 false, oG 10 (.bin .neq (.t 9) (.c (.d (.int .u8 114)))) 7 false, oM 11 (.pick (.t 7) (.c (.d (.bool true))) (.t 10)), oM 12 (.mv (.t 11)), oG 13 (.mv (.t 0)) 12 false, oG 14 (.idxs (.t 13) (.c (.d (.int .i64 1)))) 12 false, oG 15 (.bin .lss (.t 14) (.c (.d (.int .u8 48)))) 12 false, oM 16 (.pick (.t 12) (.c (.d (.bool true))) (.t 15)), oM 17 (.mv (.t 16)), oG 18 (.mv (.t 0)) 17 false, oG 19 (.idxs (.t 18) (.c (.d (.int .i64 1)))) 17 false, oG 20 (.bin .gtr (.t 19) (.c (.d (.int .u8 51)))) 17 false, oM 21 (.pick (.t 17) (.c (.d (.bool true))) (.t 20))] []) (.cond (.t 21) (.seq (.region false [ oM 2 (.mv (.c (.d (.int .i64 0)))), oM 3 (.mv (.c (.d (.bool false))))] []) .ret) .skip)) (.seq (.region false [ oM 22 (.mv (.t 0)), oM 23 (.idxs (.t 22) (.c (.d (.int .i64 1)))), oM 24 (.bin .and (.t 23) (.c (.d (.int .u8 3)))), oM 25 (.cvi .i64 (.t 24)), oM 2 (.mv (.t 25)), oM 3 (.mv (.c (.d (.bool true))))] []) .ret)))
theorem ac127_ok : Tryz.f127.body.bind (cCode Tryz.prog Tryz.f127.ntmps) = some ac127 := by kernel_rfl
-- 128 (*jacquard/parse.parser).right
def ac128 : ACode := (.block 0 (.seq (.region false [ oM 51 (.mv (.t 0)), oM 52 (.callf 32 [(.t 51), (.c (.d (.str [108, 111, 97, 100])))]), oM 50 (.mv (.t 52))] []) (.cond (.t 50) (.region false [ oM 53 (.mv (.t 1)), oM 54 (.mv (.t 1)), oM 55 (.mv (.t 0)), oM 56 (.callf 87 [(.t 55), (.c (.fn 88 []))]), oM 57 (.nilck (.t 53)), oM 58 (.faddr (.t 57) 0), ⟨none, .store 1 (.t 58) (.c (.d (.int .i64 2))), none⟩, oM 59 (.nilck (.t 54)), oM 60 (.faddr (.t 59) 2), ⟨none, .store 1 (.t 60) (.t 56), none⟩] []) (.seq (.region false [ oM 62 (.mv (.t 0)), oM 63 (.callf 32 [(.t 62), (.c (.d (.str [99, 97, 115])))]), oM 61 (.mv (.t 63))] []) (.cond (.t 61) (.seq (.region false [ oM 64 (.mv (.t 1)), oM 65 (.mv (.t 1)), oM 66 (.mv (.t 0)), oM 67 (.callf 87 [(.t 66), (.c (.fn 88 []))]), oM 68 (.nilck (.t 64)), oM 69 (.faddr (.t 68) 0), ⟨none, .store 1 (.t 69) (.c (.d (.int .i64 4))), none⟩, oM 70 (.nilck (.t 65)), oM 71 (.faddr (.t 70) 2), ⟨none, .store 1 (.t 71) (.t 67), none⟩] []) (.seq (.region false [ oM 72 (.mv (.t 1)), oM 73 (.mv (.t 0)), oM 74 (.callf 126 [(.t 73)]), oM 75 (.nilck (.t 72)), oM 76 (.faddr (.t 75) 3), ⟨none, .store 2 (.t 76) (.t 74), none⟩] []) (.region false [ oM 77 (.mv (.t 1)), oM 78 (.mv (.t 0)), oM 79 (.callf 126 [(.t 78)]), oM 80 (.nilck (.t 77)), oM 81 (.faddr (.t 80) 6), ⟨none, .store 2 (.t 81) (.t 79), none⟩] []))) (.seq (.region false [ oM 6 (.mv (.t 1)), oM 7 (.mv (.t 1)), oM 8 (.mv (.t 1)), oM 9 (.mv (.t 0)), oM 10 (.callf 126 [(.t 9)]), oM 11 (.build [.d (.int .i64 0), .d (.int .i64 0)] [(0, 1, (.c (.d (.int .i64 (-1)))))]), oM 12 (.nilck (.t 6)), oM 13 (.faddr (.t 12) 0), ⟨none, .store 1 (.t 13) (.c (.d (.int .i64 5))), none⟩, oM 14 (.nilck (.t 7)), oM 15 (.faddr (.t 14) 3), ⟨none, .store 2 (.t 15) (.t 10), none⟩, oM 16 (.nilck (.t 8)), oM 17 (.faddr (.t 16) 6), ⟨none, .store 2 (.t 17) (.t 11), none⟩] []) (.seq (.seq (.region false [ oM 18 (.mv (.t 0)), oM 19 (.callf 36 [(.t 18)]), oM 20 (.un .not (.t 19)), oM 21 (.mv (.t 20)), oG 22 (.mv (.t 0)) 21 false, oG 23 (.nilck (.t 22)) 21 false, oG 24 (.faddr (.t 23) 1) 21 false, oG 25 (.faddr (.t 24) 0) 21 false, oG 26 (.load none (.t 25)) 21 false, oG 27 (.bin .neq (.t 26) (.c (.d (.int .i64 3)))) 21 false, oM 28 (.pick (.t 21) (.c (.d (.bool true))) (.t 27))] []) (.cond (.t 28) .ret .skip)) (.seq (.region false [ oM 30 (.mv (.t 0)), oM 31 (.nilck (.t 30)), oM 32 (.faddr (.t 31) 1), oM 33 (.faddr (.t 32) 1), oM 34 (.load none (.t 33)), oM 35 (.callf 141 [(.t 34)]), oM 29 (.mv (.t 35)), oM 36 (.ext (.t 29) 0), oM 37 (.ext (.t 29) 1), oM 4 (.mv (.t 36)), oM 5 (.mv (.t 37))] []) (.seq (.region false [ oM 38 (.mv (.t 5))] []) (.cond (.t 38) (.seq (.region false [ oM 39 (.mv (.t 0)), oM 40 (.callf 29 [(.t 39)])] []) (.region false [ oM 41 (.mv (.t 1)), oM 42 (.mv (.t 1)), oM 43 (.mv (.t 4)), oM 44 (.mv (.t 0)), oM 45 (.callf 126 [(.t 44)]), oM 46 (.nilck (.t 41)), oM 47 (.faddr (.t 46) 5), ⟨none, .store 1 (.t 47) (.t 43), none⟩, oM 48 (.nilck (.t 42)), oM 49 (.faddr (.t 48) 6), ⟨none, .store 2 (.t 49) (.t 45), none⟩] [])) .skip))))))))))
theorem ac128_ok : Tryz.f128.body.bind (cCode Tryz.prog Tryz.f128.ntmps) = some ac128 := by kernel_rfl
-- 129 jacquard/jacquardref2.reg
end Go.Proofs.YtpfbljkfbjjlkaaGreatDoor

/- A test as plain data, and its cells. -/
namespace Go.Proofs.YtpfbljkfbjjlkaaGreatDoor
open Go Go.Jq
structure Atom where
  thread : Int
  reg : Int
  loc : Int
  value : Int
def Atom.cells (a : Atom) : List DV := [.int .i64 a.thread, .int .i64 a.reg, .int .i64 a.loc, .int .i64 a.value]
structure Opnd where
  reg : Int
  value : Int
def Opnd.cells (o : Opnd) : List DV := [.int .i64 o.reg, .int .i64 o.value]
structure Ins where
  kind : Int
  reg : Int
  loc : Int
  a : Opnd
  op : Int
  b : Opnd
  n : Int
def Ins.cells (i : Ins) : List DV := [.int .i64 i.kind, .int .i64 i.reg, .int .i64 i.loc, .int .i64 i.a.reg, .int .i64 i.a.value, .int .i64 i.op, .int .i64 i.b.reg, .int .i64 i.b.value, .int .i64 i.n]
structure Init where
  loc : Int
  value : Int
def Init.cells (i : Init) : List DV := [.int .i64 i.loc, .int .i64 i.value]
structure Test where
  name : List UInt8
  inits : List Init
  threads : List (List Ins)
  kind : Int
  rows : List (List Atom)
def IsTest (t : Test) (cs : List DV) : Prop := ∃ I T A, cs = [.str t.name, I, T, .int .i64 t.kind, A] ∧ IsSl Init.cells t.inits I ∧ IsSl2 Ins.cells t.threads T ∧ IsSl2 Atom.cells t.rows A
theorem init_len (i : Init) : (Init.cells i).length = 2 := rfl
theorem ins_len (i : Ins) : (Ins.cells i).length = 9 := rfl
theorem atom_len (i : Atom) : (Atom.cells i).length = 4 := rfl
end Go.Proofs.YtpfbljkfbjjlkaaGreatDoor

/- Texts of tests, tests that may be, the test made of numbers: plain Lean, no program in sight. -/
namespace Go.Proofs.YtpfbljkfbjjlkaaGreatDoor
open Go Go.Jq
set_option maxRecDepth 100000
set_option linter.unusedSimpArgs false
def signsT : List (List UInt8) := [[], [43], [45], [42], [38], [124], [94], [60, 60], [62, 62], [61, 61], [33, 61], [60]]
def signT (op : Int) : List UInt8 := if 1 ≤ op ∧ op ≤ 11 then signsT.getD op.toNat [] else []
def isLocB (n : Int) : Bool := decide (97 ≤ n) && decide (n ≤ 122)
def isRegB (n : Int) : Bool := decide (0 ≤ n) && decide (n < 4)
def isOpB (o : Opnd) : Bool := decide (o.reg = -1) || (isRegB o.reg && decide (o.value = 0))
def wordAt (i : Nat) (c : UInt8) : Bool := (decide (97 ≤ c.toNat) && decide (c.toNat ≤ 122)) || (decide (i ≠ 0) && decide (48 ≤ c.toNat) && decide (c.toNat ≤ 57))
def isWordB (s : List UInt8) : Bool := (List.range s.length).all (fun i => wordAt i (s.getD i 0)) && decide (s ≠ [])
theorem isWord_at (s : List UInt8) {i : Nat} (hi : i < s.length) (h : wordAt i (s.getD i 0) = false) : isWordB s = false := by
  have : (List.range s.length).all (fun i => wordAt i (s.getD i 0)) = false := by
    rw [List.all_eq_false]
    exact ⟨i, List.mem_range.2 hi, by rw [h]; decide⟩
  unfold isWordB
  rw [this]
  rfl
theorem isWord_all (s : List UInt8) (h : ∀ i, i < s.length → wordAt i (s.getD i 0) = true) : isWordB s = decide (s ≠ []) := by
  have : (List.range s.length).all (fun i => wordAt i (s.getD i 0)) = true := by
    rw [List.all_eq_true]
    exact fun i hi => h i (List.mem_range.1 hi)
  unfold isWordB
  rw [this]
  rfl
def eqIns (x w : Ins) : Bool := decide (x.kind = w.kind) && (decide (x.reg = w.reg) && (decide (x.loc = w.loc) && (decide (x.a.reg = w.a.reg) && (decide (x.a.value = w.a.value) && (decide (x.op = w.op) && (decide (x.b.reg = w.b.reg) && (decide (x.b.value = w.b.value) && (decide (x.n = w.n) && true))))))))
def okInsB (x : Ins) : Bool :=
  if x.kind = 1 then (isLocB x.loc && isOpB x.a) && eqIns x ⟨x.kind, 0, x.loc, x.a, 0, ⟨0, 0⟩, 0⟩
  else if x.kind = 2 then (isLocB x.loc && isRegB x.reg) && eqIns x ⟨x.kind, x.reg, x.loc, ⟨0, 0⟩, 0, ⟨0, 0⟩, 0⟩
  else if x.kind = 3 then eqIns x ⟨x.kind, 0, 0, ⟨0, 0⟩, 0, ⟨0, 0⟩, 0⟩
  else if x.kind = 4 then (isLocB x.loc && isRegB x.reg && isOpB x.a && isOpB x.b) && eqIns x ⟨x.kind, x.reg, x.loc, x.a, 0, x.b, 0⟩
  else if x.kind = 5 then (isRegB x.reg && isOpB x.a && isOpB x.b && decide (0 ≤ x.op) && decide (x.op ≤ 11) && (decide (0 < x.op) || (decide (x.b.reg = -1) && decide (x.b.value = 0)))) && eqIns x ⟨x.kind, x.reg, 0, x.a, x.op, x.b, 0⟩
  else if x.kind = 6 then (decide (0 ≤ x.n) && isOpB x.a && isOpB x.b) && eqIns x ⟨x.kind, 0, 0, x.a, 0, x.b, x.n⟩
  else false
def okAtomB (a : Atom) : Bool := if a.thread = -1 then decide (a.reg = 0) && isLocB a.loc else decide (0 ≤ a.thread) && decide (a.thread ≤ 9) && decide (a.loc = 0) && isRegB a.reg
def badRowB (l : List Atom) : Bool := decide (l.length = 0) || l.any fun a => !okAtomB a
def okCondB (kind : Int) (rows : List (List Atom)) : Bool :=
  if kind = 0 then decide (rows.length = 0) else (decide (kind = 1) || decide (kind = 2)) && decide (0 < rows.length) && !rows.any badRowB
def badThreadB (l : List Ins) : Bool := l.any fun x => !okInsB x
def badInitB (l : List Init) : Bool := l.any fun x => !isLocB x.loc
def okB (t : Test) : Bool := isWordB t.name && !badInitB t.inits && !t.threads.any badThreadB && okCondB t.kind t.rows
def IsStrs (ss : List (List UInt8)) (X : DV) : Prop := IsSl (fun s => [.str s]) ss X
theorem flatMap_one {α β : Type} (f : α → β) (l : List α) : l.flatMap (fun a => [f a]) = l.map f := by
  induction l with
  | nil => rfl
  | cons a l ih => simp [List.flatMap_cons, ih]
def locT (n : Int) : List UInt8 := (Utf8.encode (IntKind.i32.wrap n)).data.toList
def regT (n : Int) : List UInt8 := [114] ++ Lib.itoa n
def opT (o : Opnd) : List UInt8 := if o.reg = -1 then Lib.itoa o.value else regT o.reg
def partsI (x : Ins) : List (List UInt8) :=
  if x.kind = 1 then [[115, 116, 111, 114, 101], locT x.loc, opT x.a]
  else if x.kind = 2 then [regT x.reg, [61], [108, 111, 97, 100], locT x.loc]
  else if x.kind = 3 then [[102, 101, 110, 99, 101]]
  else if x.kind = 4 then [regT x.reg, [61], [99, 97, 115], locT x.loc, opT x.a, opT x.b]
  else if x.kind = 5 then [regT x.reg, [61], opT x.a] ++ (if 0 < x.op then [signT x.op, opT x.b] else [])
  else [[115, 107, 105, 112], Lib.itoa x.n, [105, 102], opT x.a, [61, 61], opT x.b]
def insT (x : Ins) : List UInt8 := if okInsB x then Lib.join (partsI x ++ [[59]]) [32] else []
def I64i (x : Ins) : Prop := I64 x.reg ∧ I64 x.a.reg ∧ I64 x.a.value ∧ I64 x.b.reg ∧ I64 x.b.value ∧ I64 x.n
theorem utf8_len (n : Int) : (Utf8.encode n).data.toList.length ≤ 4 := by
  unfold Utf8.encode
  simp only
  repeat' split
  all_goals simp
theorem join_len (sep : List UInt8) : ∀ (l : List (List UInt8)) (k : Nat), (∀ s ∈ l, s.length ≤ k) → (Lib.join l sep).length ≤ l.length * (k + sep.length)
  | [], _, _ => by simp [Lib.join]
  | [s], k, h => by
    have := h s (by simp)
    simp [Lib.join, List.intercalate]
    omega
  | s :: s' :: l, k, h => by
    have h1 := h s (by simp)
    have h2 := join_len sep (s' :: l) k (fun x hx => h x (List.mem_cons_of_mem _ hx))
    have e : Lib.join (s :: s' :: l) sep = s ++ sep ++ Lib.join (s' :: l) sep := by simp [Lib.join, List.intercalate]
    rw [e, List.length_append, List.length_append]
    simp only [List.length_cons] at h2 ⊢
    rw [Nat.succ_mul]
    omega
theorem regT_len {n : Int} (h : I64 n) : (regT n).length ≤ 21 := by
  have := itoa_len h
  simp [regT]; omega
theorem opT_len {o : Opnd} (h : I64 o.value) (h' : I64 o.reg) : (opT o).length ≤ 21 := by
  unfold opT
  split
  · have := itoa_len h; omega
  · exact regT_len h'
theorem signT_len (op : Int) : (signT op).length ≤ 2 := by
  unfold signT
  split
  · obtain ⟨q, rfl⟩ : ∃ q : Nat, op = q := ⟨op.toNat, by omega⟩
    have : q < 12 := by omega
    match q, this with
    | 0, _ | 1, _ | 2, _ | 3, _ | 4, _ | 5, _ | 6, _ | 7, _ | 8, _ | 9, _ | 10, _ | 11, _ => simp [signsT]
  · simp
theorem partsI_len {x : Ins} (h : I64i x) : (partsI x).length ≤ 6 ∧ ∀ s ∈ partsI x ++ [[59]], s.length ≤ 21 := by
  obtain ⟨h1, h2, h3, h4, h5, h6⟩ := h
  have l1 := regT_len h1
  have l2 := opT_len h3 h2
  have l3 := opT_len h5 h4
  have l4 := itoa_len h6
  have l5 : (locT x.loc).length ≤ 4 := utf8_len _
  have l6 := signT_len x.op
  have l4' : (Lib.itoa x.n).length ≤ 21 := by omega
  have l5' : (locT x.loc).length ≤ 21 := by omega
  have l6' : (signT x.op).length ≤ 21 := by omega
  unfold partsI
  by_cases k1 : x.kind = 1
  · rw [if_pos k1]; exact ⟨by simp, by simp only [List.forall_mem_append, List.forall_mem_cons]; simp [l2, l5']⟩
  rw [if_neg k1]
  by_cases k2 : x.kind = 2
  · rw [if_pos k2]; exact ⟨by simp, by simp only [List.forall_mem_append, List.forall_mem_cons]; simp [l1, l5']⟩
  rw [if_neg k2]
  by_cases k3 : x.kind = 3
  · rw [if_pos k3]; exact ⟨by simp, by simp only [List.forall_mem_append, List.forall_mem_cons]; simp⟩
  rw [if_neg k3]
  by_cases k4 : x.kind = 4
  · rw [if_pos k4]; exact ⟨by simp, by simp only [List.forall_mem_append, List.forall_mem_cons]; simp [l1, l2, l3, l5']⟩
  rw [if_neg k4]
  by_cases k5 : x.kind = 5
  · rw [if_pos k5]
    by_cases k6 : 0 < x.op
    · rw [if_pos k6]; exact ⟨by simp, by simp only [List.forall_mem_append, List.forall_mem_cons]; simp [l1, l2, l3, l6']⟩
    · rw [if_neg k6]; exact ⟨by simp, by simp only [List.forall_mem_append, List.forall_mem_cons]; simp [l1, l2]⟩
  rw [if_neg k5]; exact ⟨by simp, by simp only [List.forall_mem_append, List.forall_mem_cons]; simp [l2, l3, l4']⟩
theorem insT_join {x : Ins} (h : I64i x) : (Lib.join (partsI x ++ [[59]]) [32]).length ≤ 154 := by
  obtain ⟨h1, h2⟩ := partsI_len h
  have := join_len [32] (partsI x ++ [[59]]) 21 h2
  simp only [List.length_append, List.length_singleton] at this
  have h3 : ((partsI x).length + 1) * 22 ≤ 7 * 22 := Nat.mul_le_mul_right _ (by omega)
  omega
theorem insT_len {x : Ins} (h : I64i x) : (insT x).length ≤ 154 := by
  unfold insT
  split
  · exact insT_join h
  · simp
def atomT (a : Atom) : List UInt8 := (if a.thread = -1 then locT a.loc else Lib.itoa a.thread ++ [32, 58, 32] ++ regT a.reg) ++ [32, 61, 32] ++ Lib.itoa a.value
def rowT (l : List Atom) : List UInt8 := Lib.join (l.map atomT) [32, 38, 32]
def wordT (kind : Int) : List UInt8 := if kind = 2 then [102, 111, 114, 97, 108, 108, 32] else [101, 120, 105, 115, 116, 115, 32]
def condT (kind : Int) (rows : List (List Atom)) : List UInt8 :=
  if kind = 0 ∨ okCondB kind rows = false then [] else wordT kind ++ Lib.join (rows.map rowT) [32, 124, 32] ++ [32, 59]
def I64a (a : Atom) : Prop := I64 a.thread ∧ I64 a.reg ∧ I64 a.value
def FewC (rows : List (List Atom)) : Prop := rows.length ≤ 12 ∧ ∀ l ∈ rows, l.length ≤ 12 ∧ ∀ a ∈ l, I64a a
theorem atomT_len {a : Atom} (h : I64a a) : (atomT a).length ≤ 67 := by
  have h1 := itoa_len h.1
  have h2 := regT_len h.2.1
  have h3 := itoa_len h.2.2
  have h4 : (locT a.loc).length ≤ 4 := utf8_len _
  unfold atomT
  split <;> simp <;> omega
def initL (x : Init) : List UInt8 := locT x.loc ++ [32, 61, 32] ++ Lib.itoa x.value ++ [32, 59] ++ [10]
def insL (x : Ins) : List UInt8 := insT x ++ [10]
def threadL (l : List Ins) : List UInt8 := [116, 104, 114, 101, 97, 100, 32, 123, 10] ++ l.flatMap insL ++ [125, 10]
theorem flat_len {α : Type} (f : α → List UInt8) (k : Nat) : ∀ (l : List α), (∀ x ∈ l, (f x).length ≤ k) → (l.flatMap f).length ≤ l.length * k
  | [], _ => by simp
  | x :: l, h => by
    have h1 := h x (by simp)
    have h2 := flat_len f k l (fun y hy => h y (List.mem_cons_of_mem _ hy))
    simp only [List.flatMap_cons, List.length_append, List.length_cons, Nat.succ_mul]
    omega
theorem flat_take {α : Type} (f : α → List UInt8) {l : List α} {i : Nat} (h : i < l.length) : (l.take (i + 1)).flatMap f = (l.take i).flatMap f ++ f l[i] := by
  rw [List.take_succ_eq_append_getElem h, List.flatMap_append]
  simp
theorem initL_len {x : Init} (h : I64 x.value) : (initL x).length ≤ 30 := by
  have h1 := itoa_len h
  have h4 : (locT x.loc).length ≤ 4 := utf8_len _
  simp only [initL, List.length_append, List.length_cons, List.length_nil]
  omega
theorem insL_len {x : Ins} (h : I64i x) : (insL x).length ≤ 155 := by
  have h1 := insT_len h
  simp only [insL, List.length_append, List.length_cons, List.length_nil]
  omega
theorem renB (π : Nat → Option Nat) (s : List UInt8) : renL π (s.map fun b => AV.d (DV.int IntKind.u8 b.toNat)) = s.map fun b => AV.d (DV.int IntKind.u8 b.toNat) := by
  have e : (s.map fun b => AV.d (DV.int IntKind.u8 b.toNat)) = (s.map fun b => DV.int IntKind.u8 b.toNat).map .d := by simp
  rw [e, renL_d]
structure FewT (t : Test) : Prop where
  name : t.name.length ≤ 61
  inits : t.inits.length ≤ 41
  values : ∀ x ∈ t.inits, I64 x.value
  threads : t.threads.length ≤ 7
  ins : ∀ l ∈ t.threads, l.length ≤ 30 ∧ ∀ x ∈ l, I64i x
  rows : FewC t.rows
def FewC3 (rows : List (List Atom)) : Prop := rows.length ≤ 4001 ∧ ∀ l ∈ rows, l.length ≤ 4001 ∧ ∀ a ∈ l, I64a a
theorem FewC.three {rows : List (List Atom)} (h : FewC rows) : FewC3 rows := ⟨by have := h.1; omega, fun l hl => ⟨by have := (h.2 l hl).1; omega, (h.2 l hl).2⟩⟩
structure FewT3 (t : Test) : Prop where
  name : t.name.length ≤ 4001
  inits : t.inits.length ≤ 4001
  values : ∀ x ∈ t.inits, I64 x.value
  threads : t.threads.length ≤ 4001
  ins : ∀ l ∈ t.threads, l.length ≤ 4001 ∧ ∀ x ∈ l, I64i x
  rows : FewC3 t.rows
theorem FewT.three {t : Test} (h : FewT t) : FewT3 t := ⟨by have := h.name; omega, by have := h.inits; omega, h.values, by have := h.threads; omega, fun l hl => ⟨by have := (h.ins l hl).1; omega, (h.ins l hl).2⟩, h.rows.three⟩
theorem rowT_len3 {l : List Atom} (h : l.length ≤ 4001 ∧ ∀ a ∈ l, I64a a) : (rowT l).length ≤ 300000 := by
  have := join_len [32, 38, 32] (l.map atomT) 67 (fun s hs => by
    obtain ⟨a, ha, rfl⟩ := List.mem_map.1 hs
    exact atomT_len (h.2 a ha))
  rw [List.length_map] at this
  have h2 := h.1
  simp only [List.length_cons, List.length_nil] at this
  unfold rowT
  omega
theorem rowsT_len3 {rows : List (List Atom)} (h : FewC3 rows) : (Lib.join (rows.map rowT) [32, 124, 32]).length ≤ 1300000000 := by
  have := join_len [32, 124, 32] (rows.map rowT) 300000 (fun s hs => by
    obtain ⟨a, ha, rfl⟩ := List.mem_map.1 hs
    exact rowT_len3 (h.2 a ha))
  rw [List.length_map] at this
  have h2 := h.1
  simp only [List.length_cons, List.length_nil] at this
  omega
theorem condT_len3 {kind : Int} {rows : List (List Atom)} (h : FewC3 rows) : (condT kind rows).length ≤ 1300000100 := by
  have := rowsT_len3 h
  unfold condT wordT
  split
  · simp
  · split <;> simp <;> omega
theorem threadL_len3 {l : List Ins} (h : l.length ≤ 4001) (hv : ∀ x ∈ l, I64i x) : (threadL l).length ≤ 630000 := by
  have h1 := flat_len insL 155 l (fun x hx => insL_len (hv x hx))
  have h2 : l.length * 155 ≤ 4001 * 155 := Nat.mul_le_mul_right _ h
  simp only [threadL, List.length_append, List.length_cons, List.length_nil]
  omega
def headL (t : Test) : List UInt8 := [116, 101, 115, 116, 32] ++ t.name ++ [32, 123] ++ [10]
def initsL (l : List Init) : List UInt8 := if l = [] then [] else [105, 110, 105, 116, 32, 123, 10] ++ l.flatMap initL ++ [125, 10]
def condL (t : Test) : List UInt8 := if condT t.kind t.rows = [] then [] else condT t.kind t.rows ++ [10]
def testT (t : Test) : List UInt8 := if okB t then headL t ++ initsL t.inits ++ t.threads.flatMap threadL ++ condL t ++ [125, 10] else []
theorem initsL_len3 {l : List Init} (h : l.length ≤ 4001) (hv : ∀ x ∈ l, I64 x.value) : (l.flatMap initL).length ≤ 130000 := by
  have h1 := flat_len initL 30 l (fun x hx => initL_len (hv x hx))
  have h2 : l.length * 30 ≤ 4001 * 30 := Nat.mul_le_mul_right _ h
  omega
end Go.Proofs.YtpfbljkfbjjlkaaGreatDoor

/- Signs of numbers. -/
namespace Go.Proofs.YtpfbljkfbjjlkaaGreatDoor
open Go Go.Jq
set_option maxRecDepth 100000
set_option linter.unusedSimpArgs false
theorem signs_pure : Pure Tryz.prog 133 [] (.agg (signsT.map fun s => .d (.str s))) := by
  refine acalls_of Tryz.func133 ac133_ok Tryz.ntmps133 Tryz.results133 rfl ?_
  unfold ac133
  refine bwp_seq fun K hK => bwp_region rfl ?_
  simp -implicitDefEqProofs only [go_sem, ↓reduceIte]
  refine hK _ ?_; clear hK
  refine bwp_seq fun K hK => bwp_region rfl ?_
  simp -implicitDefEqProofs only [go_sem, ↓reduceIte]
  refine hK _ ?_; clear hK
  refine bwp_ret ?_
  simp only [go_sem]
  refine aend_mem (.agg (signsT.map fun s => .d (.str s))) [] [] ?_ rfl rfl trivial ⟨rfl, rfl⟩
  rfl
end Go.Proofs.YtpfbljkfbjjlkaaGreatDoor

/- Signs to ops. -/
namespace Go.Proofs.YtpfbljkfbjjlkaaGreatDoor
open Go Go.Jq
set_option maxRecDepth 100000
set_option linter.unusedSimpArgs false
def opFrom (s : List UInt8) (i : Nat) : Nat → Int × Bool
  | 0 => (0, false)
  | f + 1 => if 0 < i ∧ signsT.getD i [] = s then (i, true) else opFrom s (i + 1) f
def opW (s : List UInt8) : Int × Bool := opFrom s 0 12
theorem opFrom_hit {s : List UInt8} {i f : Nat} (h : 0 < i) (h2 : signsT.getD i [] = s) (hf : 0 < f) : opFrom s i f = ((i : Int), true) := by
  cases f with
  | zero => omega
  | succ f => rw [opFrom, if_pos ⟨h, h2⟩]
theorem opFrom_miss {s : List UInt8} {i f : Nat} (h : ¬ (0 < i ∧ signsT.getD i [] = s)) (hf : 0 < f) : opFrom s i f = opFrom s (i + 1) (f - 1) := by
  cases f with
  | zero => omega
  | succ f => rw [opFrom, if_neg h]; rfl
def sgAV : List AV := signsT.map fun s => .d (.str s)
theorem sg_at {i : Nat} (hi : i < 12) : sgAV[i]? = some (.d (.str (signsT.getD i []))) := by
  have key : ∀ q : Fin 12, sgAV[q.1]? = some (.d (.str (signsT.getD q.1 []))) := by
    intro q
    match q with
    | ⟨0, _⟩ => rfl | ⟨1, _⟩ => rfl | ⟨2, _⟩ => rfl | ⟨3, _⟩ => rfl | ⟨4, _⟩ => rfl | ⟨5, _⟩ => rfl | ⟨6, _⟩ => rfl | ⟨7, _⟩ => rfl | ⟨8, _⟩ => rfl | ⟨9, _⟩ => rfl | ⟨10, _⟩ => rfl | ⟨11, _⟩ => rfl
  exact key ⟨i, hi⟩
def opS (s : List UInt8) (i : Nat) : St := ⟨[(7, .d (.int .i64 i)), (6, .agg sgAV), (0, .d (.str s))], [], 0⟩
set_option maxHeartbeats 4000000 in
theorem op_pure (s : List UInt8) : Pure Tryz.prog 141 [.d (.str s)] (.tup [.d (.int .i64 (opW s).1), .d (.bool (opW s).2)]) := by
  refine acalls_of Tryz.func141 ac141_ok Tryz.ntmps141 Tryz.results141 rfl ?_
  unfold ac141
  refine bwp_seq fun K hK => bwp_region rfl ?_
  simp only [go_sem, ↓reduceIte]
  refine hK _ ?_; clear hK
  refine bwp_seq fun K0 hK0 => ?_
  refine bwp_seq fun K hK => bwp_region rfl ?_
  simp only [go_sem, ↓reduceIte]
  refine callK_pure signs_pure rfl rfl ?_
  simp only [go_sem, ↓reduceIte]
  refine hK _ ?_; clear hK
  refine bwp_block ?_
  have hren : renL (fun _ => none) (signsT.map fun s => AV.d (DV.str s)) = signsT.map fun s => AV.d (DV.str s) := rfl
  refine bwp_leads (S' := opS s 0) (Leads.ent [] ⟨by simp [entT, fget, AV.ren, renL, pget, opS, sgAV, hren], by simp [entM, pinv, mget, mset, renL, AV.ren, pget, renL_append, -List.map_map, opS, sgAV, hren], rfl, rfl⟩) ?_
  refine bwp_countI (fun i => opS s i) (fun i => i ≤ 12 ∧ opW s = opFrom s i (12 - i)) 12 ⟨by omega, rfl⟩ ?_
  rintro i hi ⟨_, hp⟩
  have hrA : renL (fun _ => none) sgAV = sgAV := rfl
  unfold ac141L0 opS
  by_cases hlt : i < 12
  · have hlt' : (i : Int) < 12 := by omega
    have hcell := sg_at hlt
    have hi0 : (0 : Int) ≤ (i : Int) := Int.natCast_nonneg _
    have hw : IntKind.i64.wrap ((i : Int) + 1) = ((i + 1 : Nat) : Int) := by rw [wrap_id (by unfold I64; omega)]; rfl
    have hlen : sgAV.length = 12 := rfl
    have hmiss : ¬ (0 < i ∧ signsT.getD i [] = s) → opW s = opFrom s (i + 1) (12 - (i + 1)) := fun h => by
      rw [hp, opFrom_miss h (by omega)]; congr 1
    refine bwp_seq fun K hK => bwp_region rfl ?_
    simp only [go_sem, ↓reduceIte, hlt']
    refine hK _ ?_; clear hK
    refine bwp_seq fun K1 hK1 => ?_
    refine bwp_cond true (by simp [ev, fget]) (fun _ => ?_) (fun h => nomatch h)
    refine bwp_skip ?_
    refine hK1 _ ?_; clear hK1
    refine bwp_seq fun K1 hK1 => ?_
    refine bwp_block ?_
    refine bwp_seq fun K hK => bwp_region rfl ?_
    simp only [go_sem, ↓reduceIte, hi0, hlt', hlt, Int.toNat_natCast, List.getElem?_drop, Nat.mul_one, Nat.add_zero, hcell, hlen]
    refine hK _ ?_; clear hK
    by_cases h0 : i = 0
    · have hn0 : ¬ (0 : Int) < (i : Int) := by omega
      refine bwp_seq fun K hK => bwp_region rfl ?_
      simp only [go_sem, ↓reduceIte, hn0]
      refine hK _ ?_; clear hK
      refine bwp_cond false (by simp [ev, fget]) (fun h => nomatch h) (fun _ => ?_)
      refine bwp_skip ?_
      refine hK1 _ ?_; clear hK1
      refine bwp_region rfl ?_
      simp only [go_sem, ↓reduceIte, hw]
      refine ⟨by omega, ⟨by omega, hmiss (by omega)⟩, Leads.ent [] ⟨by simp [opS, entT, fget, AV.ren, pget, hrA], by simp [opS, entM], rfl, rfl⟩⟩
    · have h1 : (0 : Int) < (i : Int) := by omega
      by_cases h2 : signsT.getD i [] = s
      · refine bwp_seq fun K hK => bwp_region rfl ?_
        simp only [go_sem, ↓reduceIte, h1, h2]
        refine hK _ ?_; clear hK
        refine bwp_cond true (by simp [ev, fget]) (fun _ => ?_) (fun h => nomatch h)
        refine bwp_seq fun K hK => bwp_region rfl ?_
        simp only [go_sem, ↓reduceIte]
        refine hK _ ?_; clear hK
        refine bwp_ret ?_
        simp only [go_sem]
        refine aend_ret _ rfl rfl ⟨?_, rfl⟩
        have := opFrom_hit (s := s) (i := i) (f := 12 - i) (by omega) h2 (by omega)
        simp [fget, hp, this]
      · refine bwp_seq fun K hK => bwp_region rfl ?_
        simp only [go_sem, ↓reduceIte, h1, h2]
        refine hK _ ?_; clear hK
        refine bwp_cond false (by simp [ev, fget]) (fun h => nomatch h) (fun _ => ?_)
        refine bwp_skip ?_
        refine hK1 _ ?_; clear hK1
        refine bwp_region rfl ?_
        simp only [go_sem, ↓reduceIte, hw]
        refine ⟨by omega, ⟨by omega, hmiss (fun h => h2 h.2)⟩, Leads.ent [] ⟨by simp [opS, entT, fget, AV.ren, pget, hrA], by simp [opS, entM], rfl, rfl⟩⟩
  · have hlt' : ¬ (i : Int) < 12 := by omega
    have hin : i = 12 := by omega
    subst hin
    refine bwp_seq fun K hK => bwp_region rfl ?_
    simp only [go_sem, ↓reduceIte, hlt']
    refine hK _ ?_; clear hK
    refine bwp_seq fun K1 hK1 => ?_
    refine bwp_cond false (by simp [ev, fget]) (fun h => nomatch h) (fun _ => ?_)
    refine bwp_exit ?_
    simp only [go_sem, ↓reduceIte]
    refine hK0 _ ?_; clear hK0
    refine bwp_seq fun K hK => bwp_region rfl ?_
    simp only [go_sem, ↓reduceIte]
    refine hK _ ?_; clear hK
    refine bwp_ret ?_
    simp only [go_sem]
    refine aend_ret _ rfl rfl ⟨?_, rfl⟩
    simp [fget, hp, opFrom]
end Go.Proofs.YtpfbljkfbjjlkaaGreatDoor

/- A parser as a tree: what is looked at, what is eaten, what is refused; a test's tree. -/
namespace Go.Proofs.YtpfbljkfbjjlkaaGreatDoor
open Go Go.Jq
set_option maxRecDepth 100000
set_option linter.unusedSimpArgs false
abbrev PE := Int × Nat
abbrev PR (α : Type) := Except PE α
def curT (s : List UInt8) (a : Nat) : Tok := (nextW s a).1
def goW (s : List UInt8) (a : Nat) : PR Nat := if (nextW s a).2.2 = 0 then .ok a else .error ((nextW s a).2.2, skipA s a)
def eatW (s : List UInt8) (a : Nat) : PR Nat := goW s (nextW s a).2.1
inductive PT (α : Type) where
  | ret (x : α)
  | bad (code : Int)
  | cur (k : Int → List UInt8 → PT α)
  | eat (k : PT α)
namespace PT
variable {α β : Type}
def bind : PT α → (α → PT β) → PT β
  | .ret x, f => f x
  | .bad c, _ => .bad c
  | .cur k, f => .cur fun d x => (k d x).bind f
  | .eat k, f => .eat (k.bind f)
def run (s : List UInt8) : PT α → Nat → PR (α × Nat)
  | .ret x, a => .ok (x, a)
  | .bad c, a => .error (c, (curT s a).pl)
  | .cur k, a => (k (curT s a).kd (curT s a).tx).run s a
  | .eat k, a => match eatW s a with
    | .ok b => k.run s b
    | .error e => .error e
theorem run_bind (s : List UInt8) (t : PT α) (f : α → PT β) : ∀ a, (t.bind f).run s a = match t.run s a with
    | .ok (x, b) => (f x).run s b
    | .error e => .error e := by
  induction t with
  | ret x => intro a; rfl
  | bad c => intro a; rfl
  | cur k ih => intro a; exact ih _ _ a
  | eat k ih =>
    intro a
    simp only [bind, run]
    cases eatW s a with
    | ok b => exact ih b
    | error e => rfl
end PT
def locN (x : List UInt8) : Option Int := if x.length = 1 then some ((x.getD 0 0).toNat : Int) else none
def regN (x : List UInt8) : Option Int := if x.length = 2 ∧ x.getD 0 0 = 114 ∧ 48 ≤ (x.getD 1 0).toNat ∧ (x.getD 1 0).toNat ≤ 51 then some (((x.getD 1 0).toNat - 48 : Nat) : Int) else none
def isK (d : Int) (y : List UInt8) (x : List UInt8) : Bool := (decide (d = 3) || decide (d = 1)) && decide (y = x)
def wStore : List UInt8 := [115, 116, 111, 114, 101]
def wFence : List UInt8 := [102, 101, 110, 99, 101]
def wSkip : List UInt8 := [115, 107, 105, 112]
def wIf : List UInt8 := [105, 102]
def wLoad : List UInt8 := [108, 111, 97, 100]
def wCas : List UInt8 := [99, 97, 115]
def wTest : List UInt8 := [116, 101, 115, 116]
def wInit : List UInt8 := [105, 110, 105, 116]
def wThread : List UInt8 := [116, 104, 114, 101, 97, 100]
def wExists : List UInt8 := [101, 120, 105, 115, 116, 115]
def wForall : List UInt8 := [102, 111, 114, 97, 108, 108]
def tTake {α : Type} (x : List UInt8) (yes no : PT α) : PT α := .cur fun d y => if isK d y x = true then .eat yes else no
def tMust (x : List UInt8) : PT Unit := .cur fun d y => if isK d y x = true then .eat (.ret ()) else .bad 6
def tWord : PT (List UInt8) := .cur fun d y => if d = 1 then .eat (.ret y) else .bad 6
def tNum : PT Int := .cur fun d y => if d = 2 then .eat (.ret (parseW y).1) else .bad 6
def tNamed (f : List UInt8 → Option Int) : PT Int := .cur fun d y => if d = 1 then (match f y with
  | some n => .eat (.ret n)
  | none => .bad 7) else .bad 6
def tOpd : PT Opnd := .cur fun d _ => if d = 2 then tNum.bind fun n => .ret ⟨-1, n⟩ else (tNamed regN).bind fun n => .ret ⟨n, 0⟩
def tRight (r : Int) : PT Ins :=
  tTake wLoad ((tNamed locN).bind fun l => .ret ⟨2, r, l, ⟨0, 0⟩, 0, ⟨0, 0⟩, 0⟩) <|
  tTake wCas ((tNamed locN).bind fun l => tOpd.bind fun x => tOpd.bind fun y => .ret ⟨4, r, l, x, 0, y, 0⟩) <|
  tOpd.bind fun x => .cur fun d y => if d = 3 ∧ (opW y).2 = true then .eat (tOpd.bind fun z => .ret ⟨5, r, 0, x, (opW y).1, z, 0⟩) else .ret ⟨5, r, 0, x, 0, ⟨-1, 0⟩, 0⟩
def tIns : PT Ins :=
  tTake wStore ((tNamed locN).bind fun l => tOpd.bind fun x => .ret ⟨1, 0, l, x, 0, ⟨0, 0⟩, 0⟩) <|
  tTake wFence (.ret ⟨3, 0, 0, ⟨0, 0⟩, 0, ⟨0, 0⟩, 0⟩) <|
  tTake wSkip (.cur fun d y => if d = 2 ∧ (parseW y).1 < 0 then .bad 6 else
    tNum.bind fun n => (tMust wIf).bind fun _ => tOpd.bind fun x => (tMust [61, 61]).bind fun _ => tOpd.bind fun y => .ret ⟨6, 0, 0, x, 0, y, n⟩) <|
  (tNamed regN).bind fun r => (tMust [61]).bind fun _ => tRight r
def tWho : PT Atom := .cur fun d y => if d = 2 then
    (if (parseW y).1 < 0 ∨ 9 < (parseW y).1 then .bad 7 else .eat ((tMust [58]).bind fun _ => (tNamed regN).bind fun r => .ret ⟨(parseW y).1, r, 0, 0⟩))
  else (tNamed locN).bind fun l => .ret ⟨-1, 0, l, 0⟩
def tAtom : PT Atom := tWho.bind fun x => (tMust [61]).bind fun _ => tNum.bind fun n => .ret { x with value := n }
def tInit : PT Init := (tNamed locN).bind fun l => (tMust [61]).bind fun _ => tNum.bind fun n => (tMust [59]).bind fun _ => .ret ⟨l, n⟩
def tInsE : PT Ins := tIns.bind fun x => (tMust [59]).bind fun _ => .ret x
def tMany {α : Type} (one : PT α) : Nat → PT (List α)
  | 0 => .bad 0
  | f + 1 => tTake [125] (.ret []) (one.bind fun x => (tMany one f).bind fun l => .ret (x :: l))
def fuelP : Nat := 4001
def tThread : PT (List Ins) := (tMust [123]).bind fun _ => tMany tInsE fuelP
def tThreads : Nat → PT (List (List Ins))
  | 0 => .bad 0
  | f + 1 => tTake wThread (tThread.bind fun x => (tThreads f).bind fun l => .ret (x :: l)) (.ret [])
def tRow : Nat → PT (List Atom)
  | 0 => .bad 0
  | f + 1 => tTake [38] (tAtom.bind fun x => (tRow f).bind fun l => .ret (x :: l)) (.ret [])
def tRows : Nat → PT (List (List Atom))
  | 0 => .bad 0
  | f + 1 => tAtom.bind fun x => (tRow fuelP).bind fun l => tTake [124] ((tRows f).bind fun r => .ret ((x :: l) :: r)) (.ret [x :: l])
def tAsk (k : Int) : PT (Int × List (List Atom)) := (tRows fuelP).bind fun r => (tMust [59]).bind fun _ => .ret (k, r)
def tCond : PT (Int × List (List Atom)) := tTake wExists (tAsk 1) (tTake wForall (tAsk 2) (.ret (0, [])))
def tInits : PT (List Init) := (tMust [123]).bind fun _ => tMany tInit fuelP
def tTest : PT Test :=
  (tMust wTest).bind fun _ => tWord.bind fun n => (tMust [123]).bind fun _ => (tTake wInit tInits (.ret [])).bind fun i => (tThreads fuelP).bind fun t => tCond.bind fun c =>
    (tMust [125]).bind fun _ => .cur fun d _ => if d = 4 then .ret ⟨n, i, t, c.1, c.2⟩ else .bad 6
def pTest (s : List UInt8) : PR Test :=
  if 4000 < s.length then .error (2, 4000)
  else match goW s 0 with
    | .ok a => (match tTest.run s a with
      | .ok (t, _) => .ok t
      | .error e => .error e)
    | .error e => .error e
theorem goW_ok {s : List UInt8} {a b : Nat} (h : goW s a = .ok b) : a = b ∧ (nextW s a).2.2 = 0 := by
  unfold goW at h
  split at h
  · rename_i h0; cases h; exact ⟨rfl, h0⟩
  · cases h
theorem goW_err {s : List UInt8} {a : Nat} {c : Int} {p : Nat} (h : goW s a = .error (c, p)) : (nextW s a).2.2 = c ∧ c ≠ 0 ∧ p = skipA s a := by
  unfold goW at h
  split at h
  · cases h
  · rename_i h0; cases h; exact ⟨rfl, h0, rfl⟩
theorem eatW_ok {s : List UInt8} {a b : Nat} (h : eatW s a = .ok b) : b = (nextW s a).2.1 ∧ (nextW s b).2.2 = 0 := by
  obtain ⟨h1, h2⟩ := goW_ok h
  subst h1
  exact ⟨rfl, h2⟩
theorem PT.run_le {α : Type} {s : List UInt8} (t : PT α) : ∀ {a : Nat} {x : α} {b : Nat}, a ≤ s.length → t.run s a = .ok (x, b) → a ≤ b ∧ b ≤ s.length := by
  induction t with
  | ret x => intro a y b ha h; simp only [run, Except.ok.injEq, Prod.mk.injEq] at h; obtain ⟨_, rfl⟩ := h; exact ⟨Nat.le_refl _, ha⟩
  | bad c => intro a y b ha h; cases h
  | cur k ih => intro a y b ha h; exact ih _ _ ha h
  | eat k ih =>
    intro a y b ha h
    simp only [run] at h
    split at h
    · rename_i b' hb
      obtain ⟨rfl, _⟩ := eatW_ok hb
      have h1 := nextW_to ha
      have := ih h1.2.1 h
      omega
    · cases h
end Go.Proofs.YtpfbljkfbjjlkaaGreatDoor

/- The document's reader of tokens: over blanks and comments. -/
namespace Go.Proofs.YtpfbljkfbjjlkaaGreatDoor
open Go Go.Jq
set_option maxRecDepth 100000
set_option linter.unusedSimpArgs false
theorem u8eq {c k : UInt8} (h : (c.toNat : Int) = (k.toNat : Int)) : c = k := UInt8.toNat_inj.1 (by exact_mod_cast h)
theorem u8ne {c k : UInt8} (h : ¬ (c.toNat : Int) = (k.toNat : Int)) : c ≠ k := fun e => h (by rw [e])
theorem drop_at {s : List UInt8} {p : Nat} (h : p < s.length) : s.drop p = s.getD p 0 :: s.drop (p + 1) := by
  rw [List.drop_eq_getElem_cons h, List.getD_eq_getElem?_getD, List.getElem?_eq_getElem h, Option.getD_some]
theorem skip_same (r : List UInt8) : skipN true (10 :: r) = skipN false (10 :: r) := rfl
theorem skip_note {c : UInt8} (h : c ≠ 10) (r : List UInt8) : skipN true (c :: r) = 1 + skipN true r := by
  have : (c != 10) = true := by simpa using h
  simp only [skipN]
  rw [this]
end Go.Proofs.YtpfbljkfbjjlkaaGreatDoor

/- The lexer's bytes: kinds, has, peek, run. -/
namespace Go.Proofs.YtpfbljkfbjjlkaaGreatDoor
open Go Go.Jq
set_option maxRecDepth 100000
set_option linter.unusedSimpArgs false
theorem callMem_one {j n : Nat} {m : Mem} {cs c' : List AV} (h : inL (fun _ => none) c' = true) : callMem [(0, j)] [(0, cs)] [(0, c')] n m = mset m j c' := by
  simp [callMem, updNew, updOld, mget, renL_noId _ h]
theorem meth_callK {P : Program} {f : Nat} {rest cells : List AV} {Q : AV → List AV → Prop} (h : ACalls P f (.ptr 0 0 :: rest) [(0, cells)] fun r m' => ∃ c', m' = [(0, c')] ∧ Q r c')
    (hr : inL (fun _ => none) rest = true) (hc : inL (fun _ => none) cells = true) (hQ : ∀ r c', Q r c' → inB (fun _ => none) r = true ∧ inL (fun _ => none) c' = true)
    {j : Nat} {dst : Option Nat} {r : List AOper} {K : St → Prop} {t : Fr} {m : Mem} {n : Nat} (hm : mget m j = some cells)
    (hk : ∀ v c', Q v c' → runOps P r ⟨putF t dst v, mset m j c', n + 1⟩ K) : callK P f (.ptr j 0 :: rest) dst r K t m n := by
  refine callK_gen [(0, j)] (.ptr 0 0 :: rest) [(0, cells)] (nb := j + 1) h (by simp [okRen]) (by simp [renL, AV.ren, pget, renL_noId _ hr]) (by simp only [inL, inB, pget]; simp; exact inL_mono (fun _ h => by cases h) _ hr) ⟨by simp [pget, hm, renL_noId _ hc]; exact inL_mono (fun _ h => by cases h) _ hc, trivial⟩ (by simp [mget]) ?_
  rintro r0 m' ⟨c', rfl, hq⟩
  obtain ⟨h1, h2⟩ := hQ _ _ hq
  rw [callMem_one h2, ren_noId _ h1]
  exact hk _ _ hq
def lexC (s : List UInt8) (a rd : Nat) (code eat : Int) : List AV := [.d (.str s), .d (.int .i64 a), .d (.int .i64 rd), .d (.int .i64 code), .d (.int .i64 eat)]
theorem lexC_in (s : List UInt8) (a rd : Nat) (code eat : Int) : inL (fun _ => none) (lexC s a rd code eat) = true := rfl
def rdW (s : List UInt8) (rd k : Nat) : Nat := if k < s.length then max rd (k + 1) else rd
theorem has_calls (s : List UInt8) (a rd : Nat) (code eat : Int) (k : Nat) : ACalls Tryz.prog 119 [.ptr 0 0, .d (.int .i64 k)] [(0, lexC s a rd code eat)] fun r m' => r = .d (.bool (decide (k < s.length))) ∧ m' = [(0, lexC s a rd code eat)] := by
  refine acalls_of Tryz.func119 ac119_ok Tryz.ntmps119 Tryz.results119 rfl ?_
  unfold ac119
  refine bwp_seq fun K hK => bwp_region rfl ?_
  simp only [go_sem, ↓reduceIte]
  refine hK _ ?_; clear hK
  refine bwp_seq fun K hK => bwp_region rfl ?_
  simp only [go_sem, ↓reduceIte, lexC]
  refine hK _ ?_; clear hK
  have e : (decide ((k : Int) < (s.length : Int))) = decide (k < s.length) := by rw [decide_eq_decide]; omega
  refine bwp_ret ?_
  simp only [go_sem]
  refine aend_mem (.d (.bool (decide (k < s.length)))) [(0, 0)] [(0, lexC s a rd code eat)] ?_ rfl rfl ?_ ⟨rfl, rfl⟩
  · simp [resA, resVs, resV, fget]
  · simp [entM, pinv, mget, renL, AV.ren, lexC]
theorem peek_calls {s : List UInt8} (hs : s.length ≤ 140737488351232) (a rd : Nat) (code eat : Int) (k : Nat) : ACalls Tryz.prog 120 [.ptr 0 0, .d (.int .i64 k)] [(0, lexC s a rd code eat)] fun r m' => r = .d (.int .u8 (s.getD k 0).toNat) ∧ m' = [(0, lexC s a (rdW s rd k) code eat)] := by
  refine acalls_of Tryz.func120 ac120_ok Tryz.ntmps120 Tryz.results120 rfl ?_
  unfold ac120
  refine bwp_seq fun K hK => bwp_region rfl ?_
  simp only [go_sem, ↓reduceIte]
  refine hK _ ?_; clear hK
  refine bwp_seq fun K1 hK1 => ?_
  have hi0 : (0 : Int) ≤ (k : Int) := Int.natCast_nonneg _
  by_cases h : k < s.length
  · have h1 : ¬ (s.length : Int) ≤ (k : Int) := by omega
    have h2 : (k : Int) < s.length := by omega
    have hw : IntKind.i64.wrap ((k : Int) + 1) = ((k + 1 : Nat) : Int) := by rw [wrap_i64 (by omega) (by omega)]; rfl
    have hmx : (if (rd : Int) < ((k + 1 : Nat) : Int) then ((k + 1 : Nat) : Int) else (rd : Int)) = ((max rd (k + 1) : Nat) : Int) := by split <;> omega
    refine bwp_seq fun K hK => bwp_region rfl ?_
    simp only [go_sem, ↓reduceIte, lexC, h1]
    refine hK _ ?_; clear hK
    refine bwp_cond false (by simp [ev, fget]) (fun h => nomatch h) (fun _ => ?_)
    refine bwp_skip ?_
    refine hK1 _ ?_; clear hK1
    refine bwp_seq fun K hK => bwp_region rfl ?_
    simp only [go_sem, ↓reduceIte, hw, hmx]
    refine hK _ ?_; clear hK
    refine bwp_seq fun K hK => bwp_region rfl ?_
    simp only [go_sem, ↓reduceIte, hi0, h2, Int.toNat_natCast]
    refine hK _ ?_; clear hK
    refine bwp_ret ?_
    simp only [go_sem]
    refine aend_mem (.d (.int .u8 (s.getD k 0).toNat)) [(0, 0)] [(0, lexC s a (rdW s rd k) code eat)] ?_ rfl rfl ?_ ⟨rfl, rfl⟩
    · simp [resA, resVs, resV, fget]
    · simp [entM, pinv, mget, mset, renL, AV.ren, lexC, rdW, h, Nat.max_def]
  · have h1 : (s.length : Int) ≤ (k : Int) := by omega
    have hz : s[k]?.getD 0 = 0 := by rw [List.getElem?_eq_none (by omega)]; rfl
    refine bwp_seq fun K hK => bwp_region rfl ?_
    simp only [go_sem, ↓reduceIte, lexC, h1]
    refine hK _ ?_; clear hK
    refine bwp_cond true (by simp [ev, fget]) (fun _ => ?_) (fun h => nomatch h)
    refine bwp_seq fun K hK => bwp_region rfl ?_
    simp only [go_sem, ↓reduceIte]
    refine hK _ ?_; clear hK
    refine bwp_ret ?_
    simp only [go_sem]
    refine aend_mem (.d (.int .u8 (s.getD k 0).toNat)) [(0, 0)] [(0, lexC s a (rdW s rd k) code eat)] ?_ rfl rfl ?_ ⟨rfl, rfl⟩
    · simp [resA, resVs, resV, fget, hz]
    · simp [entM, pinv, mget, mset, renL, AV.ren, lexC, rdW, h]
theorem has_callK (s : List UInt8) (a rd : Nat) (code eat : Int) (k : Nat) {j : Nat} {dst : Option Nat} {r : List AOper} {K : St → Prop} {t : Fr} {m : Mem} {n : Nat} (hm : mget m j = some (lexC s a rd code eat))
    (hk : runOps Tryz.prog r ⟨putF t dst (.d (.bool (decide (k < s.length)))), mset m j (lexC s a rd code eat), n + 1⟩ K) : callK Tryz.prog 119 [.ptr j 0, .d (.int .i64 k)] dst r K t m n := by
  refine meth_callK (rest := [.d (.int .i64 k)]) (Q := fun r c' => r = .d (.bool (decide (k < s.length))) ∧ c' = lexC s a rd code eat) ((has_calls s a rd code eat k).mono fun r m' h => ⟨_, h.2, h.1, rfl⟩) rfl rfl ?_ hm ?_
  · rintro _ _ ⟨rfl, rfl⟩; exact ⟨rfl, rfl⟩
  · rintro _ _ ⟨rfl, rfl⟩; exact hk
theorem peek_callK {s : List UInt8} (hs : s.length ≤ 140737488351232) (a rd : Nat) (code eat : Int) (k : Nat) {j : Nat} {dst : Option Nat} {r : List AOper} {K : St → Prop} {t : Fr} {m : Mem} {n : Nat} (hm : mget m j = some (lexC s a rd code eat))
    (hk : runOps Tryz.prog r ⟨putF t dst (.d (.int .u8 (s.getD k 0).toNat)), mset m j (lexC s a (rdW s rd k) code eat), n + 1⟩ K) : callK Tryz.prog 120 [.ptr j 0, .d (.int .i64 k)] dst r K t m n := by
  refine meth_callK (rest := [.d (.int .i64 k)]) (Q := fun r c' => r = .d (.int .u8 (s.getD k 0).toNat) ∧ c' = lexC s a (rdW s rd k) code eat) ((peek_calls hs a rd code eat k).mono fun r m' h => ⟨_, h.2, h.1, rfl⟩) rfl rfl ?_ hm ?_
  · rintro _ _ ⟨rfl, rfl⟩; exact ⟨rfl, rfl⟩
  · rintro _ _ ⟨rfl, rfl⟩; exact hk
def kindW (c : UInt8) : Int := if blankB c = true then 1 else if letB c = true then 2 else if digB c = true then 3 else 0
set_option maxHeartbeats 4000000 in
theorem kind_pure (c : UInt8) : Pure Tryz.prog 121 [.d (.int .u8 c.toNat)] (.d (.int .i64 (kindW c))) := by
  refine acalls_of Tryz.func121 ac121_ok Tryz.ntmps121 Tryz.results121 rfl ?_
  unfold ac121
  refine bwp_seq fun K hK => bwp_region rfl ?_
  simp only [go_sem, ↓reduceIte]
  refine hK _ ?_; clear hK
  refine bwp_seq fun K1 hK1 => ?_
  refine bwp_block ?_
  have hb : ∀ {k : UInt8}, (c.toNat : Int) = k.toNat → blankB k = true → kindW c = 1 := fun h h1 => by rw [u8eq h]; unfold kindW; rw [if_pos h1]
  by_cases h32 : (c.toNat : Int) = 32
  · refine bwp_seq fun K hK => bwp_region rfl ?_
    simp only [go_sem, ↓reduceIte, h32]
    refine hK _ ?_; clear hK
    refine bwp_cond true (by simp [ev, fget]) (fun _ => ?_) (fun h => nomatch h)
    refine bwp_seq fun K hK => bwp_region rfl ?_
    simp only [go_sem, ↓reduceIte]
    refine hK _ ?_; clear hK
    refine bwp_ret ?_
    simp only [go_sem]
    refine aend_ret _ rfl rfl ⟨?_, rfl⟩
    simp [fget, hb (k := 32) h32 rfl]
  by_cases h9 : (c.toNat : Int) = 9
  · refine bwp_seq fun K hK => bwp_region rfl ?_
    simp only [go_sem, ↓reduceIte, h32, h9]
    refine hK _ ?_; clear hK
    refine bwp_cond true (by simp [ev, fget]) (fun _ => ?_) (fun h => nomatch h)
    refine bwp_seq fun K hK => bwp_region rfl ?_
    simp only [go_sem, ↓reduceIte]
    refine hK _ ?_; clear hK
    refine bwp_ret ?_
    simp only [go_sem]
    refine aend_ret _ rfl rfl ⟨?_, rfl⟩
    simp [fget, hb (k := 9) h9 rfl]
  by_cases h10 : (c.toNat : Int) = 10
  · refine bwp_seq fun K hK => bwp_region rfl ?_
    simp only [go_sem, ↓reduceIte, h32, h9, h10]
    refine hK _ ?_; clear hK
    refine bwp_cond true (by simp [ev, fget]) (fun _ => ?_) (fun h => nomatch h)
    refine bwp_seq fun K hK => bwp_region rfl ?_
    simp only [go_sem, ↓reduceIte]
    refine hK _ ?_; clear hK
    refine bwp_ret ?_
    simp only [go_sem]
    refine aend_ret _ rfl rfl ⟨?_, rfl⟩
    simp [fget, hb (k := 10) h10 rfl]
  have hbl : blankB c = false := by
    simp only [blankB, Bool.or_eq_false_iff, beq_eq_false_iff_ne]
    exact ⟨⟨u8ne (k := 32) h32, u8ne (k := 9) h9⟩, u8ne (k := 10) h10⟩
  refine bwp_seq fun K hK => bwp_region rfl ?_
  simp only [go_sem, ↓reduceIte, h32, h9, h10]
  refine hK _ ?_; clear hK
  refine bwp_cond false (by simp [ev, fget]) (fun h => nomatch h) (fun _ => ?_)
  by_cases h97 : (97 : Int) ≤ c.toNat
  · by_cases h122 : (c.toNat : Int) ≤ 122
    · refine bwp_seq fun K hK => bwp_region rfl ?_
      simp only [go_sem, ↓reduceIte, h97, h122]
      refine hK _ ?_; clear hK
      refine bwp_cond true (by simp [ev, fget]) (fun _ => ?_) (fun h => nomatch h)
      refine bwp_seq fun K hK => bwp_region rfl ?_
      simp only [go_sem, ↓reduceIte]
      refine hK _ ?_; clear hK
      refine bwp_ret ?_
      simp only [go_sem]
      refine aend_ret _ rfl rfl ⟨?_, rfl⟩
      have e1 : 97 ≤ c.toNat := by omega
      have e2 : c.toNat ≤ 122 := by omega
      simp [fget, kindW, hbl, letB, e1, e2]
    · have e2 : ¬ c.toNat ≤ 122 := by omega
      have h48 : (48 : Int) ≤ c.toNat := by omega
      have h57 : ¬ (c.toNat : Int) ≤ 57 := by omega
      have e3 : ¬ c.toNat ≤ 57 := by omega
      refine bwp_seq fun K hK => bwp_region rfl ?_
      simp only [go_sem, ↓reduceIte, h97, h122]
      refine hK _ ?_; clear hK
      refine bwp_cond false (by simp [ev, fget]) (fun h => nomatch h) (fun _ => ?_)
      refine bwp_seq fun K hK => bwp_region rfl ?_
      simp only [go_sem, ↓reduceIte, h48, h57]
      refine hK _ ?_; clear hK
      refine bwp_cond false (by simp [ev, fget]) (fun h => nomatch h) (fun _ => ?_)
      refine bwp_skip ?_
      refine hK1 _ ?_; clear hK1
      refine bwp_seq fun K hK => bwp_region rfl ?_
      simp only [go_sem, ↓reduceIte]
      refine hK _ ?_; clear hK
      refine bwp_ret ?_
      simp only [go_sem]
      refine aend_ret _ rfl rfl ⟨?_, rfl⟩
      simp [fget, kindW, hbl, letB, digB, e2, e3]
  · have e1 : ¬ 97 ≤ c.toNat := by omega
    refine bwp_seq fun K hK => bwp_region rfl ?_
    simp only [go_sem, ↓reduceIte, h97]
    refine hK _ ?_; clear hK
    refine bwp_cond false (by simp [ev, fget]) (fun h => nomatch h) (fun _ => ?_)
    by_cases h48 : (48 : Int) ≤ c.toNat
    · by_cases h57 : (c.toNat : Int) ≤ 57
      · refine bwp_seq fun K hK => bwp_region rfl ?_
        simp only [go_sem, ↓reduceIte, h48, h57]
        refine hK _ ?_; clear hK
        refine bwp_cond true (by simp [ev, fget]) (fun _ => ?_) (fun h => nomatch h)
        refine bwp_seq fun K hK => bwp_region rfl ?_
        simp only [go_sem, ↓reduceIte]
        refine hK _ ?_; clear hK
        refine bwp_ret ?_
        simp only [go_sem]
        refine aend_ret _ rfl rfl ⟨?_, rfl⟩
        have e2 : 48 ≤ c.toNat := by omega
        have e3 : c.toNat ≤ 57 := by omega
        simp [fget, kindW, hbl, letB, digB, e1, e2, e3]
      · refine bwp_seq fun K hK => bwp_region rfl ?_
        simp only [go_sem, ↓reduceIte, h48, h57]
        refine hK _ ?_; clear hK
        refine bwp_cond false (by simp [ev, fget]) (fun h => nomatch h) (fun _ => ?_)
        refine bwp_skip ?_
        refine hK1 _ ?_; clear hK1
        refine bwp_seq fun K hK => bwp_region rfl ?_
        simp only [go_sem, ↓reduceIte]
        refine hK _ ?_; clear hK
        refine bwp_ret ?_
        simp only [go_sem]
        refine aend_ret _ rfl rfl ⟨?_, rfl⟩
        have e3 : ¬ c.toNat ≤ 57 := by omega
        simp [fget, kindW, hbl, letB, digB, e1, e3]
    · refine bwp_seq fun K hK => bwp_region rfl ?_
      simp only [go_sem, ↓reduceIte, h48]
      refine hK _ ?_; clear hK
      refine bwp_cond false (by simp [ev, fget]) (fun h => nomatch h) (fun _ => ?_)
      refine bwp_skip ?_
      refine hK1 _ ?_; clear hK1
      refine bwp_seq fun K hK => bwp_region rfl ?_
      simp only [go_sem, ↓reduceIte]
      refine hK _ ?_; clear hK
      refine bwp_ret ?_
      simp only [go_sem]
      refine aend_ret _ rfl rfl ⟨?_, rfl⟩
      have e2 : ¬ 48 ≤ c.toNat := by omega
      simp [fget, kindW, hbl, letB, digB, e1, e2]
theorem kind_aln (c : UInt8) : (2 ≤ kindW c) ↔ alnB c = true := by
  unfold kindW alnB
  cases h1 : blankB c with
  | true =>
    simp only [blankB, Bool.or_eq_true, beq_iff_eq] at h1
    rcases h1 with (rfl | rfl) | rfl <;> decide
  | false =>
    cases letB c <;> cases digB c <;> decide
theorem kind_blank (c : UInt8) : kindW c = 1 ↔ blankB c = true := by
  unfold kindW
  cases blankB c <;> cases letB c <;> cases digB c <;> decide
end Go.Proofs.YtpfbljkfbjjlkaaGreatDoor

/- The lexer over blanks and comments, over letters and digits. -/
namespace Go.Proofs.YtpfbljkfbjjlkaaGreatDoor
open Go Go.Jq
set_option maxRecDepth 100000
set_option linter.unusedSimpArgs false
def lkS (s : List UInt8) (p rd : Nat) : St := ⟨[(0, .ptr 0 0)], [(0, lexC s p rd 0 0)], 1⟩
theorem rdW_lt {s : List UInt8} {rd k : Nat} (h : k < s.length) : rdW s rd k = max rd (k + 1) := by unfold rdW; rw [if_pos h]
def rdIn (s : List UInt8) (rd0 p rd : Nat) : Prop := rd0 ≤ rd ∧ p ≤ rd ∧ rd ≤ s.length ∧ rd ≤ max rd0 (p + 1)
theorem rdIn_peek {s : List UInt8} {rd0 p rd : Nat} (h : rdIn s rd0 p rd) (hp : p < s.length) : rdIn s rd0 p (rdW s rd p) ∧ rdIn s rd0 (p + 1) (rdW s rd p) := by
  rw [rdW_lt hp]
  unfold rdIn at *
  omega
set_option maxHeartbeats 8000000 in
theorem lk_inner {s : List UInt8} (hs : s.length ≤ 140737488351232) {T p0 rd0 rd1 : Nat} (hp0 : p0 ≤ s.length) (h0 : p0 + skipN true (s.drop p0) = T) (hr0 : rdIn s rd0 p0 rd1) {Q : Exit → St → Prop}
    (hQ : ∀ p rd, p0 ≤ p → p ≤ s.length → p + skipN false (s.drop p) = T → (p = p0 → p0 < s.length → s.getD p0 0 = 10) → rdIn s rd0 p rd → Q (.exit 3) (lkS s p rd)) :
    BWP Tryz.prog 1 51 (.loop ac118L0) (lkS s p0 rd1) Q := by
  refine bwp_fam (ι := { p : Nat × Nat // p0 ≤ p.1 ∧ p.1 ≤ s.length ∧ p.1 + skipN true (s.drop p.1) = T ∧ rdIn s rd0 p.1 p.2 }) (fun p => lkS s p.1.1 p.1.2) (fun p => s.length - p.1.1) ⟨(p0, rd1), Nat.le_refl _, hp0, h0, hr0⟩ ?_
  rintro ⟨⟨p, rd⟩, hle, hl, hT, hrd⟩
  simp only at hle hl hT hrd ⊢
  unfold ac118L0 lkS
  refine bwp_seq fun K1 hK1 => ?_
  refine bwp_seq fun K hK => bwp_region rfl ?_
  simp only [go_sem, ↓reduceIte, lexC]
  refine has_callK s p rd 0 0 p rfl ?_
  by_cases hlt : p < s.length
  · have hd := drop_at hlt
    have hpk := rdIn_peek hrd hlt
    generalize hc : s.getD p 0 = c at hd
    rw [hd] at hT
    simp only [go_sem, ↓reduceIte, hlt, decide_true, lexC, mset]
    refine peek_callK hs p rd 0 0 p rfl ?_
    rw [hc]
    generalize rdW s rd p = rd' at hpk ⊢
    by_cases h10 : (c.toNat : Int) = 10
    · have hc10 := u8eq (k := 10) h10
      simp only [go_sem, ↓reduceIte, h10, lexC, mset]
      refine hK _ ?_; clear hK
      refine bwp_cond false (by simp [ev, fget]) (fun h => nomatch h) (fun _ => ?_)
      refine bwp_leads (S' := lkS s p rd') (Leads.ent [(0, 0)] ⟨by simp [entT, fget, AV.ren, renL, pget, lkS, lexC], by simp [entM, pinv, mget, mset, renL, AV.ren, pget, renL_append, -List.map_map, lkS, lexC], rfl, rfl⟩) ?_
      refine bwp_exit (hQ p rd' hle hl ?_ (fun he _ => ?_) hpk.1)
      · rw [hc10, skip_same] at hT
        rw [hd, hc10]
        exact hT
      · rw [← he, hc, hc10]
    · have hc10 := u8ne (k := 10) h10
      rw [skip_note hc10] at hT
      have hw : IntKind.i64.wrap ((p : Int) + 1) = ((p + 1 : Nat) : Int) := by rw [wrap_i64 (by omega) (by omega)]; rfl
      simp only [go_sem, ↓reduceIte, h10, lexC, mset]
      refine hK _ ?_; clear hK
      refine bwp_cond true (by simp [ev, fget]) (fun _ => ?_) (fun h => nomatch h)
      refine bwp_skip ?_
      refine hK1 _ ?_; clear hK1
      refine bwp_block ?_
      refine bwp_region rfl ?_
      simp only [go_sem, ↓reduceIte, hw]
      refine ⟨⟨(p + 1, rd'), by simp only; omega, by simp only; omega, by simp only; omega, hpk.2⟩, by simp only; omega, ?_⟩
      exact Leads.ent [(0, 0)] ⟨by simp [entT, fget, AV.ren, renL, pget, lkS], by simp [entM, pinv, mget, mset, renL, AV.ren, lkS, lexC], rfl, rfl⟩
  · have he : p = s.length := by omega
    simp only [go_sem, ↓reduceIte, hlt, decide_false, lexC, mset]
    refine hK _ ?_; clear hK
    refine bwp_cond false (by simp [ev, fget]) (fun h => nomatch h) (fun _ => ?_)
    refine bwp_leads (S' := lkS s p rd) (Leads.ent [(0, 0)] ⟨by simp [entT, fget, AV.ren, renL, pget, lkS, lexC], by simp [entM, pinv, mget, mset, renL, AV.ren, pget, renL_append, -List.map_map, lkS, lexC], rfl, rfl⟩) ?_
    refine bwp_exit (hQ p rd hle hl ?_ (fun h1 h2 => by omega) hrd)
    subst he
    rw [List.drop_length] at hT ⊢
    exact hT
set_option maxHeartbeats 8000000 in
theorem lk_outer {s : List UInt8} (hs : s.length ≤ 140737488351232) {a rd0 : Nat} (ha : a ≤ s.length) (hr0 : a ≤ rd0 ∧ rd0 ≤ s.length) {Q : Exit → St → Prop}
    (hQ : ∀ rd, rdIn s rd0 (skipA s a) rd → Q (.exit 0) (lkS s (skipA s a) rd)) (hR : ∀ t rd n, rdIn s rd0 (skipA s a) rd → Q .ret ⟨t, [(0, lexC s (skipA s a) rd 0 0)], n⟩) :
    BWP Tryz.prog 1 51 (.loop ac118L1) (lkS s a rd0) Q := by
  refine bwp_fam (ι := { p : Nat × Nat // p.1 ≤ s.length ∧ p.1 + skipN false (s.drop p.1) = skipA s a ∧ rdIn s rd0 p.1 p.2 }) (fun p => lkS s p.1.1 p.1.2) (fun p => s.length - p.1.1) ⟨(a, rd0), ha, rfl, by unfold rdIn; simp only; omega⟩ ?_
  rintro ⟨⟨p, rd⟩, hl, hT, hrd⟩
  simp only at hl hT hrd ⊢
  unfold ac118L1 lkS
  refine bwp_seq fun K1 hK1 => ?_
  refine bwp_seq fun K hK => bwp_region rfl ?_
  simp only [go_sem, ↓reduceIte, lexC]
  refine has_callK s p rd 0 0 p rfl ?_
  by_cases hlt : p < s.length
  · have hd := drop_at hlt
    have hw : IntKind.i64.wrap ((p : Int) + 1) = ((p + 1 : Nat) : Int) := by rw [wrap_i64 (by omega) (by omega)]; rfl
    have hpk := rdIn_peek hrd hlt
    generalize hc : s.getD p 0 = c at hd
    rw [hd] at hT
    simp only [go_sem, ↓reduceIte, hlt, decide_true, lexC, mset]
    refine hK _ ?_; clear hK
    refine bwp_cond true (by simp [ev, fget]) (fun _ => ?_) (fun h => nomatch h)
    refine bwp_skip ?_
    refine hK1 _ ?_; clear hK1
    refine bwp_block ?_
    refine bwp_seq fun K hK => bwp_region rfl ?_
    simp only [go_sem, ↓reduceIte]
    refine peek_callK hs p rd 0 0 p rfl ?_
    rw [hc]
    generalize rdW s rd p = rd' at hpk ⊢
    simp only [go_sem, ↓reduceIte, lexC, mset]
    refine hK _ ?_; clear hK
    refine bwp_block ?_
    by_cases h35 : (c.toNat : Int) = 35
    · have hc35 := u8eq (k := 35) h35
      refine bwp_seq fun K hK => bwp_region rfl ?_
      simp only [go_sem, ↓reduceIte, h35]
      refine hK _ ?_; clear hK
      refine bwp_cond true (by simp [ev, fget]) (fun _ => ?_) (fun h => nomatch h)
      refine bwp_block ?_
      refine bwp_leads (S' := lkS s p rd') (Leads.ent [(0, 0)] ⟨by simp [entT, fget, AV.ren, renL, pget, lkS, lexC], by simp [entM, pinv, mget, mset, renL, AV.ren, pget, renL_append, -List.map_map, lkS, lexC], rfl, rfl⟩) ?_
      refine lk_inner hs (T := skipA s a) (rd0 := rd0) hl ?_ hpk.1 ?_
      · rw [hd, hc35, skip_note (by decide)]
        rw [hc35] at hT
        exact hT
      · intro q rdq hq1 hq2 hq3 hq4 hq5
        unfold lkS
        simp only [go_sem, ↓reduceIte]
        refine ⟨⟨(q, rdq), hq2, hq3, hq5⟩, ?_, Leads.ent [(0, 0)] ⟨by simp [entT, fget, AV.ren, renL, pget, lkS], by simp [entM, pinv, mget, mset, renL, AV.ren, lkS, lexC], rfl, rfl⟩⟩
        simp only
        have : q ≠ p := fun e => by
          have := hq4 e hlt
          rw [hc, hc35] at this
          cases this
        omega
    · have hc35 := u8ne (k := 35) h35
      refine bwp_seq fun K hK => bwp_region rfl ?_
      simp only [go_sem, ↓reduceIte, h35]
      refine hK _ ?_; clear hK
      refine bwp_cond false (by simp [ev, fget]) (fun h => nomatch h) (fun _ => ?_)
      have k1 := kind_pure c
      refine bwp_seq fun K hK => bwp_region rfl ?_
      simp only [go_sem, ↓reduceIte]
      refine callK_pure k1 rfl rfl ?_
      by_cases hb : blankB c = true
      · have hk1 := (kind_blank c).2 hb
        simp only [go_sem, ↓reduceIte, hk1]
        refine hK _ ?_; clear hK
        refine bwp_cond true (by simp [ev, fget]) (fun _ => ?_) (fun h => nomatch h)
        refine bwp_region rfl ?_
        simp only [go_sem, ↓reduceIte, hw]
        refine ⟨⟨(p + 1, rd'), by simp only; omega, ?_, hpk.2⟩, by simp only; omega, Leads.ent [(0, 0)] ⟨by simp [entT, fget, AV.ren, renL, pget, lkS], by simp [entM, pinv, mget, mset, renL, AV.ren, lkS, lexC], rfl, rfl⟩⟩
        simp only [skipN] at hT
        rw [if_pos hb] at hT
        simp only
        omega
      · have hk1 : ¬ kindW c = 1 := fun h => hb ((kind_blank c).1 h)
        have hz : skipN false (c :: s.drop (p + 1)) = 0 := skip_zero _ ⟨by simpa using hb, hc35⟩
        rw [hz] at hT
        have hT' : p = skipA s a := by omega
        simp only [go_sem, ↓reduceIte, hk1]
        refine hK _ ?_; clear hK
        refine bwp_cond false (by simp [ev, fget]) (fun h => nomatch h) (fun _ => ?_)
        refine bwp_ret ?_
        simp only [go_sem, ↓reduceIte]
        have := fun t n => hR t rd' n (by rw [← hT']; exact hpk.1)
        rw [← hT'] at this
        exact this _ _
  · have he : p = s.length := by omega
    subst he
    rw [List.drop_length] at hT
    have hT' : s.length = skipA s a := by rw [← hT]; rfl
    simp only [go_sem, ↓reduceIte, hlt, decide_false, lexC, mset]
    refine hK _ ?_; clear hK
    refine bwp_cond false (by simp [ev, fget]) (fun h => nomatch h) (fun _ => ?_)
    refine bwp_leads (S' := lkS s s.length rd) (Leads.ent [(0, 0)] ⟨by simp [entT, fget, AV.ren, renL, pget, lkS, lexC], by simp [entM, pinv, mget, mset, renL, AV.ren, pget, renL_append, -List.map_map, lkS, lexC], rfl, rfl⟩) ?_
    refine bwp_exit ?_
    have := hQ rd (by rw [← hT']; exact hrd)
    rw [← hT'] at this
    exact this
theorem skip_calls {s : List UInt8} (hs : s.length ≤ 140737488351232) {a rd : Nat} (ha : a ≤ s.length) (hr : a ≤ rd ∧ rd ≤ s.length) :
    ACalls Tryz.prog 118 [.ptr 0 0] [(0, lexC s a rd 0 0)] fun r m' => r = .tup [] ∧ ∃ rd', rdIn s rd (skipA s a) rd' ∧ m' = [(0, lexC s (skipA s a) rd' 0 0)] := by
  refine acalls_of Tryz.func118 ac118_ok Tryz.ntmps118 Tryz.results118 rfl ?_
  unfold ac118
  refine bwp_block ?_
  refine bwp_leads (S' := lkS s a rd) (Leads.ent [(0, 0)] ⟨by simp [entT, fget, AV.ren, renL, pget, lkS, lexC, frm], by simp [entM, pinv, mget, mset, renL, AV.ren, pget, renL_append, -List.map_map, lkS, lexC, frm], rfl, rfl⟩) ?_
  refine lk_outer hs ha hr ?_ ?_
  · intro rd' h
    unfold lkS
    simp only [go_sem, ↓reduceIte]
    refine ⟨.tup [], rfl, [(0, 0)], [(0, lexC s (skipA s a) rd' 0 0)], rfl, rfl, ?_, ⟨rfl, rd', h, rfl⟩⟩
    simp [entM, pinv, mget, renL, AV.ren, lexC]
  · intro t rd' n h
    simp only [go_sem, ↓reduceIte]
    refine aend_mem (.tup []) [(0, 0)] [(0, lexC s (skipA s a) rd' 0 0)] rfl rfl rfl ?_ ⟨rfl, rd', h, rfl⟩
    simp [entM, pinv, mget, renL, AV.ren, lexC]
def rlS (s : List UInt8) (a p rd : Nat) : St := ⟨[(1, .d (.int .i64 p)), (0, .ptr 0 0), (4, .d (.int .i64 0))], [(0, lexC s a rd 0 0)], 1⟩
set_option maxHeartbeats 8000000 in
theorem rl_loop {s : List UInt8} (hs : s.length ≤ 140737488351232) {a p0 rd0 rd1 : Nat} (hp0 : p0 ≤ s.length) (hr0 : rdIn s rd0 p0 rd1) {Q : Exit → St → Prop}
    (hQ : ∀ rd, rdIn s rd0 (p0 + runL (s.drop p0)) rd → Q (.exit 0) (rlS s a (p0 + runL (s.drop p0)) rd)) :
    BWP Tryz.prog 1 18 (.loop ac122L0) (rlS s a p0 rd1) Q := by
  refine bwp_fam (ι := { p : Nat × Nat // p.1 ≤ s.length ∧ p.1 + runL (s.drop p.1) = p0 + runL (s.drop p0) ∧ rdIn s rd0 p.1 p.2 }) (fun p => rlS s a p.1.1 p.1.2) (fun p => s.length - p.1.1) ⟨(p0, rd1), hp0, rfl, hr0⟩ ?_
  rintro ⟨⟨p, rd⟩, hl, hT, hrd⟩
  simp only at hl hT hrd ⊢
  unfold ac122L0 rlS
  have hout : ∀ rd', rdIn s rd0 p rd' → runL (s.drop p) = 0 → Q (.exit 0) (rlS s a p rd') := fun rd' h h0 => by
    rw [h0] at hT
    have := hQ rd' (by rw [← hT]; exact h)
    rw [← hT] at this
    exact this
  refine bwp_seq fun K1 hK1 => ?_
  refine bwp_seq fun K hK => bwp_region rfl ?_
  simp only [go_sem, ↓reduceIte, lexC]
  refine has_callK s a rd 0 0 p rfl ?_
  by_cases hlt : p < s.length
  · have hd := drop_at hlt
    have hpk := rdIn_peek hrd hlt
    generalize hc : s.getD p 0 = c at hd
    simp only [go_sem, ↓reduceIte, hlt, decide_true, lexC, mset]
    refine peek_callK hs a rd 0 0 p rfl ?_
    rw [hc]
    generalize rdW s rd p = rd' at hpk ⊢
    have k1 := kind_pure c
    simp only [go_sem, ↓reduceIte, lexC, mset]
    refine callK_pure k1 rfl rfl ?_
    by_cases ha : alnB c = true
    · have hk := (kind_aln c).2 ha
      have hw : IntKind.i64.wrap ((p : Int) + 1) = ((p + 1 : Nat) : Int) := by rw [wrap_i64 (by omega) (by omega)]; rfl
      rw [hd, runL, if_pos ha] at hT
      simp only [go_sem, ↓reduceIte, hk]
      refine hK _ ?_; clear hK
      refine bwp_cond true (by simp [ev, fget]) (fun _ => ?_) (fun h => nomatch h)
      refine bwp_skip ?_
      refine hK1 _ ?_; clear hK1
      refine bwp_block ?_
      refine bwp_region rfl ?_
      simp only [go_sem, ↓reduceIte, hw]
      refine ⟨⟨(p + 1, rd'), by simp only; omega, by simp only; omega, hpk.2⟩, by simp only; omega, ?_⟩
      exact Leads.ent [(0, 0)] ⟨by simp [entT, fget, AV.ren, renL, pget, rlS], by simp [entM, pinv, mget, mset, renL, AV.ren, rlS, lexC], rfl, rfl⟩
    · have hk : ¬ 2 ≤ kindW c := fun h => ha ((kind_aln c).1 h)
      simp only [go_sem, ↓reduceIte, hk]
      refine hK _ ?_; clear hK
      refine bwp_cond false (by simp [ev, fget]) (fun h => nomatch h) (fun _ => ?_)
      refine bwp_leads (S' := rlS s a p rd') (Leads.ent [(0, 0)] ⟨by simp [entT, fget, AV.ren, renL, pget, rlS, lexC], by simp [entM, pinv, mget, mset, renL, AV.ren, pget, renL_append, -List.map_map, rlS, lexC], rfl, rfl⟩) ?_
      exact bwp_exit (hout rd' hpk.1 (by rw [hd, runL, if_neg ha]))
  · have he : p = s.length := by omega
    simp only [go_sem, ↓reduceIte, hlt, decide_false, lexC, mset]
    refine hK _ ?_; clear hK
    refine bwp_cond false (by simp [ev, fget]) (fun h => nomatch h) (fun _ => ?_)
    refine bwp_leads (S' := rlS s a p rd) (Leads.ent [(0, 0)] ⟨by simp [entT, fget, AV.ren, renL, pget, rlS, lexC], by simp [entM, pinv, mget, mset, renL, AV.ren, pget, renL_append, -List.map_map, rlS, lexC], rfl, rfl⟩) ?_
    exact bwp_exit (hout rd hrd (by rw [he, List.drop_length]; rfl))
theorem run_calls {s : List UInt8} (hs : s.length ≤ 140737488351232) {a p rd : Nat} (hp : p ≤ s.length) (hr : p ≤ rd ∧ rd ≤ s.length) :
    ACalls Tryz.prog 122 [.ptr 0 0, .d (.int .i64 p)] [(0, lexC s a rd 0 0)] fun r m' => r = .d (.int .i64 (p + runL (s.drop p) : Nat)) ∧ ∃ rd', rdIn s rd (p + runL (s.drop p)) rd' ∧ m' = [(0, lexC s a rd' 0 0)] := by
  refine acalls_of Tryz.func122 ac122_ok Tryz.ntmps122 Tryz.results122 rfl ?_
  unfold ac122
  refine bwp_seq fun K hK => bwp_region rfl ?_
  simp only [go_sem, ↓reduceIte]
  refine hK _ ?_; clear hK
  refine bwp_seq fun K1 hK1 => ?_
  refine bwp_block ?_
  refine bwp_leads (S' := rlS s a p rd) (Leads.ent [(0, 0)] ⟨by simp [entT, fget, AV.ren, renL, pget, rlS, lexC, frm], by simp [entM, pinv, mget, mset, renL, AV.ren, pget, renL_append, -List.map_map, rlS, lexC, frm], rfl, rfl⟩) ?_
  refine rl_loop hs (rd0 := rd) hp (by unfold rdIn; omega) ?_
  intro rd' h
  unfold rlS
  simp only [go_sem, ↓reduceIte]
  refine hK1 _ ?_; clear hK1
  refine bwp_seq fun K hK => bwp_region rfl ?_
  simp only [go_sem, ↓reduceIte]
  refine hK _ ?_; clear hK
  refine bwp_ret ?_
  simp only [go_sem]
  refine aend_mem (.d (.int .i64 (p + runL (s.drop p) : Nat))) [(0, 0)] [(0, lexC s a rd' 0 0)] ?_ rfl rfl ?_ ⟨rfl, rd', h, rfl⟩
  · simp [resA, resVs, resV, fget]
  · simp [entM, pinv, mget, renL, AV.ren, lexC]
theorem skip_callK {s : List UInt8} (hs : s.length ≤ 140737488351232) {a rd : Nat} (ha : a ≤ s.length) (hr : a ≤ rd ∧ rd ≤ s.length) {j : Nat} {dst : Option Nat} {r : List AOper} {K : St → Prop} {t : Fr} {m : Mem} {n : Nat} (hm : mget m j = some (lexC s a rd 0 0))
    (hk : ∀ rd', rdIn s rd (skipA s a) rd' → runOps Tryz.prog r ⟨putF t dst (.tup []), mset m j (lexC s (skipA s a) rd' 0 0), n + 1⟩ K) : callK Tryz.prog 118 [.ptr j 0] dst r K t m n := by
  refine meth_callK (rest := []) (Q := fun r c' => r = .tup [] ∧ ∃ rd', rdIn s rd (skipA s a) rd' ∧ c' = lexC s (skipA s a) rd' 0 0) ((skip_calls hs ha hr).mono fun r m' h => ?_) rfl rfl ?_ hm ?_
  · obtain ⟨h1, rd', h2, h3⟩ := h
    exact ⟨_, h3, h1, rd', h2, rfl⟩
  · rintro _ _ ⟨rfl, rd', _, rfl⟩; exact ⟨rfl, rfl⟩
  · rintro _ _ ⟨rfl, rd', h, rfl⟩; exact hk rd' h
theorem run_callK {s : List UInt8} (hs : s.length ≤ 140737488351232) {a p rd : Nat} (hp : p ≤ s.length) (hr : p ≤ rd ∧ rd ≤ s.length) {j : Nat} {dst : Option Nat} {r : List AOper} {K : St → Prop} {t : Fr} {m : Mem} {n : Nat} (hm : mget m j = some (lexC s a rd 0 0))
    (hk : ∀ rd', rdIn s rd (p + runL (s.drop p)) rd' → runOps Tryz.prog r ⟨putF t dst (.d (.int .i64 (p + runL (s.drop p) : Nat))), mset m j (lexC s a rd' 0 0), n + 1⟩ K) : callK Tryz.prog 122 [.ptr j 0, .d (.int .i64 p)] dst r K t m n := by
  refine meth_callK (rest := [.d (.int .i64 p)]) (Q := fun r c' => r = .d (.int .i64 (p + runL (s.drop p) : Nat)) ∧ ∃ rd', rdIn s rd (p + runL (s.drop p)) rd' ∧ c' = lexC s a rd' 0 0) ((run_calls hs hp hr).mono fun r m' h => ?_) rfl rfl ?_ hm ?_
  · obtain ⟨h1, rd', h2, h3⟩ := h
    exact ⟨_, h3, h1, rd', h2, rfl⟩
  · rintro _ _ ⟨rfl, rd', _, rfl⟩; exact ⟨rfl, rfl⟩
  · rintro _ _ ⟨rfl, rd', h, rfl⟩; exact hk rd' h
end Go.Proofs.YtpfbljkfbjjlkaaGreatDoor
